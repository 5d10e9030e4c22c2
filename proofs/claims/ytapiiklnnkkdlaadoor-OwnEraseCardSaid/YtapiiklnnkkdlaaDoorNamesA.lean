import Derived.Test.YtapiiklnnkkdlaaDoorOpen
import Derived.Test.YtapiiklnnkkdlaaDoorTy
/- Terms, cases, functions, values: as trees in Lean, and what a type allows of them. -/
namespace Go.Proofs.YtapiiklnnkkdlaaDoor
open Go.RowKit
set_option linter.unusedVariables false
mutual
inductive Tm where
  | mk (kind n : Int) (name token : ByteArray) (vars : List ByteArray) (args : List Tm) (cases : List Cs)
inductive Cs where
  | mk (tag : Int) (vars : List ByteArray) (body : Tm)
end
structure Fn where
  name : ByteArray
  params : List ByteArray
  body : Tm
mutual
def Tm.Ok : Tm → Prop
  | .mk _ _ a b vs xs cs => (a.size ≤ 140737488355328 ∧ b.size ≤ 140737488355328 ∧ (∀ s ∈ vs, s.size ≤ 140737488355328)) ∧ (vs.length ≤ 8796093022207 ∧ xs.length ≤ 1172812402960 ∧ cs.length ≤ 925904528652) ∧ Tm.Oks xs ∧ Cs.Oks cs
def Tm.Oks : List Tm → Prop
  | [] => True
  | t :: r => t.Ok ∧ Tm.Oks r
def Cs.Ok : Cs → Prop
  | .mk _ vs b => (∀ s ∈ vs, s.size ≤ 140737488355328) ∧ vs.length ≤ 8796093022207 ∧ b.Ok
def Cs.Oks : List Cs → Prop
  | [] => True
  | c :: r => c.Ok ∧ Cs.Oks r
end
theorem Tm.Oks_iff : ∀ {l : List Tm}, Tm.Oks l ↔ ∀ t ∈ l, t.Ok
  | [] => by simp [Tm.Oks]
  | t :: r => by simp [Tm.Oks, Tm.Oks_iff (l := r)]
theorem Cs.Oks_iff : ∀ {l : List Cs}, Cs.Oks l ↔ ∀ t ∈ l, t.Ok
  | [] => by simp [Cs.Oks]
  | t :: r => by simp [Cs.Oks, Cs.Oks_iff (l := r)]
structure Fn.Ok (f : Fn) : Prop where
  name : f.name.size ≤ 140737488355328
  params : f.params.length ≤ 8796093022207
  sizes : ∀ s ∈ f.params, s.size ≤ 140737488355328
  body : f.body.Ok
structure FnsOk (l : List Fn) : Prop where
  len : l.length ≤ 879609302220
  all : ∀ f ∈ l, f.Ok
theorem FnsOk.fn {l : List Fn} (h : FnsOk l) : ∀ f ∈ l, f.body.Ok ∧ f.params.length ≤ 8796093022207 := fun f hf => ⟨(h.all f hf).body, (h.all f hf).params⟩
abbrev strR (s : ByteArray) : List D := [.str s]
abbrev strsD (l : List ByteArray) : D := .sl (l.map strR)
mutual
def Tm.row : Tm → List D
  | .mk k n a b vs xs cs => [.int k, .int n, .str a, .str b, strsD vs, .sl (Tm.rows xs), .sl (Cs.rows cs)]
def Tm.rows : List Tm → List (List D)
  | [] => []
  | t :: r => t.row :: Tm.rows r
def Cs.row : Cs → List D
  | .mk t vs b => .int t :: strsD vs :: b.row
def Cs.rows : List Cs → List (List D)
  | [] => []
  | c :: r => c.row :: Cs.rows r
end
theorem Tm.rows_eq (l : List Tm) : Tm.rows l = l.map Tm.row := by
  induction l with
  | nil => rfl
  | cons t r ih => simp only [Tm.rows, List.map_cons, ih]
theorem Cs.rows_eq (l : List Cs) : Cs.rows l = l.map Cs.row := by
  induction l with
  | nil => rfl
  | cons t r ih => simp only [Cs.rows, List.map_cons, ih]
def Fn.row (f : Fn) : List D := .str f.name :: strsD f.params :: f.body.row
mutual
def Tm.sz : Tm → Nat
  | .mk _ _ _ _ _ xs cs => 1 + Tm.szs xs + Cs.szs cs
def Tm.szs : List Tm → Nat
  | [] => 0
  | t :: r => t.sz + Tm.szs r
def Cs.sz : Cs → Nat
  | .mk _ _ b => b.sz
def Cs.szs : List Cs → Nat
  | [] => 0
  | c :: r => c.sz + Cs.szs r
end
theorem Tm.szs_mem {t : Tm} : ∀ {l : List Tm}, t ∈ l → t.sz ≤ Tm.szs l
  | [], h => by cases h
  | x :: l, h => by
    simp only [Tm.szs]
    rcases List.mem_cons.1 h with rfl | h
    · omega
    · have := Tm.szs_mem h; omega
theorem Cs.szs_mem {t : Cs} : ∀ {l : List Cs}, t ∈ l → t.sz ≤ Cs.szs l
  | [], h => by cases h
  | x :: l, h => by
    simp only [Cs.szs]
    rcases List.mem_cons.1 h with rfl | h
    · omega
    · have := Cs.szs_mem h; omega
def Cs.tag : Cs → Int | .mk t _ _ => t
def Cs.vars : Cs → List ByteArray | .mk _ v _ => v
def Cs.body : Cs → Tm | .mk _ _ b => b
def Tm.kind : Tm → Int | .mk k _ _ _ _ _ _ => k
def Tm.n : Tm → Int | .mk _ n _ _ _ _ _ => n
def Tm.name : Tm → ByteArray | .mk _ _ a _ _ _ _ => a
def Tm.token : Tm → ByteArray | .mk _ _ _ b _ _ _ => b
def Tm.vars : Tm → List ByteArray | .mk _ _ _ _ v _ _ => v
def Tm.args : Tm → List Tm | .mk _ _ _ _ _ a _ => a
def Tm.cases : Tm → List Cs | .mk _ _ _ _ _ _ c => c
abbrev tmAV : Tm → AV
  | .mk k n a b vs xs cs => .agg [.d (.int k), .d (.int n), .d (.str a), .d (.str b), .d (strsD vs), .d (.sl (xs.map Tm.row)), .d (.sl (cs.map Cs.row))]
abbrev fnsAV (l : List Fn) : AV := .d (.sl (l.map Fn.row))
abbrev strsAV (l : List ByteArray) : AV := .d (strsD l)
section
variable {ds : List D}
theorem strs_ok (h : RT Tryd.prog 30 ds) : ∃ l : List ByteArray, ds = [strsD l] ∧ l.length ≤ 8796093022207 ∧ ∀ s ∈ l, s.size ≤ 140737488355328 := by
  obtain ⟨l, rfl, hl, hs⟩ := h.strs_inv Tryd.underlying30 Tryd.underlying9
  rw [show Tryd.prog.bytesOf 9 = 16 by kernel_rfl] at hl
  unfold reachBytes at hl hs
  exact ⟨l, rfl, by omega, fun s hm => by have := hs s hm; omega⟩
theorem tm_inv : ∀ (t : TypeId) (ds : List D), RT Tryd.prog t ds → (t = 34 → ∃ x : Tm, ds = x.row ∧ x.Ok) ∧ (t = 31 → ∃ x : List Tm, ds = [.sl (x.map Tm.row)] ∧ x.length ≤ 1172812402960 ∧ ∀ y ∈ x, y.Ok) ∧ (t = 40 → ∃ x : Cs, ds = x.row ∧ x.Ok) ∧ (t = 32 → ∃ x : List Cs, ds = [.sl (x.map Cs.row)] ∧ x.length ≤ 925904528652 ∧ ∀ y ∈ x, y.Ok) := by
  intro t ds h
  induction h with
  | int n h lo hi =>
    refine ⟨?_, ?_, ?_, ?_⟩ <;> (rintro rfl; first | (rw [Tryd.underlying34] at h; cases h) | (rw [Tryd.underlying31] at h; cases h) | (rw [Tryd.underlying40] at h; cases h) | (rw [Tryd.underlying32] at h; cases h))
  | bool b h =>
    refine ⟨?_, ?_, ?_, ?_⟩ <;> (rintro rfl; first | (rw [Tryd.underlying34] at h; cases h) | (rw [Tryd.underlying31] at h; cases h) | (rw [Tryd.underlying40] at h; cases h) | (rw [Tryd.underlying32] at h; cases h))
  | str s h hs =>
    refine ⟨?_, ?_, ?_, ?_⟩ <;> (rintro rfl; first | (rw [Tryd.underlying34] at h; cases h) | (rw [Tryd.underlying31] at h; cases h) | (rw [Tryd.underlying40] at h; cases h) | (rw [Tryd.underlying32] at h; cases h))
  | sl rows h hl hr ih =>
    refine ⟨?_, ?_, ?_, ?_⟩
    · rintro rfl; rw [Tryd.underlying34] at h; cases h
    · rintro rfl
      rw [Tryd.underlying31] at h
      cases h
      obtain ⟨l, rfl, hp⟩ := rows_inv (row := Tm.row) (p := Tm.Ok) fun r hr' => (ih r hr').1 rfl
      refine ⟨l, rfl, ?_, hp⟩
      rw [List.length_map, show Tryd.prog.bytesOf 34 = 120 by kernel_rfl] at hl
      unfold reachBytes at hl
      omega
    · rintro rfl; rw [Tryd.underlying40] at h; cases h
    · rintro rfl
      rw [Tryd.underlying32] at h
      cases h
      obtain ⟨l, rfl, hp⟩ := rows_inv (row := Cs.row) (p := Cs.Ok) fun r hr' => (ih r hr').2.2.1 rfl
      refine ⟨l, rfl, ?_, hp⟩
      rw [List.length_map, show Tryd.prog.bytesOf 40 = 152 by kernel_rfl] at hl
      unfold reachBytes at hl
      omega
  | struct parts h hl hf ih =>
    refine ⟨?_, ?_, ?_, ?_⟩
    · rintro rfl
      rw [Tryd.underlying34] at h
      cases h
      match parts, hl with
      | [p0, p1, p2, p3, p4, p5, p6], _ =>
        obtain ⟨k, rfl, _⟩ := (hf 0 _ p0 rfl rfl).int_inv Tryd.underlying3
        obtain ⟨n, rfl, _⟩ := (hf 1 _ p1 rfl rfl).int_inv Tryd.underlying3
        obtain ⟨a, rfl, ha⟩ := (hf 2 _ p2 rfl rfl).str_inv Tryd.underlying9
        obtain ⟨b, rfl, hb⟩ := (hf 3 _ p3 rfl rfl).str_inv Tryd.underlying9
        obtain ⟨vs, rfl, hv, hvs⟩ := strs_ok (hf 4 _ p4 rfl rfl)
        obtain ⟨xs, rfl, hx, hxs⟩ := (ih 5 _ p5 rfl rfl).2.1 rfl
        obtain ⟨cs, rfl, hc, hcs⟩ := (ih 6 _ p6 rfl rfl).2.2.2 rfl
        unfold reachBytes at ha hb
        exact ⟨.mk k n a b vs xs cs, by simp [Tm.row, Tm.rows_eq, Cs.rows_eq], ⟨⟨by omega, by omega, hvs⟩, ⟨hv, hx, hc⟩, Tm.Oks_iff.2 hxs, Cs.Oks_iff.2 hcs⟩⟩
    · rintro rfl; rw [Tryd.underlying31] at h; cases h
    · rintro rfl
      rw [Tryd.underlying40] at h
      cases h
      match parts, hl with
      | [p0, p1, p2], _ =>
        obtain ⟨k, rfl, _⟩ := (hf 0 _ p0 rfl rfl).int_inv Tryd.underlying3
        obtain ⟨vs, rfl, hv, hvs⟩ := strs_ok (hf 1 _ p1 rfl rfl)
        obtain ⟨b, rfl, hb⟩ := (ih 2 _ p2 rfl rfl).1 rfl
        exact ⟨.mk k vs b, by simp [Cs.row], hvs, hv, hb⟩
    · rintro rfl; rw [Tryd.underlying32] at h; cases h
theorem fn_inv (h : RT Tryd.prog 36 ds) : ∃ f : Fn, ds = f.row ∧ f.Ok := by
  obtain ⟨p0, p1, p2, rfl, h0, h1, h2⟩ := h.struct3_inv Tryd.underlying36
  obtain ⟨a, rfl, ha⟩ := h0.str_inv Tryd.underlying9
  obtain ⟨vs, rfl, hv, hvs⟩ := strs_ok h1
  obtain ⟨b, rfl, hb⟩ := (tm_inv _ _ h2).1 rfl
  unfold reachBytes at ha
  exact ⟨⟨a, vs, b⟩, by simp [Fn.row], ⟨(by omega : a.size ≤ 140737488355328), hv, hvs, hb⟩⟩
theorem fns_inv {c : AV} (h : ArgRT Tryd.prog 22 c) : ∃ l : List Fn, c = .d (.sl (l.map Fn.row)) ∧ FnsOk l := by
  obtain ⟨l, rfl, hl, hp⟩ := h.list (fun r hr => fn_inv hr) Tryd.underlying22
  rw [show Tryd.prog.bytesOf 36 = 160 by kernel_rfl] at hl
  unfold reachBytes at hl
  exact ⟨l, rfl, by omega, hp⟩
end
end Go.Proofs.YtapiiklnnkkdlaaDoor

namespace Go.Proofs.YtapiiklnnkkdlaaDoor
open Go.RowKit
attribute [local simp] runD mkRc ldOf stOf stOk ldArg noAny dstOk guardOk opEff opEff0 effOp pureOp callOp zEff evA constAV scalAV Value.oneCell' frGet memGet startAS frOf isGoCall idIn AS.after nextR opnIds objIds AV.ids idsL AObj.ids frNo memNo opnAny isAny mkVal rdCells wrCells fldAddr idxAddr srcRows litRows toD1 toDs setAt sliceAV optI partAV bldAV fillAV binAV binI AV.cells callEff calleeOf frKill memKill AV.kill AObj.kill AV.has AV.hasL Op.operands Call.operands keepF keepM viewIds cChk renOf moGet moWs moQ cEff moLike moHave AV.ren renL AObj.ren AObj.like kept startC moMem AV.frz frz1 frzL frSub memSub frzs AS.frz frFrz memFrz AObj.frz takeMap takeLen bleF Nat.ble_eq memAny objAny mapOp D.keyOk rowAV valRow extOp wrapOp phO
set_option linter.unusedVariables false
set_option linter.unusedSimpArgs false
noncomputable def eqB {α : Type} (a b : α) : Bool := @decide (a = b) (Classical.propDecidable _)
theorem eqB_self {α : Type} (a : α) : eqB a a = true := by simp [eqB]
theorem eqB_ne {α : Type} {a b : α} (h : a ≠ b) : eqB a b = false := by simp [eqB, h]
theorem eqB_iff {α : Type} {a b : α} : eqB a b = true ↔ a = b := by simp [eqB]
theorem rows_len {α : Type} {row : α → List D} {n : Nat} (h : ∀ x, (row x).length = n) (l : List α) : ∀ (i : Nat) (r : List D), (l.map row)[i]? = some r → r.length = n := by
  intro i r hr
  obtain ⟨x, _, rfl⟩ := List.mem_map.1 (List.mem_of_getElem? hr)
  exact h x
theorem take_eq {α : Type} {a b : List α} {i : Nat} {x y : α} (hx : a[i]? = some x) (hy : b[i]? = some y) (h : a.take i = b.take i) : a.take (i + 1) = b.take (i + 1) ↔ x = y := by
  rw [List.take_add_one, List.take_add_one, hx, hy, h]
  simp
theorem take_ne {α : Type} {a b : List α} {i : Nat} {x y : α} (hx : a[i]? = some x) (hy : b[i]? = some y) (h : x ≠ y) : a ≠ b := by
  rintro rfl
  rw [hx] at hy
  exact h (Option.some.inj hy)
set_option maxHeartbeats 1000000 in
theorem sp_SameNames (a b : List ByteArray) (ha : a.length ≤ 9223372036854775806) : PSpec Tryd.prog 36 [strsAV a, strsAV b] (fun _ => .d (.bool (eqB a b))) none := by
  refine PSpec.of Tryd.func36 rfl rfl rfl (Nat.le_of_ble_eq_true rfl) ?_
  show AWp _ _ (endQ _ Tryd.f36 _ _ _) (startAS 26 _)
  repeat (first | refine AWp.seq ?_ | refine AWp.block ?_)
  apply AWp.reg [] []
  · conv => lhs; simp
  · trivial
  by_cases hl : a.length = b.length
  · repeat (first | refine AWp.seq ?_ | refine AWp.block ?_)
    apply AWp.reg [] []
    · conv => lhs; simp [hl]
    · trivial
    refine AWp.cn ?_
    refine AWp.skip ?_
    repeat (first | refine AWp.seq ?_ | refine AWp.block ?_)
    apply AWp.reg [] []
    · conv => lhs; simp
    · trivial
    repeat (first | refine AWp.seq ?_ | refine AWp.block ?_)
    refine AWp.loop (σ := fun u : {i : Nat // i ≤ a.length ∧ a.take i = b.take i} => ⟨26, [(0, strsAV a), (1, strsAV b), (12, .d (.int a.length)), (13, .d (.int u.1))], []⟩)
      (μ := fun u => a.length - u.1) ⟨0, Nat.zero_le _, rfl⟩ (Le.sub (by simp [hl]) (by simp)) (fun ⟨i, hi, ht⟩ => ?_)
    dsimp only
    repeat (first | refine AWp.seq ?_ | refine AWp.block ?_)
    apply AWp.reg [] []
    · conv => lhs; simp
    · trivial
    repeat (first | refine AWp.seq ?_ | refine AWp.block ?_)
    refine AWp.cond rfl (fun h => ?_) (fun h => ?_)
    · have hi1 : i < a.length := by have := of_decide_eq_true h; omega
      have hx : a[i]? = some a[i] := List.getElem?_eq_getElem hi1
      have hy : b[i]? = some (b[i]'(by omega)) := List.getElem?_eq_getElem (by omega)
      generalize a[i] = x at hx
      generalize b[i]'(by omega) = y at hy
      have hte := take_eq hx hy ht
      refine AWp.skip ?_
      repeat (first | refine AWp.seq ?_ | refine AWp.block ?_)
      apply AWp.reg [] []
      · conv => lhs; simp
      · trivial
      by_cases hxy : x = y
      · subst hxy
        refine AWp.dw [] [] mixed ?_ (hr := by conv => lhs; simp [hx, hy])
        refine AWp.cn ?_
        refine AWp.skip ?_
        refine AWp.rg [] [] ?_
        refine ⟨⟨i + 1, hi1, hte.2 rfl⟩, by simp; omega, Le.sub (by simp) (by simp)⟩
      · refine AWp.dw [] [] mixed ?_ (hr := by conv => lhs; simp [hx, hy, hxy])
        repeat (first | refine AWp.seq ?_ | refine AWp.block ?_)
        refine AWp.cond rfl (fun h2 => ?_) (fun h2 => ?_)
        · repeat (first | refine AWp.seq ?_ | refine AWp.block ?_)
          apply AWp.reg [] []
          · conv => lhs; simp
          · trivial
          refine AWp.ret ?_
          try dsimp only [thenQ, blockQ]
          apply endQ.ret
          · rfl
          · conv => lhs; simp [resAV, Tryd.results36]
          rw [eqB_ne (take_ne hx hy hxy)]; rfl
        · cases h2
    · have hi1 : i = a.length := by have := of_decide_eq_false h; omega
      subst hi1
      rw [List.take_length, hl, List.take_length] at ht
      refine AWp.exit ?_
      repeat (first | refine AWp.seq ?_ | refine AWp.block ?_)
      apply AWp.reg [] []
      · conv => lhs; simp
      · trivial
      refine AWp.ret ?_
      try dsimp only [thenQ, blockQ]
      apply endQ.ret
      · rfl
      · conv => lhs; simp [resAV, Tryd.results36]
      rw [ht, eqB_self]; rfl
  · have hl' : ¬ ((a.length : Int) = b.length) := by omega
    repeat (first | refine AWp.seq ?_ | refine AWp.block ?_)
    apply AWp.reg [] []
    · conv => lhs; simp [hl, hl']
    · trivial
    repeat (first | refine AWp.seq ?_ | refine AWp.block ?_)
    refine AWp.cond rfl (fun h => ?_) (fun h => ?_)
    · repeat (first | refine AWp.seq ?_ | refine AWp.block ?_)
      apply AWp.reg [] []
      · conv => lhs; simp
      · trivial
      refine AWp.ret ?_
      try dsimp only [thenQ, blockQ]
      apply endQ.ret
      · rfl
      · conv => lhs; simp [resAV, Tryd.results36]
      rw [eqB_ne (fun e => hl (by rw [e]))]; rfl
    · cases h
theorem Tm.Ok.vars {k n : Int} {a b : ByteArray} {vs : List ByteArray} {xs : List Tm} {cs : List Cs} (h : (Tm.mk k n a b vs xs cs).Ok) : vs.length ≤ 8796093022207 ∧ xs.length ≤ 1172812402960 ∧ cs.length ≤ 925904528652 ∧ a.size ≤ 140737488355328 ∧ b.size ≤ 140737488355328 := by
  unfold Tm.Ok at h
  exact ⟨h.2.1.1, h.2.1.2.1, h.2.1.2.2, h.1.1, h.1.2.1⟩
theorem Tm.Ok.arg {k n : Int} {a b : ByteArray} {vs : List ByteArray} {xs : List Tm} {cs : List Cs} (h : (Tm.mk k n a b vs xs cs).Ok) {x : Tm} (hx : x ∈ xs) : x.Ok := by
  unfold Tm.Ok at h
  exact Tm.Oks_iff.1 h.2.2.1 x hx
theorem Tm.Ok.case {k n : Int} {a b : ByteArray} {vs : List ByteArray} {xs : List Tm} {cs : List Cs} (h : (Tm.mk k n a b vs xs cs).Ok) {x : Cs} (hx : x ∈ cs) : x.Ok := by
  unfold Tm.Ok at h
  exact Cs.Oks_iff.1 h.2.2.2 x hx
theorem Cs.Ok.body {t : Int} {vs : List ByteArray} {b : Tm} (h : (Cs.mk t vs b).Ok) : b.Ok ∧ vs.length ≤ 8796093022207 := by
  unfold Cs.Ok at h
  exact ⟨h.2.2, h.2.1⟩
theorem Cs.Ok.sizes {t : Int} {vs : List ByteArray} {b : Tm} (h : (Cs.mk t vs b).Ok) : ∀ s ∈ vs, s.size ≤ 140737488355328 := by
  unfold Cs.Ok at h
  exact h.1
theorem Tm.sz_arg {k n : Int} {a b : ByteArray} {vs : List ByteArray} {xs : List Tm} {cs : List Cs} {x : Tm} (hx : x ∈ xs) : x.sz < (Tm.mk k n a b vs xs cs).sz := by
  have := Tm.szs_mem hx
  simp only [Tm.sz]; omega
theorem Tm.sz_case {k n : Int} {a b : ByteArray} {vs : List ByteArray} {xs : List Tm} {cs : List Cs} {t : Int} {ws : List ByteArray} {y : Tm} (hx : Cs.mk t ws y ∈ cs) : y.sz < (Tm.mk k n a b vs xs cs).sz := by
  have := Cs.szs_mem hx
  simp only [Cs.sz] at this
  simp only [Tm.sz]; omega
theorem Tm.row_len (t : Tm) : t.row.length = 7 := by cases t; rfl
theorem Cs.row_len (t : Cs) : t.row.length = 9 := by cases t; simp [Cs.row, Tm.row_len]
def smMem (k n : Int) (a b : ByteArray) (vs : List ByteArray) (xs : List Tm) (cs : List Cs) (xs' : List Tm) (cs' : List Cs) : List (Nat × Option AObj) :=
  [(2, some (.blk 34 [.d (.int k), .d (.int n), .d (.str a), .d (.str b), .d (strsD vs), .d (.sl (xs.map Tm.row)), .d (.sl (cs.map Cs.row))])),
   (3, some (.blk 34 [.d (.int k), .d (.int n), .d (.str a), .d (.str b), .d (strsD vs), .d (.sl (xs'.map Tm.row)), .d (.sl (cs'.map Cs.row))]))]
set_option maxRecDepth 20000 in
set_option maxHeartbeats 8000000 in
theorem sp_refSame_at : ∀ (N : Nat) (s t : Tm), s.sz < N → s.Ok → PSpec Tryd.prog 37 [tmAV s, tmAV t] (fun _ => .d (.bool (eqB s t))) none := by
  intro N
  induction N with
  | zero => intro s t h; omega
  | succ N ih =>
  intro s t hN hO
  obtain ⟨k, n, a, b, vs, xs, cs⟩ := s
  obtain ⟨k', n', a', b', vs', xs', cs'⟩ := t
  obtain ⟨o1, o2, o3, o4, o5⟩ := hO.vars
  have hneq : (k ≠ k' ∨ n ≠ n' ∨ a ≠ a' ∨ b ≠ b' ∨ vs ≠ vs' ∨ xs ≠ xs' ∨ cs ≠ cs') → eqB (Tm.mk k n a b vs xs cs) (Tm.mk k' n' a' b' vs' xs' cs') = false := fun h => eqB_ne (by
    intro e
    cases e
    simp at h)
  have hvs := sp_SameNames vs vs' (by omega)
  refine PSpec.of Tryd.func37 rfl rfl rfl (Nat.le_of_ble_eq_true rfl) ?_
  show AWp _ _ (endQ _ Tryd.f37 _ _ _) (startAS 115 _)
  repeat (first | refine AWp.seq ?_ | refine AWp.block ?_)
  apply AWp.reg [] []
  · conv => lhs; simp
  · trivial
  by_cases e1 : k = k'
  rotate_left
  · repeat (first | refine AWp.seq ?_ | refine AWp.block ?_)
    apply AWp.reg [] []
    · conv => lhs; simp [e1]
    · trivial
    repeat (first | refine AWp.seq ?_ | refine AWp.block ?_)
    refine AWp.cond rfl (fun h => ?_) (fun h => ?_)
    · repeat (first | refine AWp.seq ?_ | refine AWp.block ?_)
      apply AWp.reg [] []
      · conv => lhs; simp
      · trivial
      refine AWp.ret ?_
      try dsimp only [thenQ, blockQ]
      apply endQ.ret
      · rfl
      · conv => lhs; simp [resAV, Tryd.results37]
      rw [hneq (.inl e1)]; rfl
    · simp at h
  subst e1
  by_cases e2 : n = n'
  rotate_left
  · repeat (first | refine AWp.seq ?_ | refine AWp.block ?_)
    apply AWp.reg [] []
    · conv => lhs; simp [e2]
    · trivial
    repeat (first | refine AWp.seq ?_ | refine AWp.block ?_)
    refine AWp.cond rfl (fun h => ?_) (fun h => ?_)
    · repeat (first | refine AWp.seq ?_ | refine AWp.block ?_)
      apply AWp.reg [] []
      · conv => lhs; simp
      · trivial
      refine AWp.ret ?_
      try dsimp only [thenQ, blockQ]
      apply endQ.ret
      · rfl
      · conv => lhs; simp [resAV, Tryd.results37]
      rw [hneq (.inr (.inl e2))]; rfl
    · simp at h
  subst e2
  by_cases e3 : a = a'
  rotate_left
  · repeat (first | refine AWp.seq ?_ | refine AWp.block ?_)
    apply AWp.reg [] []
    · conv => lhs; simp [e3]
    · trivial
    repeat (first | refine AWp.seq ?_ | refine AWp.block ?_)
    refine AWp.cond rfl (fun h => ?_) (fun h => ?_)
    · repeat (first | refine AWp.seq ?_ | refine AWp.block ?_)
      apply AWp.reg [] []
      · conv => lhs; simp
      · trivial
      refine AWp.ret ?_
      try dsimp only [thenQ, blockQ]
      apply endQ.ret
      · rfl
      · conv => lhs; simp [resAV, Tryd.results37]
      rw [hneq (.inr (.inr (.inl e3)))]; rfl
    · simp at h
  subst e3
  by_cases e4 : b = b'
  rotate_left
  · repeat (first | refine AWp.seq ?_ | refine AWp.block ?_)
    apply AWp.reg [] []
    · conv => lhs; simp [e4]
    · trivial
    repeat (first | refine AWp.seq ?_ | refine AWp.block ?_)
    refine AWp.cond rfl (fun h => ?_) (fun h => ?_)
    · repeat (first | refine AWp.seq ?_ | refine AWp.block ?_)
      apply AWp.reg [] []
      · conv => lhs; simp
      · trivial
      refine AWp.ret ?_
      try dsimp only [thenQ, blockQ]
      apply endQ.ret
      · rfl
      · conv => lhs; simp [resAV, Tryd.results37]
      rw [hneq (.inr (.inr (.inr (.inl e4))))]; rfl
    · simp at h
  subst e4
  by_cases e5 : vs = vs'
  rotate_left
  · repeat (first | refine AWp.seq ?_ | refine AWp.block ?_)
    apply AWp.reg [] [.p (fun _ => .d (.bool false)) none]
    · conv => lhs; simp [e5]
    · rw [eqB_ne e5] at hvs; exact hvs
    repeat (first | refine AWp.seq ?_ | refine AWp.block ?_)
    refine AWp.cond rfl (fun h => ?_) (fun h => ?_)
    · repeat (first | refine AWp.seq ?_ | refine AWp.block ?_)
      apply AWp.reg [] []
      · conv => lhs; simp
      · trivial
      refine AWp.ret ?_
      try dsimp only [thenQ, blockQ]
      apply endQ.ret
      · rfl
      · conv => lhs; simp [resAV, Tryd.results37]
      rw [hneq (.inr (.inr (.inr (.inr (.inl e5)))))]; rfl
    · simp at h
  subst e5
  rw [eqB_self] at hvs
  by_cases e6 : xs.length = xs'.length
  rotate_left
  · have e6' : ¬ ((xs.length : Int) = xs'.length) := by omega
    repeat (first | refine AWp.seq ?_ | refine AWp.block ?_)
    apply AWp.reg [] [.p (fun _ => .d (.bool true)) none]
    · conv => lhs; simp [e6, e6']
    · exact hvs
    repeat (first | refine AWp.seq ?_ | refine AWp.block ?_)
    refine AWp.cond rfl (fun h => ?_) (fun h => ?_)
    · repeat (first | refine AWp.seq ?_ | refine AWp.block ?_)
      apply AWp.reg [] []
      · conv => lhs; simp
      · trivial
      refine AWp.ret ?_
      try dsimp only [thenQ, blockQ]
      apply endQ.ret
      · rfl
      · conv => lhs; simp [resAV, Tryd.results37]
      rw [hneq (.inr (.inr (.inr (.inr (.inr (.inl (fun e => e6 (by rw [e]))))))))]; rfl
    · simp at h
  by_cases e7 : cs.length = cs'.length
  rotate_left
  · have e7' : ¬ ((cs.length : Int) = cs'.length) := by omega
    repeat (first | refine AWp.seq ?_ | refine AWp.block ?_)
    apply AWp.reg [] [.p (fun _ => .d (.bool true)) none]
    · conv => lhs; simp [e6, e7, e7']
    · exact hvs
    repeat (first | refine AWp.seq ?_ | refine AWp.block ?_)
    refine AWp.cond rfl (fun h => ?_) (fun h => ?_)
    · repeat (first | refine AWp.seq ?_ | refine AWp.block ?_)
      apply AWp.reg [] []
      · conv => lhs; simp
      · trivial
      refine AWp.ret ?_
      try dsimp only [thenQ, blockQ]
      apply endQ.ret
      · rfl
      · conv => lhs; simp [resAV, Tryd.results37]
      rw [hneq (.inr (.inr (.inr (.inr (.inr (.inr (fun e => e7 (by rw [e]))))))))]; rfl
    · simp at h
  repeat (first | refine AWp.seq ?_ | refine AWp.block ?_)
  apply AWp.reg [] [.p (fun _ => .d (.bool true)) none]
  · conv => lhs; simp [e6, e7]
  · exact hvs
  repeat (first | refine AWp.seq ?_ | refine AWp.block ?_)
  refine AWp.cond rfl (fun h => ?_) (fun h => ?_)
  · simp at h
  refine AWp.skip ?_
  refine AWp.le (s' := ⟨115, [(2, .ptr 2 0), (3, .ptr 3 0)], smMem k n a b vs xs cs xs' cs'⟩) (Le.sub (by simp) (by simp [smMem])) ?_
  by_cases hx : xs = xs'
  rotate_left
  · have hf := hneq (.inr (.inr (.inr (.inr (.inr (.inl hx))))))
    repeat (first | refine AWp.seq ?_ | refine AWp.block ?_)
    apply AWp.reg [] []
    · conv => lhs; simp [smMem]
    · trivial
    repeat (first | refine AWp.seq ?_ | refine AWp.block ?_)
    refine AWp.loop (σ := fun u : {i : Nat // i ≤ xs.length ∧ xs.take i = xs'.take i} => ⟨115, [(2, .ptr 2 0), (3, .ptr 3 0), (63, .d (.int xs.length)), (64, .d (.int u.1))], smMem k n a b vs xs cs xs' cs'⟩)
      (μ := fun u => xs.length - u.1) ⟨0, Nat.zero_le _, rfl⟩ (Le.sub (by simp) (by simp [smMem])) (fun ⟨i, hi, ht⟩ => ?_)
    dsimp only
    repeat (first | refine AWp.seq ?_ | refine AWp.block ?_)
    apply AWp.reg [] []
    · conv => lhs; simp
    · trivial
    repeat (first | refine AWp.seq ?_ | refine AWp.block ?_)
    refine AWp.cond rfl (fun h => ?_) (fun h => ?_)
    · have hi1 : i < xs.length := by have := of_decide_eq_true h; omega
      have h1 : xs[i]? = some xs[i] := List.getElem?_eq_getElem hi1
      have h2 : xs'[i]? = some (xs'[i]'(by omega)) := List.getElem?_eq_getElem (by omega)
      have hmem : xs[i] ∈ xs := List.getElem_mem hi1
      generalize xs[i] = x at h1 hmem
      generalize xs'[i]'(by omega) = y at h2
      have hte := take_eq h1 h2 ht
      have hp := ih x y (by have := Tm.sz_arg (k := k) (n := n) (a := a) (b := b) (vs := vs) (cs := cs) hmem; omega) (hO.arg hmem)
      obtain ⟨B, hB⟩ : ∃ B, B = eqB x y := ⟨_, rfl⟩
      rw [← hB] at hp
      refine AWp.skip ?_
      repeat (first | refine AWp.seq ?_ | refine AWp.block ?_)
      apply AWp.reg [] []
      · conv => lhs; simp
      · trivial
      cases B with
      | true =>
        have hxy : x = y := eqB_iff.1 hB.symm
        obtain ⟨_, _, _, _, _, _, _⟩ := x
        obtain ⟨_, _, _, _, _, _, _⟩ := y
        repeat (first | refine AWp.seq ?_ | refine AWp.block ?_)
        apply AWp.draw [] [.p (fun _ => .d (.bool true)) none] mixed
        · conv => lhs; simp [smMem, h1, h2, Tm.row, Tm.rows_eq, Cs.rows_eq]
        · kernel_rfl
        · exact hp
        refine AWp.cn ?_
        refine AWp.skip ?_
        refine AWp.rg [] [] ?_
        refine ⟨⟨i + 1, hi1, hte.2 hxy⟩, by simp; omega, Le.sub (by simp) (by simp [smMem])⟩
      | false =>
        obtain ⟨_, _, _, _, _, _, _⟩ := x
        obtain ⟨_, _, _, _, _, _, _⟩ := y
        repeat (first | refine AWp.seq ?_ | refine AWp.block ?_)
        apply AWp.draw [] [.p (fun _ => .d (.bool false)) none] mixed
        · conv => lhs; simp [smMem, h1, h2, Tm.row, Tm.rows_eq, Cs.rows_eq]
        · kernel_rfl
        · exact hp
        repeat (first | refine AWp.seq ?_ | refine AWp.block ?_)
        refine AWp.cond rfl (fun h3 => ?_) (fun h3 => ?_)
        · repeat (first | refine AWp.seq ?_ | refine AWp.block ?_)
          apply AWp.reg [] []
          · conv => lhs; simp
          · trivial
          refine AWp.ret ?_
          try dsimp only [thenQ, blockQ]
          apply endQ.ret
          · rfl
          · conv => lhs; simp [resAV, Tryd.results37]
          rw [hf]; rfl
        · cases h3
    · have hi1 : i = xs.length := by have := of_decide_eq_false h; omega
      subst hi1
      rw [List.take_length, e6, List.take_length] at ht
      exact absurd ht hx
  subst hx
  repeat (first | refine AWp.seq ?_ | refine AWp.block ?_)
  apply AWp.reg [] []
  · conv => lhs; simp [smMem]
  · trivial
  repeat (first | refine AWp.seq ?_ | refine AWp.block ?_)
  refine AWp.loop (σ := fun u : {i : Nat // i ≤ xs.length} => ⟨115, [(2, .ptr 2 0), (3, .ptr 3 0), (63, .d (.int xs.length)), (64, .d (.int u.1))], smMem k n a b vs xs cs xs cs'⟩)
    (μ := fun u => xs.length - u.1) ⟨0, Nat.zero_le _⟩ (Le.sub (by simp) (by simp [smMem])) (fun ⟨i, hi⟩ => ?_)
  dsimp only
  repeat (first | refine AWp.seq ?_ | refine AWp.block ?_)
  apply AWp.reg [] []
  · conv => lhs; simp
  · trivial
  repeat (first | refine AWp.seq ?_ | refine AWp.block ?_)
  refine AWp.cond rfl (fun h => ?_) (fun h => ?_)
  · have hi1 : i < xs.length := by have := of_decide_eq_true h; omega
    have h1 : xs[i]? = some xs[i] := List.getElem?_eq_getElem hi1
    have hmem : xs[i] ∈ xs := List.getElem_mem hi1
    generalize xs[i] = x at h1 hmem
    have hp := ih x x (by have := Tm.sz_arg (k := k) (n := n) (a := a) (b := b) (vs := vs) (cs := cs) hmem; omega) (hO.arg hmem)
    rw [eqB_self] at hp
    refine AWp.skip ?_
    repeat (first | refine AWp.seq ?_ | refine AWp.block ?_)
    apply AWp.reg [] []
    · conv => lhs; simp
    · trivial
    obtain ⟨_, _, _, _, _, _, _⟩ := x
    repeat (first | refine AWp.seq ?_ | refine AWp.block ?_)
    apply AWp.draw [] [.p (fun _ => .d (.bool true)) none] mixed
    · conv => lhs; simp [smMem, h1, Tm.row, Tm.rows_eq, Cs.rows_eq]
    · kernel_rfl
    · exact hp
    refine AWp.cn ?_
    refine AWp.skip ?_
    refine AWp.rg [] [] ?_
    refine ⟨⟨i + 1, hi1⟩, by simp; omega, Le.sub (by simp) (by simp [smMem])⟩
  refine AWp.exit ?_
  refine AWp.le (s' := ⟨115, [(2, .ptr 2 0), (3, .ptr 3 0)], smMem k n a b vs xs cs xs cs'⟩) (Le.sub (by simp) (by simp [smMem])) ?_
  clear hi h
  repeat (first | refine AWp.seq ?_ | refine AWp.block ?_)
  apply AWp.reg [] []
  · conv => lhs; simp [smMem]
  · trivial
  repeat (first | refine AWp.seq ?_ | refine AWp.block ?_)
  refine AWp.loop (σ := fun u : {i : Nat // i ≤ cs.length ∧ cs.take i = cs'.take i} => ⟨115, [(2, .ptr 2 0), (3, .ptr 3 0), (81, .d (.sl (cs.map Cs.row))), (82, .d (.int cs.length)), (83, .d (.int u.1))], smMem k n a b vs xs cs xs cs'⟩)
    (μ := fun u => cs.length - u.1) ⟨0, Nat.zero_le _, rfl⟩ (Le.sub (by simp) (by simp [smMem])) (fun ⟨i, hi, ht⟩ => ?_)
  dsimp only
  repeat (first | refine AWp.seq ?_ | refine AWp.block ?_)
  apply AWp.reg [] []
  · conv => lhs; simp
  · trivial
  repeat (first | refine AWp.seq ?_ | refine AWp.block ?_)
  refine AWp.cond rfl (fun h => ?_) (fun h => ?_)
  · have hi1 : i < cs.length := by have := of_decide_eq_true h; omega
    have h1 : cs[i]? = some cs[i] := List.getElem?_eq_getElem hi1
    have h2 : cs'[i]? = some (cs'[i]'(by omega)) := List.getElem?_eq_getElem (by omega)
    have hmem : cs[i] ∈ cs := List.getElem_mem hi1
    generalize cs[i] = x at h1 hmem
    generalize cs'[i]'(by omega) = y at h2
    have hte := take_eq h1 h2 ht
    obtain ⟨g, ws, x⟩ := x
    obtain ⟨g', ws', y⟩ := y
    obtain ⟨oc1, oc2⟩ := (hO.case hmem).body
    have hp := ih x y (by have := Tm.sz_case (k := k) (n := n) (a := a) (b := b) (vs := vs) (xs := xs) hmem; omega) oc1
    have hws := sp_SameNames ws ws' (by omega)
    have hbad : (g ≠ g' ∨ ws ≠ ws' ∨ x ≠ y) → eqB (Tm.mk k n a b vs xs cs) (Tm.mk k n a b vs xs cs') = false := fun h => hneq (.inr (.inr (.inr (.inr (.inr (.inr (take_ne h1 h2 (by
      intro e
      cases e
      simp at h))))))))
    obtain ⟨B, hB⟩ : ∃ B, B = eqB x y := ⟨_, rfl⟩
    have hBf : B = false → x ≠ y := fun e q => by rw [hB, q, eqB_self] at e; cases e
    rw [← hB] at hp
    obtain ⟨_, _, _, _, _, _, _⟩ := x
    obtain ⟨_, _, _, _, _, _, _⟩ := y
    refine AWp.skip ?_
    refine AWp.rg [] [] ?_ (hr := by conv => lhs; simp [h1, Cs.row, Tm.row, Tm.rows_eq, Cs.rows_eq])
    refine AWp.rg [] [] ?_ (hr := by conv => lhs; simp [smMem, h2, Cs.row, Tm.row, Tm.rows_eq, Cs.rows_eq])
    by_cases e8 : g = g'
    rotate_left
    · repeat (first | refine AWp.seq ?_ | refine AWp.block ?_)
      apply AWp.reg [] []
      · conv => lhs; simp [e8]
      · trivial
      repeat (first | refine AWp.seq ?_ | refine AWp.block ?_)
      refine AWp.cond rfl (fun h3 => ?_) (fun h3 => ?_)
      · repeat (first | refine AWp.seq ?_ | refine AWp.block ?_)
        apply AWp.reg [] []
        · conv => lhs; simp
        · trivial
        refine AWp.ret ?_
        try dsimp only [thenQ, blockQ]
        apply endQ.ret
        · rfl
        · conv => lhs; simp [resAV, Tryd.results37]
        rw [hbad (.inl e8)]; rfl
      · simp at h3
    subst e8
    by_cases e9 : ws = ws'
    rotate_left
    · rw [eqB_ne e9] at hws
      repeat (first | refine AWp.seq ?_ | refine AWp.block ?_)
      apply AWp.reg [] [.p (fun _ => .d (.bool false)) none]
      · conv => lhs; simp
      · exact hws
      repeat (first | refine AWp.seq ?_ | refine AWp.block ?_)
      refine AWp.cond rfl (fun h3 => ?_) (fun h3 => ?_)
      · repeat (first | refine AWp.seq ?_ | refine AWp.block ?_)
        apply AWp.reg [] []
        · conv => lhs; simp
        · trivial
        refine AWp.ret ?_
        try dsimp only [thenQ, blockQ]
        apply endQ.ret
        · rfl
        · conv => lhs; simp [resAV, Tryd.results37]
        rw [hbad (.inr (.inl e9))]; rfl
      · simp at h3
    subst e9
    rw [eqB_self] at hws
    cases B with
    | true =>
      have hxy := eqB_iff.1 hB.symm
      repeat (first | refine AWp.seq ?_ | refine AWp.block ?_)
      apply AWp.reg [] [.p (fun _ => .d (.bool true)) none, .p (fun _ => .d (.bool true)) none]
      · conv => lhs; simp
      · exact ⟨hws, hp⟩
      repeat (first | refine AWp.seq ?_ | refine AWp.block ?_)
      refine AWp.cond rfl (fun h3 => ?_) (fun h3 => ?_)
      · simp at h3
      refine AWp.skip ?_
      refine AWp.rg [] [] ?_
      refine ⟨⟨i + 1, hi1, hte.2 (by rw [hxy])⟩, by simp; omega, Le.sub (by simp) (by simp [smMem])⟩
    | false =>
      have hxy := hBf rfl
      repeat (first | refine AWp.seq ?_ | refine AWp.block ?_)
      apply AWp.reg [] [.p (fun _ => .d (.bool true)) none, .p (fun _ => .d (.bool false)) none]
      · conv => lhs; simp
      · exact ⟨hws, hp⟩
      repeat (first | refine AWp.seq ?_ | refine AWp.block ?_)
      refine AWp.cond rfl (fun h3 => ?_) (fun h3 => ?_)
      · repeat (first | refine AWp.seq ?_ | refine AWp.block ?_)
        apply AWp.reg [] []
        · conv => lhs; simp
        · trivial
        refine AWp.ret ?_
        try dsimp only [thenQ, blockQ]
        apply endQ.ret
        · rfl
        · conv => lhs; simp [resAV, Tryd.results37]
        rw [hbad (.inr (.inr hxy))]; rfl
      · simp at h3
  · have hi1 : i = cs.length := by have := of_decide_eq_false h; omega
    subst hi1
    rw [List.take_length, e7, List.take_length] at ht
    subst ht
    refine AWp.exit ?_
    repeat (first | refine AWp.seq ?_ | refine AWp.block ?_)
    apply AWp.reg [] []
    · conv => lhs; simp
    · trivial
    refine AWp.ret ?_
    try dsimp only [thenQ, blockQ]
    apply endQ.ret
    · rfl
    · conv => lhs; simp [resAV, Tryd.results37]
    rw [eqB_self]; rfl
theorem sp_refSame (s t : Tm) (h : s.Ok) : PSpec Tryd.prog 37 [tmAV s, tmAV t] (fun _ => .d (.bool (eqB s t))) none := sp_refSame_at _ s t (Nat.lt_succ_self _) h
end Go.Proofs.YtapiiklnnkkdlaaDoor

namespace Go.Proofs.YtapiiklnnkkdlaaDoor
open Go.RowKit
attribute [local simp] runD mkRc ldOf stOf stOk ldArg noAny dstOk guardOk opEff opEff0 effOp pureOp callOp zEff evA constAV scalAV Value.oneCell' frGet memGet startAS frOf isGoCall idIn AS.after nextR opnIds objIds AV.ids idsL AObj.ids frNo memNo opnAny isAny mkVal rdCells wrCells fldAddr idxAddr srcRows litRows toD1 toDs setAt sliceAV optI partAV bldAV fillAV binAV binI AV.cells callEff calleeOf frKill memKill AV.kill AObj.kill AV.has AV.hasL Op.operands Call.operands keepF keepM viewIds cChk renOf moGet moWs moQ cEff moLike moHave AV.ren renL AObj.ren AObj.like kept startC moMem AV.frz frz1 frzL frSub memSub frzs AS.frz frFrz memFrz AObj.frz takeMap takeLen bleF Nat.ble_eq memAny objAny mapOp D.keyOk rowAV valRow extOp wrapOp phO frLow memLow memLow1 objLow memEmpty Low LowL
set_option linter.unusedVariables false
set_option linter.unusedSimpArgs false
theorem endQ.retA {P : Program} {fn : Func} {r : Nat → AV} {o : Nat} {s : AS} {cs : List AV} {y : AObj} (hrn : (r o).nilD = r o) (h : resAV P s fn.results.toList = some cs) (hr : (resVal cs).nilD = (r o).nilD) (hx : memGet s.mem o = some y) (ho : Nat.ble 500 o = false) : endQ P fn r (some y) o .ret s :=
  ⟨.inl rfl, s, Le.refl s, cs, h, hr, hrn, fun z hz => by cases hz; exact ⟨hx, ho⟩⟩
set_option maxHeartbeats 1000000 in
theorem sp_Clone (l : List ByteArray) (hl : l.length ≤ 8796093022208) : PSpec Tryd.prog 57 [strsAV l] (fun d => .arr d 0 l.length) (some (.arr 9 1 (l.map strR))) := by
  refine PSpec.ofArr Tryd.func57 rfl rfl _ 5 (Nat.le_of_ble_eq_true rfl) (fun _ => rfl) (by simp [AV.ids, idsL]) (fun d => by simp [AV.has, AV.hasL]) ?_
  show AWp _ _ (endQ _ Tryd.f57 _ _ _) (startAS 8 _)
  repeat (first | refine AWp.seq ?_ | refine AWp.block ?_)
  apply AWp.reg [] []
  · conv => lhs; simp
  · trivial
  cases l with
  | nil =>
    repeat (first | refine AWp.seq ?_ | refine AWp.block ?_)
    apply AWp.reg [] []
    · conv => lhs; simp [strsAV, strsD]
    · trivial
    repeat (first | refine AWp.seq ?_ | refine AWp.block ?_)
    refine AWp.condU rfl ?_ ?_
    · repeat (first | refine AWp.seq ?_ | refine AWp.block ?_)
      apply AWp.reg [] []
      · conv => lhs; simp
      · trivial
      refine AWp.le (Le.low [5] [] (fr := [(2, .arr 5 0 0)]) (mem := [(5, some (.arr 9 1 []))]) rfl (by simp) (by simp)) ?_
      refine AWp.ret ?_
      try dsimp only [thenQ, blockQ]
      apply endQ.retA
      · rfl
      · conv => lhs; simp [resAV, Tryd.results57]
      · rfl
      · rfl
      · rfl
    · refine AWp.skip ?_
      refine AWp.rg [] [] ?_
      refine AWp.ret ?_
      try dsimp only [thenQ, blockQ]
      apply endQ.retA
      · rfl
      · conv => lhs; simp [resAV, Tryd.results57]
      · rfl
      · rfl
      · rfl
  | cons s l =>
    simp only [List.length_cons] at hl
    repeat (first | refine AWp.seq ?_ | refine AWp.block ?_)
    apply AWp.reg [] []
    · conv => lhs; simp [strsAV, strsD]
    · trivial
    refine AWp.cn ?_
    refine AWp.skip ?_
    repeat (first | refine AWp.seq ?_ | refine AWp.block ?_)
    apply AWp.reg [] []
    · conv => lhs; simp [strsAV, strsD]
    · exact ⟨rows_len (row := strR) (fun _ => rfl) (s :: l), by simp [maxLen]; omega, by omega⟩
    refine AWp.ret ?_
    try dsimp only [thenQ, blockQ]
    apply endQ.retA
    · rfl
    · conv => lhs; simp [resAV, Tryd.results57]
    · rfl
    · rfl
    · rfl
def owMem (k n : Int) (a b : ByteArray) (vs : List ByteArray) (xs : List Tm) (cs : List Cs) : List (Nat × Option AObj) :=
  [(1, some (.blk 34 [.d (.int k), .d (.int n), .d (.str a), .d (.str b), .d (strsD vs), .d (.sl (xs.map Tm.row)), .d (.sl (cs.map Cs.row))])),
   (2, some (.blk 34 [.d (.int 0), .d (.int 0), .d (.str ByteArray.empty), .d (.str ByteArray.empty), .lit (.slice none 0 0), .lit (.slice none 0 0), .lit (.slice none 0 0)]))]
set_option maxRecDepth 20000 in
set_option maxHeartbeats 8000000 in
theorem sp_Own_at : ∀ (N : Nat) (t : Tm), t.sz < N → t.Ok → PSpec Tryd.prog 76 [tmAV t] (fun _ => tmAV t) none := by
  intro N
  induction N with
  | zero => intro s h; omega
  | succ N ih =>
  intro t hN hO
  obtain ⟨k, n, a, b, vs, xs, cs⟩ := t
  obtain ⟨o1, o2, o3, o4, o5⟩ := hO.vars
  have hcl := sp_Clone vs (by omega)
  refine PSpec.of Tryd.func76 rfl rfl rfl (Nat.le_of_ble_eq_true rfl) ?_
  show AWp _ _ (endQ _ Tryd.f76 _ _ _) (startAS 51 _)
  repeat (first | refine AWp.seq ?_ | refine AWp.block ?_)
  apply AWp.reg [] []
  · conv => lhs; simp
  · trivial
  repeat (first | refine AWp.seq ?_ | refine AWp.block ?_)
  apply AWp.reg [2] [.p (fun d => .arr d 0 vs.length) (some (.arr 9 1 (vs.map strR)))]
  · conv => lhs; simp [strsAV]
  · exact hcl
  repeat (first | refine AWp.seq ?_ | refine AWp.block ?_)
  apply AWp.reg [] []
  · conv => lhs; simp
  · trivial
  repeat (first | refine AWp.seq ?_ | refine AWp.block ?_)
  apply AWp.reg [] []
  · conv => lhs; simp
  · trivial
  repeat (first | refine AWp.seq ?_ | refine AWp.block ?_)
  refine AWp.le (Le.low [400] [] (fr := [(1, .ptr 1 0), (2, .ptr 2 0), (3, .arr 400 0 0), (14, .d (.sl (xs.map Tm.row))), (15, .d (.int xs.length)), (16, .d (.int 0))]) (mem := (400, some (.arr 34 7 [])) :: owMem k n a b vs xs cs) rfl (by simp) (by simp [owMem])) ?_
  refine AWp.loop (σ := fun u : {i : Nat // i ≤ xs.length} => ⟨51, [(1, .ptr 1 0), (2, .ptr 2 0), (3, .arr 400 0 u.1), (14, .d (.sl (xs.map Tm.row))), (15, .d (.int xs.length)), (16, .d (.int u.1))], (400, some (.arr 34 7 ((xs.map Tm.row).take u.1))) :: owMem k n a b vs xs cs⟩)
    (μ := fun u => xs.length - u.1) ⟨0, Nat.zero_le _⟩ (Le.refl _) (fun ⟨i, hi⟩ => ?_)
  dsimp only
  repeat (first | refine AWp.seq ?_ | refine AWp.block ?_)
  apply AWp.reg [] []
  · conv => lhs; simp
  · trivial
  repeat (first | refine AWp.seq ?_ | refine AWp.block ?_)
  refine AWp.cond rfl (fun h => ?_) (fun h => ?_)
  · have hi1 : i < xs.length := by have := of_decide_eq_true h; omega
    have h1 : xs[i]? = some xs[i] := List.getElem?_eq_getElem hi1
    have hmem : xs[i] ∈ xs := List.getElem_mem hi1
    generalize xs[i] = x at h1 hmem
    have hp := ih x (by have := Tm.sz_arg (k := k) (n := n) (a := a) (b := b) (vs := vs) (cs := cs) hmem; omega) (hO.arg hmem)
    have ht : (xs.map Tm.row).take (i + 1) = (xs.map Tm.row).take i ++ [x.row] := by rw [List.take_add_one, List.getElem?_map, h1]; rfl
    have hl : ((xs.map Tm.row).take i).length = i := by simp; omega
    refine AWp.skip ?_
    obtain ⟨xk, xn, xa, xb, xv, xx, xc⟩ := x
    refine AWp.rg [] [] ?_ (hr := by conv => lhs; simp [h1, Tm.row, Tm.rows_eq, Cs.rows_eq])
    repeat (first | refine AWp.seq ?_ | refine AWp.block ?_)
    apply AWp.reg [] [.p (fun _ => tmAV (.mk xk xn xa xb xv xx xc)) none]
    · conv => lhs; simp [tmAV]
    · exact ⟨hp, by omega, by simp [maxLen]; omega, by omega⟩
    refine AWp.rg [] [] ?_
    refine ⟨⟨i + 1, hi1⟩, by simp; omega, ?_⟩
    dsimp only
    rw [ht]
    exact Le.sub (by simp [Nat.min_eq_left hi]) (by simp [owMem, Tm.row, Tm.rows_eq, Cs.rows_eq])
  have hi1 : i = xs.length := by have := of_decide_eq_false h; omega
  subst hi1
  refine AWp.exit ?_
  rw [show (xs.map Tm.row).take xs.length = xs.map Tm.row from List.take_of_length_le (by simp)]
  repeat (first | refine AWp.seq ?_ | refine AWp.block ?_)
  apply AWp.reg [] []
  · conv => lhs; simp
  · trivial
  repeat (first | refine AWp.seq ?_ | refine AWp.block ?_)
  apply AWp.reg [] []
  · conv => lhs; simp [owMem]
  · trivial
  repeat (first | refine AWp.seq ?_ | refine AWp.block ?_)
  refine AWp.le (Le.low [401] [] (fr := [(1, .ptr 1 0), (2, .ptr 2 0), (3, .arr 400 0 xs.length), (6, .arr 401 0 0), (27, .d (.sl (cs.map Cs.row))), (28, .d (.int cs.length)), (29, .d (.int 0))]) (mem := (401, some (.arr 40 9 [])) :: (400, some (.arr 34 7 (xs.map Tm.row))) :: owMem k n a b vs xs cs) rfl (by simp) (by simp [owMem])) ?_
  refine AWp.loop (σ := fun u : {i : Nat // i ≤ cs.length} => ⟨51, [(1, .ptr 1 0), (2, .ptr 2 0), (3, .arr 400 0 xs.length), (6, .arr 401 0 u.1), (27, .d (.sl (cs.map Cs.row))), (28, .d (.int cs.length)), (29, .d (.int u.1))], (401, some (.arr 40 9 ((cs.map Cs.row).take u.1))) :: (400, some (.arr 34 7 (xs.map Tm.row))) :: owMem k n a b vs xs cs⟩)
    (μ := fun u => cs.length - u.1) ⟨0, Nat.zero_le _⟩ (Le.refl _) (fun ⟨i, hi⟩ => ?_)
  dsimp only
  clear h
  repeat (first | refine AWp.seq ?_ | refine AWp.block ?_)
  apply AWp.reg [] []
  · conv => lhs; simp
  · trivial
  repeat (first | refine AWp.seq ?_ | refine AWp.block ?_)
  refine AWp.cond rfl (fun h => ?_) (fun h => ?_)
  · have hi1 : i < cs.length := by have := of_decide_eq_true h; omega
    have h1 : cs[i]? = some cs[i] := List.getElem?_eq_getElem hi1
    have hmem : cs[i] ∈ cs := List.getElem_mem hi1
    generalize cs[i] = x at h1 hmem
    have ht : (cs.map Cs.row).take (i + 1) = (cs.map Cs.row).take i ++ [x.row] := by rw [List.take_add_one, List.getElem?_map, h1]; rfl
    have hl : ((cs.map Cs.row).take i).length = i := by simp; omega
    obtain ⟨g, ws, x⟩ := x
    obtain ⟨oc1, oc2⟩ := (hO.case hmem).body
    have hp := ih x (by have := Tm.sz_case (k := k) (n := n) (a := a) (b := b) (vs := vs) (xs := xs) hmem; omega) oc1
    have hcw := sp_Clone ws (by omega)
    obtain ⟨xk, xn, xa, xb, xv, xx, xc⟩ := x
    refine AWp.skip ?_
    refine AWp.rg [] [] ?_ (hr := by conv => lhs; simp [h1, Cs.row, Tm.row, Tm.rows_eq, Cs.rows_eq])
    repeat (first | refine AWp.seq ?_ | refine AWp.block ?_)
    apply AWp.draw [5] [.p (fun d => .arr d 0 ws.length) (some (.arr 9 1 (ws.map strR))), .p (fun _ => tmAV (.mk xk xn xa xb xv xx xc)) none] mixed
    · conv => lhs; simp [strsAV]
    · kernel_rfl
    · exact ⟨hcw, hp, by omega, by simp [maxLen]; omega, by omega⟩
    refine AWp.rg [] [] ?_
    refine ⟨⟨i + 1, hi1⟩, by simp; omega, ?_⟩
    dsimp only
    rw [ht]
    exact Le.sub (by simp [Nat.min_eq_left hi]) (by simp [owMem, Cs.row, Tm.row, Tm.rows_eq, Cs.rows_eq])
  have hi1 : i = cs.length := by have := of_decide_eq_false h; omega
  subst hi1
  refine AWp.exit ?_
  rw [show (cs.map Cs.row).take cs.length = cs.map Cs.row from List.take_of_length_le (by simp)]
  repeat (first | refine AWp.seq ?_ | refine AWp.block ?_)
  apply AWp.reg [] []
  · conv => lhs; simp [owMem]
  · trivial
  repeat (first | refine AWp.seq ?_ | refine AWp.block ?_)
  apply AWp.reg [] []
  · conv => lhs; simp
  · trivial
  refine AWp.ret ?_
  try dsimp only [thenQ, blockQ]
  apply endQ.retF [400, 401]
  · rfl
  · conv => lhs; simp
  · conv => lhs; simp [resAV, Tryd.results76]
  rfl
theorem sp_Own (t : Tm) (h : t.Ok) : PSpec Tryd.prog 76 [tmAV t] (fun _ => tmAV t) none := sp_Own_at _ t (Nat.lt_succ_self _) h
end Go.Proofs.YtapiiklnnkkdlaaDoor

namespace Go.Proofs.YtapiiklnnkkdlaaDoor
open Go.RowKit
attribute [local simp] runD mkRc ldOf stOf stOk ldArg noAny dstOk guardOk opEff opEff0 effOp pureOp callOp zEff evA constAV scalAV Value.oneCell' frGet memGet startAS frOf isGoCall idIn AS.after nextR opnIds objIds AV.ids idsL AObj.ids frNo memNo opnAny isAny mkVal rdCells wrCells fldAddr idxAddr srcRows litRows toD1 toDs setAt sliceAV optI partAV bldAV fillAV binAV binI AV.cells callEff calleeOf frKill memKill AV.kill AObj.kill AV.has AV.hasL Op.operands Call.operands keepF keepM viewIds cChk renOf moGet moWs moQ cEff moLike moHave AV.ren renL AObj.ren AObj.like kept startC moMem AV.frz frz1 frzL frSub memSub frzs AS.frz frFrz memFrz AObj.frz takeMap takeLen bleF Nat.ble_eq memAny objAny mapOp D.keyOk rowAV valRow extOp wrapOp phO
set_option linter.unusedVariables false
set_option linter.unusedSimpArgs false
def hasB (l : List ByteArray) (s : ByteArray) : Bool := l.any fun x => decide (x = s)
theorem hasB_iff {l : List ByteArray} {s : ByteArray} : hasB l s = true ↔ s ∈ l := by
  unfold hasB
  rw [List.any_eq_true]
  constructor
  · rintro ⟨x, h1, h2⟩
    rw [← of_decide_eq_true h2]; exact h1
  · exact fun h => ⟨s, h, decide_eq_true rfl⟩
theorem hasB_not {l : List ByteArray} {s : ByteArray} : hasB l s = false ↔ s ∉ l := by
  rw [← Bool.not_eq_true, hasB_iff]
theorem not_mem_snoc {l : List ByteArray} {i : Nat} {x s : ByteArray} (hx : l[i]? = some x) (h : s ∉ l.take i) (hne : x ≠ s) : s ∉ l.take (i + 1) := by
  rw [List.take_add_one, hx]
  simp only [Option.toList_some, List.mem_append, List.mem_singleton, not_or]
  exact ⟨h, fun e => hne e.symm⟩
set_option maxHeartbeats 1000000 in
theorem sp_Has (l : List ByteArray) (s : ByteArray) (hl : l.length ≤ 8796093022208) : PSpec Tryd.prog 26 [strsAV l, .d (.str s)] (fun _ => .d (.bool (hasB l s))) none := by
  refine PSpec.of Tryd.func26 rfl rfl rfl (Nat.le_of_ble_eq_true rfl) ?_
  show AWp _ _ (endQ _ Tryd.f26 _ _ _) (startAS 17 _)
  repeat (first | refine AWp.seq ?_ | refine AWp.block ?_)
  apply AWp.reg [] []
  · conv => lhs; simp
  · trivial
  repeat (first | refine AWp.seq ?_ | refine AWp.block ?_)
  apply AWp.reg [] []
  · conv => lhs; simp
  · trivial
  repeat (first | refine AWp.seq ?_ | refine AWp.block ?_)
  refine AWp.loop (σ := fun u : {i : Nat // i ≤ l.length ∧ s ∉ l.take i} => ⟨17, [(1, .d (.str s)), (7, strsAV l), (8, .d (.int l.length)), (9, .d (.int u.1))], []⟩)
    (μ := fun u => l.length - u.1) ⟨0, Nat.zero_le _, by simp⟩ (Le.sub (by simp) (by simp)) (fun ⟨i, hi, ht⟩ => ?_)
  dsimp only
  repeat (first | refine AWp.seq ?_ | refine AWp.block ?_)
  apply AWp.reg [] []
  · conv => lhs; simp
  · trivial
  repeat (first | refine AWp.seq ?_ | refine AWp.block ?_)
  refine AWp.cond rfl (fun h => ?_) (fun h => ?_)
  · have hi1 : i < l.length := by have := of_decide_eq_true h; omega
    have h1 : l[i]? = some l[i] := List.getElem?_eq_getElem hi1
    have hmem : l[i] ∈ l := List.getElem_mem hi1
    generalize l[i] = x at h1 hmem
    refine AWp.skip ?_
    refine AWp.rg [] [] ?_ (hr := by conv => lhs; simp [h1])
    by_cases hx : x = s
    · subst hx
      repeat (first | refine AWp.seq ?_ | refine AWp.block ?_)
      apply AWp.reg [] []
      · conv => lhs; simp
      · trivial
      repeat (first | refine AWp.seq ?_ | refine AWp.block ?_)
      refine AWp.cond rfl (fun h2 => ?_) (fun h2 => ?_)
      · repeat (first | refine AWp.seq ?_ | refine AWp.block ?_)
        apply AWp.reg [] []
        · conv => lhs; simp
        · trivial
        refine AWp.ret ?_
        try dsimp only [thenQ, blockQ]
        apply endQ.ret
        · rfl
        · conv => lhs; simp [resAV, Tryd.results26]
        rw [hasB_iff.2 hmem]; rfl
      · simp at h2
    · repeat (first | refine AWp.seq ?_ | refine AWp.block ?_)
      apply AWp.reg [] []
      · conv => lhs; simp [hx]
      · trivial
      repeat (first | refine AWp.seq ?_ | refine AWp.block ?_)
      refine AWp.cond rfl (fun h2 => ?_) (fun h2 => ?_)
      · simp at h2
      refine AWp.skip ?_
      refine AWp.rg [] [] ?_
      refine ⟨⟨i + 1, hi1, not_mem_snoc h1 ht hx⟩, by simp; omega, Le.sub (by simp) (by simp)⟩
  have hi1 : i = l.length := by have := of_decide_eq_false h; omega
  subst hi1
  rw [List.take_length] at ht
  refine AWp.exit ?_
  repeat (first | refine AWp.seq ?_ | refine AWp.block ?_)
  apply AWp.reg [] []
  · conv => lhs; simp
  · trivial
  refine AWp.ret ?_
  try dsimp only [thenQ, blockQ]
  apply endQ.ret
  · rfl
  · conv => lhs; simp [resAV, Tryd.results26]
  rw [hasB_not.2 ht]; rfl
def indexI (l : List ByteArray) (p : ByteArray → Bool) : Int := match l.findIdx? p with | some i => i | none => -1
theorem indexI_some {l : List ByteArray} {p : ByteArray → Bool} {i : Nat} {x : ByteArray} (hx : l[i]? = some x) (h : ∀ y ∈ l.take i, p y = false) (hp : p x = true) : indexI l p = i := by
  unfold indexI
  have : l.findIdx? p = some i := by
    rw [List.findIdx?_eq_some_iff_getElem]
    have hi := (List.getElem?_eq_some_iff.1 hx)
    refine ⟨hi.1, by rw [hi.2]; exact hp, fun j hj => ?_⟩
    have hjl : j < l.length := by have := hi.1; omega
    have := h (l[j]'hjl) (List.mem_iff_getElem?.2 ⟨j, by rw [List.getElem?_take, if_pos hj]; exact List.getElem?_eq_getElem hjl⟩)
    simp [this]
  rw [this]
theorem indexI_none {l : List ByteArray} {p : ByteArray → Bool} (h : ∀ y ∈ l, p y = false) : indexI l p = -1 := by
  unfold indexI
  have : l.findIdx? p = none := by
    rw [List.findIdx?_eq_none_iff]
    exact h
  rw [this]
theorem take_all_snoc {l : List ByteArray} {p : ByteArray → Bool} {i : Nat} {x : ByteArray} (hx : l[i]? = some x) (h : ∀ y ∈ l.take i, p y = false) (hp : p x = false) : ∀ y ∈ l.take (i + 1), p y = false := by
  rw [List.take_add_one, hx]
  intro y hy
  rcases List.mem_append.1 hy with hy | hy
  · exact h y hy
  · simp at hy; subst hy; exact hp
set_option maxHeartbeats 1000000 in
theorem sp_Index (l : List ByteArray) (s : ByteArray) (hl : l.length ≤ 8796093022208) : PSpec Tryd.prog 165 [strsAV l, .d (.str s)] (fun _ => .d (.int (indexI l fun x => decide (s = x)))) none := by
  refine PSpec.of Tryd.func165 rfl rfl rfl (Nat.le_of_ble_eq_true rfl) ?_
  show AWp _ _ (endQ _ Tryd.f165 _ _ _) (startAS 19 _)
  repeat (first | refine AWp.seq ?_ | refine AWp.block ?_)
  apply AWp.reg [] []
  · conv => lhs; simp
  · trivial
  repeat (first | refine AWp.seq ?_ | refine AWp.block ?_)
  apply AWp.reg [] []
  · conv => lhs; simp
  · trivial
  repeat (first | refine AWp.seq ?_ | refine AWp.block ?_)
  refine AWp.loop (σ := fun u : {i : Nat // i ≤ l.length ∧ ∀ y ∈ l.take i, decide (s = y) = false} => ⟨19, [(0, strsAV l), (1, .d (.str s)), (7, .d (.int l.length)), (8, .d (.int u.1))], []⟩)
    (μ := fun u => l.length - u.1) ⟨0, Nat.zero_le _, by simp⟩ (Le.sub (by simp) (by simp)) (fun ⟨i, hi, ht⟩ => ?_)
  dsimp only
  repeat (first | refine AWp.seq ?_ | refine AWp.block ?_)
  apply AWp.reg [] []
  · conv => lhs; simp
  · trivial
  repeat (first | refine AWp.seq ?_ | refine AWp.block ?_)
  refine AWp.cond rfl (fun h => ?_) (fun h => ?_)
  · have hi1 : i < l.length := by have := of_decide_eq_true h; omega
    have h1 : l[i]? = some l[i] := List.getElem?_eq_getElem hi1
    generalize l[i] = x at h1
    refine AWp.skip ?_
    repeat (first | refine AWp.seq ?_ | refine AWp.block ?_)
    apply AWp.reg [] []
    · conv => lhs; simp
    · trivial
    by_cases hx : s = x
    · subst hx
      refine AWp.rg [] [] ?_ (hr := by conv => lhs; simp [h1])
      repeat (first | refine AWp.seq ?_ | refine AWp.block ?_)
      refine AWp.cond rfl (fun h2 => ?_) (fun h2 => ?_)
      · repeat (first | refine AWp.seq ?_ | refine AWp.block ?_)
        apply AWp.reg [] []
        · conv => lhs; simp
        · trivial
        refine AWp.ret ?_
        try dsimp only [thenQ, blockQ]
        apply endQ.ret
        · rfl
        · conv => lhs; simp [resAV, Tryd.results165]
        rw [indexI_some h1 ht (by simp)]; rfl
      · simp at h2
    · refine AWp.rg [] [] ?_ (hr := by conv => lhs; simp [h1, hx])
      repeat (first | refine AWp.seq ?_ | refine AWp.block ?_)
      refine AWp.cond rfl (fun h2 => ?_) (fun h2 => ?_)
      · simp at h2
      refine AWp.skip ?_
      refine AWp.rg [] [] ?_
      refine ⟨⟨i + 1, hi1, take_all_snoc h1 ht (by simp [hx])⟩, by simp; omega, Le.sub (by simp) (by simp)⟩
  have hi1 : i = l.length := by have := of_decide_eq_false h; omega
  subst hi1
  rw [List.take_length] at ht
  refine AWp.exit ?_
  repeat (first | refine AWp.seq ?_ | refine AWp.block ?_)
  apply AWp.reg [] []
  · conv => lhs; simp
  · trivial
  refine AWp.ret ?_
  try dsimp only [thenQ, blockQ]
  apply endQ.ret
  · rfl
  · conv => lhs; simp [resAV, Tryd.results165]
  rw [indexI_none ht]; rfl
theorem sp_Contains (l : List ByteArray) (s : ByteArray) (hl : l.length ≤ 8796093022208) : PSpec Tryd.prog 125 [strsAV l, .d (.str s)] (fun _ => .d (.bool (hasB l s))) none := by
  have hx := sp_Index l s hl
  have e : decide (0 ≤ indexI l fun x => decide (s = x)) = hasB l s := by
    cases h : hasB l s with
    | true =>
      have hm := hasB_iff.1 h
      unfold indexI
      cases hf : l.findIdx? fun x => decide (s = x) with
      | none =>
        rw [List.findIdx?_eq_none_iff] at hf
        have := hf s hm
        simp at this
      | some i => simp
    | false =>
      have hm := hasB_not.1 h
      rw [indexI_none fun y hy => by simp; rintro rfl; exact hm hy]
      rfl
  generalize indexI l (fun x => decide (s = x)) = I at hx e
  refine PSpec.of Tryd.func125 rfl rfl rfl (Nat.le_of_ble_eq_true rfl) ?_
  show AWp _ _ (endQ _ Tryd.f125 _ _ _) (startAS 9 _)
  repeat (first | refine AWp.seq ?_ | refine AWp.block ?_)
  apply AWp.reg [] []
  · conv => lhs; simp
  · trivial
  repeat (first | refine AWp.seq ?_ | refine AWp.block ?_)
  apply AWp.reg [] [.p (fun _ => .d (.int I)) none]
  · conv => lhs; simp
  · exact hx
  refine AWp.ret ?_
  try dsimp only [thenQ, blockQ]
  apply endQ.ret
  · rfl
  · conv => lhs; simp [resAV, Tryd.results125]
  rw [e]; rfl
end Go.Proofs.YtapiiklnnkkdlaaDoor
