import Derived.Test.YtapiiklnnkkdlaaDoorOpen
import Derived.Test.YtapiiklnnkkdlaaDoorTy
/- Terms, cases, functions, values: as trees in Lean, and what a type allows of them. -/
namespace Go.Proofs.YtapiiklnnkkdlaaDoor
open Go.RowKit
set_option linter.unusedVariables false
mutual
inductive Tm where
  | mk (kind n : Int) (name token : ByteArray) (vars : List ByteArray) (args : List Tm) (cases : List Cs)
inductive Cs where
  | mk (tag : Int) (vars : List ByteArray) (body : Tm)
end
structure Fn where
  name : ByteArray
  params : List ByteArray
  body : Tm
mutual
def Tm.Ok : Tm → Prop
  | .mk _ _ a b vs xs cs => (a.size ≤ 140737488355328 ∧ b.size ≤ 140737488355328 ∧ (∀ s ∈ vs, s.size ≤ 140737488355328)) ∧ (vs.length ≤ 8796093022207 ∧ xs.length ≤ 1172812402960 ∧ cs.length ≤ 925904528652) ∧ Tm.Oks xs ∧ Cs.Oks cs
def Tm.Oks : List Tm → Prop
  | [] => True
  | t :: r => t.Ok ∧ Tm.Oks r
def Cs.Ok : Cs → Prop
  | .mk _ vs b => (∀ s ∈ vs, s.size ≤ 140737488355328) ∧ vs.length ≤ 8796093022207 ∧ b.Ok
def Cs.Oks : List Cs → Prop
  | [] => True
  | c :: r => c.Ok ∧ Cs.Oks r
end
theorem Tm.Oks_iff : ∀ {l : List Tm}, Tm.Oks l ↔ ∀ t ∈ l, t.Ok
  | [] => by simp [Tm.Oks]
  | t :: r => by simp [Tm.Oks, Tm.Oks_iff (l := r)]
theorem Cs.Oks_iff : ∀ {l : List Cs}, Cs.Oks l ↔ ∀ t ∈ l, t.Ok
  | [] => by simp [Cs.Oks]
  | t :: r => by simp [Cs.Oks, Cs.Oks_iff (l := r)]
structure Fn.Ok (f : Fn) : Prop where
  name : f.name.size ≤ 140737488355328
  params : f.params.length ≤ 8796093022207
  sizes : ∀ s ∈ f.params, s.size ≤ 140737488355328
  body : f.body.Ok
structure FnsOk (l : List Fn) : Prop where
  len : l.length ≤ 879609302220
  all : ∀ f ∈ l, f.Ok
theorem FnsOk.fn {l : List Fn} (h : FnsOk l) : ∀ f ∈ l, f.body.Ok ∧ f.params.length ≤ 8796093022207 := fun f hf => ⟨(h.all f hf).body, (h.all f hf).params⟩
abbrev strR (s : ByteArray) : List D := [.str s]
abbrev strsD (l : List ByteArray) : D := .sl (l.map strR)
mutual
def Tm.row : Tm → List D
  | .mk k n a b vs xs cs => [.int k, .int n, .str a, .str b, strsD vs, .sl (Tm.rows xs), .sl (Cs.rows cs)]
def Tm.rows : List Tm → List (List D)
  | [] => []
  | t :: r => t.row :: Tm.rows r
def Cs.row : Cs → List D
  | .mk t vs b => .int t :: strsD vs :: b.row
def Cs.rows : List Cs → List (List D)
  | [] => []
  | c :: r => c.row :: Cs.rows r
end
theorem Tm.rows_eq (l : List Tm) : Tm.rows l = l.map Tm.row := by
  induction l with
  | nil => rfl
  | cons t r ih => simp only [Tm.rows, List.map_cons, ih]
theorem Cs.rows_eq (l : List Cs) : Cs.rows l = l.map Cs.row := by
  induction l with
  | nil => rfl
  | cons t r ih => simp only [Cs.rows, List.map_cons, ih]
def Fn.row (f : Fn) : List D := .str f.name :: strsD f.params :: f.body.row
mutual
def Tm.sz : Tm → Nat
  | .mk _ _ _ _ _ xs cs => 1 + Tm.szs xs + Cs.szs cs
def Tm.szs : List Tm → Nat
  | [] => 0
  | t :: r => t.sz + Tm.szs r
def Cs.sz : Cs → Nat
  | .mk _ _ b => b.sz
def Cs.szs : List Cs → Nat
  | [] => 0
  | c :: r => c.sz + Cs.szs r
end
theorem Tm.szs_mem {t : Tm} : ∀ {l : List Tm}, t ∈ l → t.sz ≤ Tm.szs l
  | [], h => by cases h
  | x :: l, h => by
    simp only [Tm.szs]
    rcases List.mem_cons.1 h with rfl | h
    · omega
    · have := Tm.szs_mem h; omega
theorem Cs.szs_mem {t : Cs} : ∀ {l : List Cs}, t ∈ l → t.sz ≤ Cs.szs l
  | [], h => by cases h
  | x :: l, h => by
    simp only [Cs.szs]
    rcases List.mem_cons.1 h with rfl | h
    · omega
    · have := Cs.szs_mem h; omega
def Cs.tag : Cs → Int | .mk t _ _ => t
def Cs.vars : Cs → List ByteArray | .mk _ v _ => v
def Cs.body : Cs → Tm | .mk _ _ b => b
def Tm.kind : Tm → Int | .mk k _ _ _ _ _ _ => k
def Tm.n : Tm → Int | .mk _ n _ _ _ _ _ => n
def Tm.name : Tm → ByteArray | .mk _ _ a _ _ _ _ => a
def Tm.token : Tm → ByteArray | .mk _ _ _ b _ _ _ => b
def Tm.vars : Tm → List ByteArray | .mk _ _ _ _ v _ _ => v
def Tm.args : Tm → List Tm | .mk _ _ _ _ _ a _ => a
def Tm.cases : Tm → List Cs | .mk _ _ _ _ _ _ c => c
abbrev tmAV : Tm → AV
  | .mk k n a b vs xs cs => .agg [.d (.int k), .d (.int n), .d (.str a), .d (.str b), .d (strsD vs), .d (.sl (xs.map Tm.row)), .d (.sl (cs.map Cs.row))]
abbrev fnsAV (l : List Fn) : AV := .d (.sl (l.map Fn.row))
abbrev tmsAV (l : List Tm) : AV := .d (.sl (l.map Tm.row))
abbrev strsAV (l : List ByteArray) : AV := .d (strsD l)
section
variable {ds : List D}
theorem strs_ok (h : RT Tryd.prog 30 ds) : ∃ l : List ByteArray, ds = [strsD l] ∧ l.length ≤ 8796093022207 ∧ ∀ s ∈ l, s.size ≤ 140737488355328 := by
  obtain ⟨l, rfl, hl, hs⟩ := h.strs_inv Tryd.underlying30 Tryd.underlying9
  rw [show Tryd.prog.bytesOf 9 = 16 by kernel_rfl] at hl
  unfold reachBytes at hl hs
  exact ⟨l, rfl, by omega, fun s hm => by have := hs s hm; omega⟩
theorem tm_inv : ∀ (t : TypeId) (ds : List D), RT Tryd.prog t ds → (t = 34 → ∃ x : Tm, ds = x.row ∧ x.Ok) ∧ (t = 31 → ∃ x : List Tm, ds = [.sl (x.map Tm.row)] ∧ x.length ≤ 1172812402960 ∧ ∀ y ∈ x, y.Ok) ∧ (t = 40 → ∃ x : Cs, ds = x.row ∧ x.Ok) ∧ (t = 32 → ∃ x : List Cs, ds = [.sl (x.map Cs.row)] ∧ x.length ≤ 925904528652 ∧ ∀ y ∈ x, y.Ok) := by
  intro t ds h
  induction h with
  | int n h lo hi =>
    refine ⟨?_, ?_, ?_, ?_⟩ <;> (rintro rfl; first | (rw [Tryd.underlying34] at h; cases h) | (rw [Tryd.underlying31] at h; cases h) | (rw [Tryd.underlying40] at h; cases h) | (rw [Tryd.underlying32] at h; cases h))
  | bool b h =>
    refine ⟨?_, ?_, ?_, ?_⟩ <;> (rintro rfl; first | (rw [Tryd.underlying34] at h; cases h) | (rw [Tryd.underlying31] at h; cases h) | (rw [Tryd.underlying40] at h; cases h) | (rw [Tryd.underlying32] at h; cases h))
  | str s h hs =>
    refine ⟨?_, ?_, ?_, ?_⟩ <;> (rintro rfl; first | (rw [Tryd.underlying34] at h; cases h) | (rw [Tryd.underlying31] at h; cases h) | (rw [Tryd.underlying40] at h; cases h) | (rw [Tryd.underlying32] at h; cases h))
  | sl rows h hl hr ih =>
    refine ⟨?_, ?_, ?_, ?_⟩
    · rintro rfl; rw [Tryd.underlying34] at h; cases h
    · rintro rfl
      rw [Tryd.underlying31] at h
      cases h
      obtain ⟨l, rfl, hp⟩ := rows_inv (row := Tm.row) (p := Tm.Ok) fun r hr' => (ih r hr').1 rfl
      refine ⟨l, rfl, ?_, hp⟩
      rw [List.length_map, show Tryd.prog.bytesOf 34 = 120 by kernel_rfl] at hl
      unfold reachBytes at hl
      omega
    · rintro rfl; rw [Tryd.underlying40] at h; cases h
    · rintro rfl
      rw [Tryd.underlying32] at h
      cases h
      obtain ⟨l, rfl, hp⟩ := rows_inv (row := Cs.row) (p := Cs.Ok) fun r hr' => (ih r hr').2.2.1 rfl
      refine ⟨l, rfl, ?_, hp⟩
      rw [List.length_map, show Tryd.prog.bytesOf 40 = 152 by kernel_rfl] at hl
      unfold reachBytes at hl
      omega
  | struct parts h hl hf ih =>
    refine ⟨?_, ?_, ?_, ?_⟩
    · rintro rfl
      rw [Tryd.underlying34] at h
      cases h
      match parts, hl with
      | [p0, p1, p2, p3, p4, p5, p6], _ =>
        obtain ⟨k, rfl, _⟩ := (hf 0 _ p0 rfl rfl).int_inv Tryd.underlying3
        obtain ⟨n, rfl, _⟩ := (hf 1 _ p1 rfl rfl).int_inv Tryd.underlying3
        obtain ⟨a, rfl, ha⟩ := (hf 2 _ p2 rfl rfl).str_inv Tryd.underlying9
        obtain ⟨b, rfl, hb⟩ := (hf 3 _ p3 rfl rfl).str_inv Tryd.underlying9
        obtain ⟨vs, rfl, hv, hvs⟩ := strs_ok (hf 4 _ p4 rfl rfl)
        obtain ⟨xs, rfl, hx, hxs⟩ := (ih 5 _ p5 rfl rfl).2.1 rfl
        obtain ⟨cs, rfl, hc, hcs⟩ := (ih 6 _ p6 rfl rfl).2.2.2 rfl
        unfold reachBytes at ha hb
        exact ⟨.mk k n a b vs xs cs, by simp [Tm.row, Tm.rows_eq, Cs.rows_eq], ⟨⟨by omega, by omega, hvs⟩, ⟨hv, hx, hc⟩, Tm.Oks_iff.2 hxs, Cs.Oks_iff.2 hcs⟩⟩
    · rintro rfl; rw [Tryd.underlying31] at h; cases h
    · rintro rfl
      rw [Tryd.underlying40] at h
      cases h
      match parts, hl with
      | [p0, p1, p2], _ =>
        obtain ⟨k, rfl, _⟩ := (hf 0 _ p0 rfl rfl).int_inv Tryd.underlying3
        obtain ⟨vs, rfl, hv, hvs⟩ := strs_ok (hf 1 _ p1 rfl rfl)
        obtain ⟨b, rfl, hb⟩ := (ih 2 _ p2 rfl rfl).1 rfl
        exact ⟨.mk k vs b, by simp [Cs.row], hvs, hv, hb⟩
    · rintro rfl; rw [Tryd.underlying32] at h; cases h
theorem fn_inv (h : RT Tryd.prog 36 ds) : ∃ f : Fn, ds = f.row ∧ f.Ok := by
  obtain ⟨p0, p1, p2, rfl, h0, h1, h2⟩ := h.struct3_inv Tryd.underlying36
  obtain ⟨a, rfl, ha⟩ := h0.str_inv Tryd.underlying9
  obtain ⟨vs, rfl, hv, hvs⟩ := strs_ok h1
  obtain ⟨b, rfl, hb⟩ := (tm_inv _ _ h2).1 rfl
  unfold reachBytes at ha
  exact ⟨⟨a, vs, b⟩, by simp [Fn.row], ⟨(by omega : a.size ≤ 140737488355328), hv, hvs, hb⟩⟩
theorem fns_inv {c : AV} (h : ArgRT Tryd.prog 22 c) : ∃ l : List Fn, c = .d (.sl (l.map Fn.row)) ∧ FnsOk l := by
  obtain ⟨l, rfl, hl, hp⟩ := h.list (fun r hr => fn_inv hr) Tryd.underlying22
  rw [show Tryd.prog.bytesOf 36 = 160 by kernel_rfl] at hl
  unfold reachBytes at hl
  exact ⟨l, rfl, by omega, hp⟩
end
end Go.Proofs.YtapiiklnnkkdlaaDoor

namespace Go.Proofs.YtapiiklnnkkdlaaDoor
open Go.RowKit
attribute [local simp] runD mkRc ldOf stOf stOk ldArg noAny dstOk guardOk opEff opEff0 effOp pureOp callOp zEff evA constAV scalAV Value.oneCell' frGet memGet startAS frOf isGoCall idIn AS.after nextR opnIds objIds AV.ids idsL AObj.ids frNo memNo opnAny isAny mkVal rdCells wrCells fldAddr idxAddr srcRows litRows toD1 toDs setAt sliceAV optI partAV bldAV fillAV binAV binI AV.cells callEff calleeOf frKill memKill AV.kill AObj.kill AV.has AV.hasL Op.operands Call.operands keepF keepM viewIds cChk renOf moGet moWs moQ cEff moLike moHave AV.ren renL AObj.ren AObj.like kept startC moMem AV.frz frz1 frzL frSub memSub frzs AS.frz frFrz memFrz AObj.frz takeMap takeLen bleF Nat.ble_eq memAny objAny mapOp D.keyOk rowAV valRow extOp wrapOp phO
set_option linter.unusedVariables false
set_option linter.unusedSimpArgs false
noncomputable def eqB {α : Type} (a b : α) : Bool := @decide (a = b) (Classical.propDecidable _)
theorem eqB_self {α : Type} (a : α) : eqB a a = true := by simp [eqB]
theorem eqB_ne {α : Type} {a b : α} (h : a ≠ b) : eqB a b = false := by simp [eqB, h]
theorem eqB_iff {α : Type} {a b : α} : eqB a b = true ↔ a = b := by simp [eqB]
theorem take_eq {α : Type} {a b : List α} {i : Nat} {x y : α} (hx : a[i]? = some x) (hy : b[i]? = some y) (h : a.take i = b.take i) : a.take (i + 1) = b.take (i + 1) ↔ x = y := by
  rw [List.take_add_one, List.take_add_one, hx, hy, h]
  simp
theorem take_ne {α : Type} {a b : List α} {i : Nat} {x y : α} (hx : a[i]? = some x) (hy : b[i]? = some y) (h : x ≠ y) : a ≠ b := by
  rintro rfl
  rw [hx] at hy
  exact h (Option.some.inj hy)
theorem len_bulkRows : ∀ (l : List (List D)), (∀ r ∈ l, r ≠ []) → l.length ≤ D.bulkRows l
  | [], _ => Nat.le_refl _
  | r :: l, h => by
    have h1 := len_bulkRows l fun r hr => h r (List.mem_cons_of_mem _ hr)
    have h2 := h r (List.mem_cons_self ..)
    simp only [D.bulkRows, List.length_cons]
    have : 1 ≤ D.bulkRow r := by
      cases r with
      | nil => exact absurd rfl h2
      | cons d r =>
        simp only [D.bulkRow]
        have : 1 ≤ D.bulk d := by cases d <;> simp [D.bulk]
        omega
    omega
theorem Tm.Ok.vars {k n : Int} {a b : ByteArray} {vs : List ByteArray} {xs : List Tm} {cs : List Cs} (h : (Tm.mk k n a b vs xs cs).Ok) : vs.length ≤ 8796093022207 ∧ xs.length ≤ 1172812402960 ∧ cs.length ≤ 925904528652 ∧ a.size ≤ 140737488355328 ∧ b.size ≤ 140737488355328 := by
  unfold Tm.Ok at h
  exact ⟨h.2.1.1, h.2.1.2.1, h.2.1.2.2, h.1.1, h.1.2.1⟩
theorem Tm.Ok.arg {k n : Int} {a b : ByteArray} {vs : List ByteArray} {xs : List Tm} {cs : List Cs} (h : (Tm.mk k n a b vs xs cs).Ok) {x : Tm} (hx : x ∈ xs) : x.Ok := by
  unfold Tm.Ok at h
  exact Tm.Oks_iff.1 h.2.2.1 x hx
theorem Tm.Ok.case {k n : Int} {a b : ByteArray} {vs : List ByteArray} {xs : List Tm} {cs : List Cs} (h : (Tm.mk k n a b vs xs cs).Ok) {x : Cs} (hx : x ∈ cs) : x.Ok := by
  unfold Tm.Ok at h
  exact Cs.Oks_iff.1 h.2.2.2 x hx
theorem Cs.Ok.body {t : Int} {vs : List ByteArray} {b : Tm} (h : (Cs.mk t vs b).Ok) : b.Ok ∧ vs.length ≤ 8796093022207 := by
  unfold Cs.Ok at h
  exact ⟨h.2.2, h.2.1⟩
theorem Cs.Ok.sizes {t : Int} {vs : List ByteArray} {b : Tm} (h : (Cs.mk t vs b).Ok) : ∀ s ∈ vs, s.size ≤ 140737488355328 := by
  unfold Cs.Ok at h
  exact h.1
theorem Tm.sz_arg {k n : Int} {a b : ByteArray} {vs : List ByteArray} {xs : List Tm} {cs : List Cs} {x : Tm} (hx : x ∈ xs) : x.sz < (Tm.mk k n a b vs xs cs).sz := by
  have := Tm.szs_mem hx
  simp only [Tm.sz]; omega
theorem Tm.sz_case {k n : Int} {a b : ByteArray} {vs : List ByteArray} {xs : List Tm} {cs : List Cs} {t : Int} {ws : List ByteArray} {y : Tm} (hx : Cs.mk t ws y ∈ cs) : y.sz < (Tm.mk k n a b vs xs cs).sz := by
  have := Cs.szs_mem hx
  simp only [Cs.sz] at this
  simp only [Tm.sz]; omega
theorem Tm.row_len (t : Tm) : t.row.length = 7 := by cases t; rfl
theorem Cs.row_len (t : Cs) : t.row.length = 9 := by cases t; simp [Cs.row, Tm.row_len]

end Go.Proofs.YtapiiklnnkkdlaaDoor

namespace Go.Proofs.YtapiiklnnkkdlaaDoor
open Go.RowKit
attribute [local simp] runD mkRc ldOf stOf stOk ldArg noAny dstOk guardOk opEff opEff0 effOp pureOp callOp zEff evA constAV scalAV Value.oneCell' frGet memGet startAS frOf isGoCall idIn AS.after nextR opnIds objIds AV.ids idsL AObj.ids frNo memNo opnAny isAny mkVal rdCells wrCells fldAddr idxAddr srcRows litRows toD1 toDs setAt sliceAV optI partAV bldAV fillAV binAV binI AV.cells callEff calleeOf frKill memKill AV.kill AObj.kill AV.has AV.hasL Op.operands Call.operands keepF keepM viewIds cChk renOf moGet moWs moQ cEff moLike moHave AV.ren renL AObj.ren AObj.like kept startC moMem AV.frz frz1 frzL frSub memSub frzs AS.frz frFrz memFrz AObj.frz takeMap takeLen bleF Nat.ble_eq memAny objAny mapOp D.keyOk rowAV valRow extOp wrapOp phO frLow memLow memLow1 objLow memEmpty Low LowL
set_option linter.unusedVariables false
set_option linter.unusedSimpArgs false
end Go.Proofs.YtapiiklnnkkdlaaDoor

namespace Go.Proofs.YtapiiklnnkkdlaaDoor
open Go.RowKit
attribute [local simp] runD mkRc ldOf stOf stOk ldArg noAny dstOk guardOk opEff opEff0 effOp pureOp callOp zEff evA constAV scalAV Value.oneCell' frGet memGet startAS frOf isGoCall idIn AS.after nextR opnIds objIds AV.ids idsL AObj.ids frNo memNo opnAny isAny mkVal rdCells wrCells fldAddr idxAddr srcRows litRows toD1 toDs setAt sliceAV optI partAV bldAV fillAV binAV binI AV.cells callEff calleeOf frKill memKill AV.kill AObj.kill AV.has AV.hasL Op.operands Call.operands keepF keepM viewIds cChk renOf moGet moWs moQ cEff moLike moHave AV.ren renL AObj.ren AObj.like kept startC moMem AV.frz frz1 frzL frSub memSub frzs AS.frz frFrz memFrz AObj.frz takeMap takeLen bleF Nat.ble_eq memAny objAny mapOp D.keyOk rowAV valRow extOp wrapOp phO
set_option linter.unusedVariables false
set_option linter.unusedSimpArgs false
def hasB (l : List ByteArray) (s : ByteArray) : Bool := l.any fun x => decide (x = s)
theorem hasB_iff {l : List ByteArray} {s : ByteArray} : hasB l s = true ↔ s ∈ l := by
  unfold hasB
  rw [List.any_eq_true]
  constructor
  · rintro ⟨x, h1, h2⟩
    rw [← of_decide_eq_true h2]; exact h1
  · exact fun h => ⟨s, h, decide_eq_true rfl⟩
theorem hasB_not {l : List ByteArray} {s : ByteArray} : hasB l s = false ↔ s ∉ l := by
  rw [← Bool.not_eq_true, hasB_iff]
theorem not_mem_snoc {l : List ByteArray} {i : Nat} {x s : ByteArray} (hx : l[i]? = some x) (h : s ∉ l.take i) (hne : x ≠ s) : s ∉ l.take (i + 1) := by
  rw [List.take_add_one, hx]
  simp only [Option.toList_some, List.mem_append, List.mem_singleton, not_or]
  exact ⟨h, fun e => hne e.symm⟩
set_option maxHeartbeats 1000000 in
theorem sp_Has (l : List ByteArray) (s : ByteArray) (hl : l.length ≤ 8796093022208) : PSpec Tryd.prog 26 [strsAV l, .d (.str s)] (fun _ => .d (.bool (hasB l s))) none := by
  refine PSpec.of Tryd.func26 rfl rfl rfl (Nat.le_of_ble_eq_true rfl) ?_
  show AWp _ _ (endQ _ Tryd.f26 _ _ _) (startAS 17 _)
  repeat (first | refine AWp.seq ?_ | refine AWp.block ?_)
  apply AWp.reg [] []
  · conv => lhs; simp
  · trivial
  repeat (first | refine AWp.seq ?_ | refine AWp.block ?_)
  apply AWp.reg [] []
  · conv => lhs; simp
  · trivial
  repeat (first | refine AWp.seq ?_ | refine AWp.block ?_)
  refine AWp.loop (σ := fun u : {i : Nat // i ≤ l.length ∧ s ∉ l.take i} => ⟨17, [(1, .d (.str s)), (7, strsAV l), (8, .d (.int l.length)), (9, .d (.int u.1))], []⟩)
    (μ := fun u => l.length - u.1) ⟨0, Nat.zero_le _, by simp⟩ (Le.sub (by simp) (by simp)) (fun ⟨i, hi, ht⟩ => ?_)
  dsimp only
  repeat (first | refine AWp.seq ?_ | refine AWp.block ?_)
  apply AWp.reg [] []
  · conv => lhs; simp
  · trivial
  repeat (first | refine AWp.seq ?_ | refine AWp.block ?_)
  refine AWp.cond rfl (fun h => ?_) (fun h => ?_)
  · have hi1 : i < l.length := by have := of_decide_eq_true h; omega
    have h1 : l[i]? = some l[i] := List.getElem?_eq_getElem hi1
    have hmem : l[i] ∈ l := List.getElem_mem hi1
    generalize l[i] = x at h1 hmem
    refine AWp.skip ?_
    refine AWp.rg [] [] ?_ (hr := by conv => lhs; simp [h1])
    by_cases hx : x = s
    · subst hx
      repeat (first | refine AWp.seq ?_ | refine AWp.block ?_)
      apply AWp.reg [] []
      · conv => lhs; simp
      · trivial
      repeat (first | refine AWp.seq ?_ | refine AWp.block ?_)
      refine AWp.cond rfl (fun h2 => ?_) (fun h2 => ?_)
      · repeat (first | refine AWp.seq ?_ | refine AWp.block ?_)
        apply AWp.reg [] []
        · conv => lhs; simp
        · trivial
        refine AWp.ret ?_
        try dsimp only [thenQ, blockQ]
        apply endQ.ret
        · rfl
        · conv => lhs; simp [resAV, Tryd.results26]
        rw [hasB_iff.2 hmem]; rfl
      · simp at h2
    · repeat (first | refine AWp.seq ?_ | refine AWp.block ?_)
      apply AWp.reg [] []
      · conv => lhs; simp [hx]
      · trivial
      repeat (first | refine AWp.seq ?_ | refine AWp.block ?_)
      refine AWp.cond rfl (fun h2 => ?_) (fun h2 => ?_)
      · simp at h2
      refine AWp.skip ?_
      refine AWp.rg [] [] ?_
      refine ⟨⟨i + 1, hi1, not_mem_snoc h1 ht hx⟩, by simp; omega, Le.sub (by simp) (by simp)⟩
  have hi1 : i = l.length := by have := of_decide_eq_false h; omega
  subst hi1
  rw [List.take_length] at ht
  refine AWp.exit ?_
  repeat (first | refine AWp.seq ?_ | refine AWp.block ?_)
  apply AWp.reg [] []
  · conv => lhs; simp
  · trivial
  refine AWp.ret ?_
  try dsimp only [thenQ, blockQ]
  apply endQ.ret
  · rfl
  · conv => lhs; simp [resAV, Tryd.results26]
  rw [hasB_not.2 ht]; rfl
theorem take_all_snoc {l : List ByteArray} {p : ByteArray → Bool} {i : Nat} {x : ByteArray} (hx : l[i]? = some x) (h : ∀ y ∈ l.take i, p y = false) (hp : p x = false) : ∀ y ∈ l.take (i + 1), p y = false := by
  rw [List.take_add_one, hx]
  intro y hy
  rcases List.mem_append.1 hy with hy | hy
  · exact h y hy
  · simp at hy; subst hy; exact hp


def woN (l gone : List ByteArray) : List ByteArray := l.filter fun s => !hasB gone s
def addN (l more : List ByteArray) : List ByteArray := more.foldl (fun l s => if hasB l s then l else l ++ [s]) l
end Go.Proofs.YtapiiklnnkkdlaaDoor

namespace Go.Proofs.YtapiiklnnkkdlaaDoor
open Go.RowKit
set_option linter.unusedVariables false
set_option linter.unusedSimpArgs false
def endX (P : Program) (fn : Func) (r : Nat → AV) (x : Option AObj) : Exit → AS → Prop := fun e s => ∃ o, (∀ d, r d = (r o).ren (fun _ => d)) ∧ (∀ i ∈ (r o).ids, i = o) ∧ endQ P fn r x o e s
theorem endX.ret {P : Program} {fn : Func} {n : Nat} (o : Nat) {s : AS} {cs : List AV} {y : AObj} (h : resAV P s fn.results.toList = some cs) (hr : (resVal cs).nilD = .arr o 0 n) (hx : memGet s.mem o = some y) (ho : Nat.ble 500 o = false) : endX P fn (fun d => .arr d 0 n) (some y) .ret s :=
  ⟨o, fun _ => rfl, by simp [AV.ids, idsL], .inl rfl, s, Le.refl s, cs, h, hr, rfl, fun z hz => by cases hz; exact ⟨hx, ho⟩⟩
mutual
def Tm.free : Tm → List ByteArray
  | .mk k _ a _ _ xs cs => if k = 1 then [a] else if k = 6 ∧ xs.length = 2 then Tm.freeL a [] xs else Cs.frees (Tm.frees (if 8 ≤ k ∧ k ≤ 11 then [a] else []) xs) cs
def Tm.frees : List ByteArray → List Tm → List ByteArray
  | o, [] => o
  | o, x :: r => Tm.frees (addN o x.free) r
def Tm.freeL (a : ByteArray) : List ByteArray → List Tm → List ByteArray
  | o, [] => o
  | o, x :: r => Tm.freeB a (addN o x.free) r
def Tm.freeB (a : ByteArray) : List ByteArray → List Tm → List ByteArray
  | o, [] => o
  | o, x :: _ => addN o (woN x.free [a])
def Cs.frees : List ByteArray → List Cs → List ByteArray
  | o, [] => o
  | o, c :: r => Cs.frees (addN o c.freeC) r
def Cs.freeC : Cs → List ByteArray
  | .mk _ vs b => woN b.free vs
end
theorem Tm.frees_eq (l : List Tm) : ∀ o, Tm.frees o l = l.foldl (fun o x => addN o x.free) o := by
  induction l with
  | nil => intro o; simp [Tm.frees]
  | cons x r ih => intro o; simp [Tm.frees, ih]
theorem Cs.frees_eq (l : List Cs) : ∀ o, Cs.frees o l = l.foldl (fun o x => addN o x.freeC) o := by
  induction l with
  | nil => intro o; simp [Cs.frees]
  | cons x r ih => intro o; simp [Cs.frees, ih]
theorem Tm.szs_take {l : List Tm} {i : Nat} {x : Tm} (hx : l[i]? = some x) : Tm.szs (l.take i) + x.sz ≤ Tm.szs l := by
  induction l generalizing i with
  | nil => simp at hx
  | cons y r ih =>
    cases i with
    | zero => simp at hx; subst hx; simp [Tm.szs]
    | succ i => have := ih (i := i) (by simpa using hx); simp only [List.take_succ_cons, Tm.szs]; omega
theorem Cs.szs_take {l : List Cs} {i : Nat} {x : Cs} (hx : l[i]? = some x) : Cs.szs (l.take i) + x.sz ≤ Cs.szs l := by
  induction l generalizing i with
  | nil => simp at hx
  | cons y r ih =>
    cases i with
    | zero => simp at hx; subst hx; simp [Cs.szs]
    | succ i => have := ih (i := i) (by simpa using hx); simp only [List.take_succ_cons, Cs.szs]; omega
theorem Tm.frees_snoc {o : List ByteArray} {l : List Tm} {i : Nat} {x : Tm} (hx : l[i]? = some x) : Tm.frees o (l.take (i + 1)) = addN (Tm.frees o (l.take i)) x.free := by
  rw [List.take_add_one, hx]
  simp [Tm.frees_eq]
theorem Cs.frees_snoc {o : List ByteArray} {l : List Cs} {i : Nat} {x : Cs} (hx : l[i]? = some x) : Cs.frees o (l.take (i + 1)) = addN (Cs.frees o (l.take i)) x.freeC := by
  rw [List.take_add_one, hx]
  simp [Cs.frees_eq]
end Go.Proofs.YtapiiklnnkkdlaaDoor

namespace Go.Proofs.YtapiiklnnkkdlaaDoor
open Go.RowKit
attribute [local simp] runD mkRc ldOf stOf stOk ldArg noAny dstOk guardOk opEff opEff0 effOp pureOp callOp zEff evA constAV scalAV Value.oneCell' frGet memGet startAS frOf isGoCall idIn AS.after nextR opnIds objIds AV.ids idsL AObj.ids frNo memNo opnAny isAny mkVal rdCells wrCells fldAddr idxAddr srcRows litRows toD1 toDs setAt sliceAV optI partAV bldAV fillAV binAV binI AV.cells callEff calleeOf frKill memKill AV.kill AObj.kill AV.has AV.hasL Op.operands Call.operands keepF keepM viewIds cChk renOf moGet moWs moQ cEff moLike moHave AV.ren renL AObj.ren AObj.like kept startC moMem AV.frz frz1 frzL frSub memSub frzs AS.frz frFrz memFrz AObj.frz takeMap takeLen bleF Nat.ble_eq memAny objAny mapOp D.keyOk rowAV valRow extOp wrapOp phO frLow memLow memLow1 objLow memEmpty Low LowL
set_option linter.unusedVariables false
set_option linter.unusedSimpArgs false
inductive Vl where
  | mk (con : Bool) (n : Int) (kids : List Vl)
def Vl.con : Vl → Bool | .mk c _ _ => c
def Vl.n : Vl → Int | .mk _ n _ => n
def Vl.kids : Vl → List Vl | .mk _ _ k => k
mutual
def Vl.row : Vl → List D
  | .mk c n ks => [.bool c, .int n, .sl (Vl.rows ks)]
def Vl.rows : List Vl → List (List D)
  | [] => []
  | t :: r => t.row :: Vl.rows r
end
theorem Vl.rows_eq (l : List Vl) : Vl.rows l = l.map Vl.row := by
  induction l with
  | nil => rfl
  | cons t r ih => simp only [Vl.rows, List.map_cons, ih]
mutual
def Vl.sz : Vl → Nat
  | .mk _ _ ks => 1 + Vl.szs ks
def Vl.szs : List Vl → Nat
  | [] => 0
  | t :: r => t.sz + Vl.szs r
end
theorem Vl.szs_mem {t : Vl} : ∀ {l : List Vl}, t ∈ l → t.sz ≤ Vl.szs l
  | [], h => by cases h
  | x :: l, h => by
    simp only [Vl.szs]
    rcases List.mem_cons.1 h with rfl | h
    · omega
    · have := Vl.szs_mem h; omega
mutual
def Vl.Ok : Vl → Prop
  | .mk _ n ks => (-9223372036854775808 ≤ n ∧ n ≤ 9223372036854775807) ∧ ks.length ≤ 3518437208883 ∧ Vl.Oks ks
def Vl.Oks : List Vl → Prop
  | [] => True
  | t :: r => t.Ok ∧ Vl.Oks r
end
theorem Vl.Oks_iff : ∀ {l : List Vl}, Vl.Oks l ↔ ∀ t ∈ l, t.Ok
  | [] => by simp [Vl.Oks]
  | t :: r => by simp [Vl.Oks, Vl.Oks_iff (l := r)]
theorem Vl.Ok.kid {c : Bool} {n : Int} {ks : List Vl} (h : (Vl.mk c n ks).Ok) {x : Vl} (hx : x ∈ ks) : x.Ok := Vl.Oks_iff.1 h.2.2 x hx
theorem Vl.sz_kid {c : Bool} {n : Int} {ks : List Vl} {x : Vl} (hx : x ∈ ks) : x.sz < (Vl.mk c n ks).sz := by
  have := Vl.szs_mem hx
  simp only [Vl.sz]
  omega
abbrev vlCells (c : Bool) (n : Int) (ks : List Vl) : List AV := [.d (.bool c), .d (.int n), .d (.sl (ks.map Vl.row))]
abbrev vlAV : Vl → AV
  | .mk c n ks => .agg [.d (.bool c), .d (.int n), .d (.sl (ks.map Vl.row))]
abbrev vlsAV (l : List Vl) : AV := .d (.sl (l.map Vl.row))
set_option maxRecDepth 20000 in
set_option maxHeartbeats 8000000 in
theorem sp_evOwn_at : ∀ (N : Nat) (t : Vl), t.sz < N → t.Ok → PSpec Tryd.prog 70 [vlAV t] (fun _ => vlAV t) none := by
  intro N
  induction N with
  | zero => intro t h; omega
  | succ N ih =>
  intro t hN hO
  obtain ⟨c, n, ks⟩ := t
  have o2 := hO.2.1
  refine PSpec.of Tryd.func70 rfl rfl rfl (Nat.le_of_ble_eq_true rfl) ?_
  show AWp _ _ (endQ _ Tryd.f70 _ _ _) (startAS 22 _)
  refine AWp.rg [] [] ?_ (hr := by conv => lhs; simp [Vl.row, Vl.rows_eq, vlCells])
  refine AWp.rg [] [] ?_ (hr := by conv => lhs; simp [Vl.row, Vl.rows_eq, vlCells])
  refine AWp.rg [] [] ?_ (hr := by conv => lhs; simp [Vl.row, Vl.rows_eq, vlCells])
  repeat (first | refine AWp.seq ?_ | refine AWp.block ?_)
  refine AWp.le (Le.low [400] [] (fr := [(1, .ptr 1 0), (2, .ptr 2 0), (3, .arr 400 0 0), (7, .d (.sl (ks.map Vl.row))), (8, .d (.int ks.length)), (9, .d (.int 0))]) (mem := [(400, some (.arr 47 3 ((ks.map Vl.row).take 0))), (1, some (.blk 47 (vlCells c n ks))), (2, some (.blk 47 [.d (.bool false), .d (.int 0), .lit (.slice none 0 0)]))]) rfl (by simp [vlCells]) (by simp [vlCells])) ?_
  refine AWp.loop (σ := fun u : {i : Nat // i ≤ ks.length} => ⟨22, [(1, .ptr 1 0), (2, .ptr 2 0), (3, .arr 400 0 u.1), (7, .d (.sl (ks.map Vl.row))), (8, .d (.int ks.length)), (9, .d (.int u.1))], [(400, some (.arr 47 3 ((ks.map Vl.row).take u.1))), (1, some (.blk 47 (vlCells c n ks))), (2, some (.blk 47 [.d (.bool false), .d (.int 0), .lit (.slice none 0 0)]))]⟩)
    (μ := fun u => ks.length - u.1) ⟨0, Nat.zero_le _⟩ (Le.refl _) (fun ⟨i, hi⟩ => ?_)
  dsimp only
  repeat (first | refine AWp.seq ?_ | refine AWp.block ?_)
  apply AWp.reg [] []
  · conv => lhs; simp
  · trivial
  repeat (first | refine AWp.seq ?_ | refine AWp.block ?_)
  refine AWp.cond rfl (fun hci => ?_) (fun hci => ?_)
  · have hi1 : i < ks.length := by have := of_decide_eq_true hci; omega
    have h1y : ks[i]? = some ks[i] := List.getElem?_eq_getElem hi1
    have hmy : ks[i] ∈ ks := List.getElem_mem hi1
    have hdy : ks.drop i = ks[i] :: ks.drop (i + 1) := List.drop_eq_getElem_cons hi1
    generalize ks[i] = y at h1y hmy hdy
    have hp := ih y (by have := Vl.sz_kid (c := c) (n := n) hmy; omega) (hO.kid hmy)
    have ht : (ks.map Vl.row).take (i + 1) = (ks.map Vl.row).take i ++ [y.row] := by rw [List.take_add_one, List.getElem?_map, h1y]; rfl
    have hl : ((ks.map Vl.row).take i).length = i := by simp; omega
    obtain ⟨yc, yn, yk⟩ := y
    refine AWp.skip ?_
    refine AWp.rg [] [] ?_ (hr := by conv => lhs; simp [Vl.row, Vl.rows_eq, h1y])
    refine AWp.rg [] [.p (fun _ => vlAV (.mk yc yn yk)) none] ?_ (hr := by conv => lhs; simp [Vl.row, Vl.rows_eq, h1y])
    refine AWp.rg [] [] ?_ (hr := by conv => lhs; simp [Vl.row, Vl.rows_eq, h1y])
    refine ⟨⟨i + 1, hi1⟩, by simp; omega, ?_⟩
    dsimp only
    rw [ht]
    exact Le.sub (by simp [Nat.min_eq_left hi]) (by simp [vlCells, Vl.row, Vl.rows_eq])
  have hi1 : i = ks.length := by have := of_decide_eq_false hci; omega
  subst hi1
  clear hci
  rw [show (ks.map Vl.row).take ks.length = ks.map Vl.row from List.take_of_length_le (by simp)]
  refine AWp.exit ?_
  refine AWp.rg [] [] ?_ (hr := by conv => lhs; simp [Vl.row, Vl.rows_eq, vlCells])
  refine AWp.rg [] [] ?_ (hr := by conv => lhs; simp [Vl.row, Vl.rows_eq, vlCells])
  refine AWp.ret ?_
  try dsimp only [thenQ, blockQ]
  apply endQ.retF [400]
  · rfl
  · conv => lhs; simp
  · conv => lhs; simp [resAV, Tryd.results70]
  · rfl
theorem sp_evOwn (t : Vl) (h : t.Ok) : PSpec Tryd.prog 70 [vlAV t] (fun _ => vlAV t) none := sp_evOwn_at _ t (Nat.lt_succ_self _) h
set_option maxRecDepth 20000 in
set_option maxHeartbeats 4000000 in
theorem sp_EqualFuncVl (K : Nat) (a b : List Vl) (hla : a.length ≤ 8796093022207) (hk : ∀ x ∈ a, ∀ y, PSpec Tryd.prog K [vlAV x, vlAV y] (fun _ => .d (.bool (eqB x y))) none) : PSpec Tryd.prog 111 [vlsAV a, vlsAV b, .d (.fn K)] (fun _ => .d (.bool (eqB a b))) none := by
  refine PSpec.of Tryd.func111 rfl rfl rfl (Nat.le_of_ble_eq_true rfl) ?_
  show AWp _ _ (endQ _ Tryd.f111 _ _ _) (startAS 32 _)
  repeat (first | refine AWp.seq ?_ | refine AWp.block ?_)
  apply AWp.reg [] []
  · conv => lhs; simp
  · trivial
  by_cases hl : a.length = b.length
  rotate_left
  · have hl' : ¬ ((a.length : Int) = b.length) := by omega
    repeat (first | refine AWp.seq ?_ | refine AWp.block ?_)
    apply AWp.reg [] []
    · conv => lhs; simp [hl, hl']
    · trivial
    repeat (first | refine AWp.seq ?_ | refine AWp.block ?_)
    refine AWp.cond rfl (fun h => ?_) (fun h => ?_)
    · repeat (first | refine AWp.seq ?_ | refine AWp.block ?_)
      apply AWp.reg [] []
      · conv => lhs; simp
      · trivial
      refine AWp.ret ?_
      try dsimp only [thenQ, blockQ]
      apply endQ.ret
      · rfl
      · conv => lhs; simp [resAV, Tryd.results111]
      rw [eqB_ne (fun e => hl (by rw [e]))]; rfl
    · cases h
  repeat (first | refine AWp.seq ?_ | refine AWp.block ?_)
  apply AWp.reg [] []
  · conv => lhs; simp [hl]
  · trivial
  refine AWp.cn ?_
  refine AWp.skip ?_
  repeat (first | refine AWp.seq ?_ | refine AWp.block ?_)
  apply AWp.reg [] []
  · conv => lhs; simp
  · trivial
  repeat (first | refine AWp.seq ?_ | refine AWp.block ?_)
  refine AWp.loop (σ := fun u : {i : Nat // i ≤ a.length ∧ a.take i = b.take i} => ⟨32, [(1, vlsAV b), (2, .d (.fn K)), (15, vlsAV a), (16, .d (.int a.length)), (17, .d (.int u.1))], []⟩)
    (μ := fun u => a.length - u.1) ⟨0, Nat.zero_le _, rfl⟩ (Le.sub (by simp [hl]) (by simp)) (fun ⟨i, hi, ht⟩ => ?_)
  dsimp only
  repeat (first | refine AWp.seq ?_ | refine AWp.block ?_)
  apply AWp.reg [] []
  · conv => lhs; simp
  · trivial
  repeat (first | refine AWp.seq ?_ | refine AWp.block ?_)
  refine AWp.cond rfl (fun h => ?_) (fun h => ?_)
  · have hi1 : i < a.length := by have := of_decide_eq_true h; omega
    have h1 : a[i]? = some a[i] := List.getElem?_eq_getElem hi1
    have h2 : b[i]? = some (b[i]'(by omega)) := List.getElem?_eq_getElem (by omega)
    have hmem : a[i] ∈ a := List.getElem_mem hi1
    generalize a[i] = x at h1 hmem
    generalize b[i]'(by omega) = y at h2
    have hte := take_eq h1 h2 ht
    have hp := hk x hmem y
    have hbad : x ≠ y → eqB a b = false := fun h => eqB_ne (take_ne h1 h2 h)
    obtain ⟨B, hB⟩ : ∃ B, B = eqB x y := ⟨_, rfl⟩
    rw [← hB] at hp
    have hBf : B = false → x ≠ y := fun e q => by rw [hB, q, eqB_self] at e; cases e
    have hBt : B = true → x = y := fun e => eqB_iff.1 (by rw [← hB]; exact e)
    obtain ⟨_, _, _⟩ := x
    obtain ⟨_, _, _⟩ := y
    refine AWp.skip ?_
    refine AWp.rg [] [] ?_ (hr := by conv => lhs; simp [h1, Vl.row, Vl.rows_eq])
    refine AWp.rg [] [] ?_ (hr := by conv => lhs; simp [h2, Vl.row, Vl.rows_eq])
    cases B with
    | true =>
      have hxy := hBt rfl
      repeat (first | refine AWp.seq ?_ | refine AWp.block ?_)
      apply AWp.reg [] [.p (fun _ => .d (.bool true)) none]
      · conv => lhs; simp
      · exact hp
      repeat (first | refine AWp.seq ?_ | refine AWp.block ?_)
      refine AWp.cond rfl (fun h3 => ?_) (fun h3 => ?_)
      · simp at h3
      refine AWp.skip ?_
      refine AWp.rg [] [] ?_
      refine ⟨⟨i + 1, hi1, hte.2 hxy⟩, by simp; omega, Le.sub (by simp) (by simp)⟩
    | false =>
      have hxy := hBf rfl
      repeat (first | refine AWp.seq ?_ | refine AWp.block ?_)
      apply AWp.reg [] [.p (fun _ => .d (.bool false)) none]
      · conv => lhs; simp
      · exact hp
      repeat (first | refine AWp.seq ?_ | refine AWp.block ?_)
      refine AWp.cond rfl (fun h3 => ?_) (fun h3 => ?_)
      · repeat (first | refine AWp.seq ?_ | refine AWp.block ?_)
        apply AWp.reg [] []
        · conv => lhs; simp
        · trivial
        refine AWp.ret ?_
        try dsimp only [thenQ, blockQ]
        apply endQ.ret
        · rfl
        · conv => lhs; simp [resAV, Tryd.results111]
        rw [hbad hxy]; rfl
      · simp at h3
  · have hi1 : i = a.length := by have := of_decide_eq_false h; omega
    subst hi1
    rw [List.take_length, hl, List.take_length] at ht
    subst ht
    refine AWp.exit ?_
    repeat (first | refine AWp.seq ?_ | refine AWp.block ?_)
    apply AWp.reg [] []
    · conv => lhs; simp
    · trivial
    refine AWp.ret ?_
    try dsimp only [thenQ, blockQ]
    apply endQ.ret
    · rfl
    · conv => lhs; simp [resAV, Tryd.results111]
    rw [eqB_self]; rfl
set_option maxRecDepth 20000 in
set_option maxHeartbeats 8000000 in
theorem sp_evSame_at : ∀ (N : Nat) (s t : Vl), s.sz < N → s.Ok → PSpec Tryd.prog 69 [vlAV s, vlAV t] (fun _ => .d (.bool (eqB s t))) none := by
  intro N
  induction N with
  | zero => intro s t h; omega
  | succ N ih =>
  intro s t hN hO
  obtain ⟨c, n, ks⟩ := s
  obtain ⟨c', n', ks'⟩ := t
  have hq := sp_EqualFuncVl 69 ks ks' (by have := hO.2.1; omega) (fun x hx y => ih x y (by have := Vl.sz_kid (c := c) (n := n) hx; omega) (hO.kid hx))
  refine PSpec.of Tryd.func69 rfl rfl rfl (Nat.le_of_ble_eq_true rfl) ?_
  show AWp _ _ (endQ _ Tryd.f69 _ _ _) (startAS 24 _)
  repeat (first | refine AWp.seq ?_ | refine AWp.block ?_)
  apply AWp.reg [] []
  · conv => lhs; simp
  · trivial
  by_cases e1 : c = c'
  · subst e1
    by_cases e2 : n = n'
    · subst e2
      have hB : eqB (Vl.mk c n ks) (Vl.mk c n ks') = eqB ks ks' := by
        by_cases e : ks = ks'
        · subst e; rw [eqB_self, eqB_self]
        · rw [eqB_ne e, eqB_ne (fun h => e (by cases h; rfl))]
      rw [hB]
      refine AWp.rg [] [.p (fun _ => .d (.bool (eqB ks ks'))) none] ?_ (hr := by conv => lhs; simp [Tryd.underlying4])
      refine AWp.ret ?_
      try dsimp only [thenQ, blockQ]
      apply endQ.ret
      · rfl
      · conv => lhs; simp [resAV, Tryd.results69]
      · rfl
    · rw [eqB_ne (fun h => e2 (by cases h; rfl))]
      refine AWp.rg [] [] ?_ (hr := by conv => lhs; simp [e2, Tryd.underlying4])
      refine AWp.ret ?_
      try dsimp only [thenQ, blockQ]
      apply endQ.ret
      · rfl
      · conv => lhs; simp [resAV, Tryd.results69]
      · rfl
  · rw [eqB_ne (fun h => e1 (by cases h; rfl))]
    have e1' : (c == c') = false := by simp [e1]
    refine AWp.rg [] [] ?_ (hr := by conv => lhs; simp [e1', Tryd.underlying4])
    refine AWp.ret ?_
    try dsimp only [thenQ, blockQ]
    apply endQ.ret
    · rfl
    · conv => lhs; simp [resAV, Tryd.results69]
    · rfl
theorem sp_evSame (s t : Vl) (h : s.Ok) : PSpec Tryd.prog 69 [vlAV s, vlAV t] (fun _ => .d (.bool (eqB s t))) none := sp_evSame_at _ s t (Nat.lt_succ_self _) h
set_option maxRecDepth 20000 in
set_option maxHeartbeats 8000000 in
theorem sp_refSameValue_at : ∀ (N : Nat) (s t : Vl), s.sz < N → s.Ok → PSpec Tryd.prog 31 [vlAV s, vlAV t] (fun _ => .d (.bool (eqB s t))) none := by
  intro N
  induction N with
  | zero => intro s t h; omega
  | succ N ih =>
  intro s t hN hO
  obtain ⟨c, n, ks⟩ := s
  obtain ⟨c', n', ks'⟩ := t
  have o2 := hO.2.1
  refine PSpec.of Tryd.func31 rfl rfl rfl (Nat.le_of_ble_eq_true rfl) ?_
  show AWp _ _ (endQ _ Tryd.f31 _ _ _) (startAS 46 _)
  repeat (first | refine AWp.seq ?_ | refine AWp.block ?_)
  apply AWp.reg [] []
  · conv => lhs; simp
  · trivial
  by_cases e1 : c = c'
  rotate_left
  · have e1' : (c == c') = false := by simp [e1]
    refine AWp.rg [] [] ?_ (hr := by conv => lhs; simp [e1', Tryd.underlying4])
    refine AWp.cy ?_
    repeat (first | refine AWp.seq ?_ | refine AWp.block ?_)
    apply AWp.reg [] []
    · conv => lhs; simp
    · trivial
    refine AWp.ret ?_
    try dsimp only [thenQ, blockQ]
    apply endQ.ret
    · rfl
    · conv => lhs; simp [resAV, Tryd.results31]
    · rw [eqB_ne (fun h => e1 (by cases h; rfl))]; rfl
  subst e1
  by_cases e2 : n = n'
  rotate_left
  · refine AWp.rg [] [] ?_ (hr := by conv => lhs; simp [e2, Tryd.underlying4])
    refine AWp.cy ?_
    repeat (first | refine AWp.seq ?_ | refine AWp.block ?_)
    apply AWp.reg [] []
    · conv => lhs; simp
    · trivial
    refine AWp.ret ?_
    try dsimp only [thenQ, blockQ]
    apply endQ.ret
    · rfl
    · conv => lhs; simp [resAV, Tryd.results31]
    · rw [eqB_ne (fun h => e2 (by cases h; rfl))]; rfl
  subst e2
  by_cases e3 : ks.length = ks'.length
  rotate_left
  · have e3' : ¬ ((ks.length : Int) = ks'.length) := by omega
    refine AWp.rg [] [] ?_ (hr := by conv => lhs; simp [e3, e3'])
    refine AWp.cy ?_
    repeat (first | refine AWp.seq ?_ | refine AWp.block ?_)
    apply AWp.reg [] []
    · conv => lhs; simp
    · trivial
    refine AWp.ret ?_
    try dsimp only [thenQ, blockQ]
    apply endQ.ret
    · rfl
    · conv => lhs; simp [resAV, Tryd.results31]
    · rw [eqB_ne (fun h => e3 (by cases h; rfl))]; rfl
  refine AWp.rg [] [] ?_ (hr := by conv => lhs; simp [e3, Tryd.underlying4])
  refine AWp.cn ?_
  refine AWp.skip ?_
  repeat (first | refine AWp.seq ?_ | refine AWp.block ?_)
  apply AWp.reg [] []
  · conv => lhs; simp
  · trivial
  repeat (first | refine AWp.seq ?_ | refine AWp.block ?_)
  refine AWp.loop (σ := fun u : {i : Nat // i ≤ ks.length ∧ ks.take i = ks'.take i} => ⟨46, [(2, .ptr 2 0), (3, .ptr 3 0), (29, .d (.int ks.length)), (30, .d (.int u.1))], [(2, some (.blk 47 (vlCells c n ks))), (3, some (.blk 47 (vlCells c n ks')))]⟩)
    (μ := fun u => ks.length - u.1) ⟨0, Nat.zero_le _, rfl⟩ (Le.sub (by simp [e3]) (by simp [vlCells])) (fun ⟨i, hi, ht⟩ => ?_)
  dsimp only
  try clear h
  repeat (first | refine AWp.seq ?_ | refine AWp.block ?_)
  apply AWp.reg [] []
  · conv => lhs; simp
  · trivial
  repeat (first | refine AWp.seq ?_ | refine AWp.block ?_)
  refine AWp.cond rfl (fun h => ?_) (fun h => ?_)
  · have hi1 : i < ks.length := by have := of_decide_eq_true h; omega
    have h1 : ks[i]? = some ks[i] := List.getElem?_eq_getElem hi1
    have h2 : ks'[i]? = some (ks'[i]'(by omega)) := List.getElem?_eq_getElem (by omega)
    have hmem : ks[i] ∈ ks := List.getElem_mem hi1
    generalize ks[i] = x at h1 hmem
    generalize ks'[i]'(by omega) = y at h2
    have hte := take_eq h1 h2 ht
    have hp := ih x y (by have := Vl.sz_kid (c := c) (n := n) hmem; omega) (hO.kid hmem)
    obtain ⟨B, hB⟩ : ∃ B, B = eqB x y := ⟨_, rfl⟩
    rw [← hB] at hp
    have hBf : B = false → x ≠ y := fun e q => by rw [hB, q, eqB_self] at e; cases e
    have hBt : B = true → x = y := fun e => eqB_iff.1 (by rw [← hB]; exact e)
    have hbad : x ≠ y → eqB (Vl.mk c n ks) (Vl.mk c n ks') = false := fun h => eqB_ne (fun e => take_ne h1 h2 h (by cases e; rfl))
    obtain ⟨xc, xn, xk⟩ := x
    obtain ⟨yc, yn, yk⟩ := y
    refine AWp.skip ?_
    repeat (first | refine AWp.seq ?_ | refine AWp.block ?_)
    apply AWp.reg [] []
    · conv => lhs; simp
    · trivial
    cases B with
    | true =>
      have hxy := hBt rfl
      refine AWp.dw [] [.p (fun _ => .d (.bool true)) none] mixed ?_ (hr := by conv => lhs; simp [h1, h2, Vl.row, Vl.rows_eq, vlCells])
      refine AWp.cn ?_
      refine AWp.skip ?_
      refine AWp.rg [] [] ?_
      refine ⟨⟨i + 1, hi1, hte.2 hxy⟩, by simp; omega, Le.sub (by simp) (by simp [vlCells])⟩
    | false =>
      have hxy := hBf rfl
      refine AWp.dw [] [.p (fun _ => .d (.bool false)) none] mixed ?_ (hr := by conv => lhs; simp [h1, h2, Vl.row, Vl.rows_eq, vlCells])
      refine AWp.cy ?_
      repeat (first | refine AWp.seq ?_ | refine AWp.block ?_)
      apply AWp.reg [] []
      · conv => lhs; simp
      · trivial
      refine AWp.ret ?_
      try dsimp only [thenQ, blockQ]
      apply endQ.ret
      · rfl
      · conv => lhs; simp [resAV, Tryd.results31]
      · rw [hbad hxy]; rfl
  · have hi1 : i = ks.length := by have := of_decide_eq_false h; omega
    subst hi1
    rw [List.take_length, e3, List.take_length] at ht
    subst ht
    refine AWp.exit ?_
    repeat (first | refine AWp.seq ?_ | refine AWp.block ?_)
    apply AWp.reg [] []
    · conv => lhs; simp
    · trivial
    refine AWp.ret ?_
    try dsimp only [thenQ, blockQ]
    apply endQ.ret
    · rfl
    · conv => lhs; simp [resAV, Tryd.results31]
    · rw [eqB_self]; rfl
theorem sp_refSameValue (s t : Vl) (h : s.Ok) : PSpec Tryd.prog 31 [vlAV s, vlAV t] (fun _ => .d (.bool (eqB s t))) none := sp_refSameValue_at _ s t (Nat.lt_succ_self _) h
mutual
def Vl.left : Vl → Int → Int
  | .mk _ _ ks, l => Vl.lefts ks (l - 1)
def Vl.lefts : List Vl → Int → Int
  | [], l => l
  | x :: r, l => Vl.lefts r (if 0 ≤ l then x.left l else l)
end
mutual
theorem Vl.left_lo : ∀ (v : Vl) (l : Int), 0 ≤ l → -1 ≤ v.left l ∧ v.left l ≤ l
  | .mk _ _ ks, l, h => by
    have := Vl.lefts_lo ks (l - 1) (by omega)
    rw [Vl.left]
    omega
theorem Vl.lefts_lo : ∀ (r : List Vl) (l : Int), -1 ≤ l → -1 ≤ Vl.lefts r l ∧ Vl.lefts r l ≤ l
  | [], l, h => by rw [Vl.lefts]; omega
  | x :: r, l, h => by
    rw [Vl.lefts]
    split
    · have h1 := Vl.left_lo x l (by omega)
      have h2 := Vl.lefts_lo r (x.left l) h1.1
      omega
    · exact Vl.lefts_lo r l h
end
theorem Vl.lefts_snoc (l : List Vl) (x : Vl) : ∀ k : Int, Vl.lefts (l ++ [x]) k = if 0 ≤ Vl.lefts l k then x.left (Vl.lefts l k) else Vl.lefts l k := by
  induction l with
  | nil => intro k; rfl
  | cons y r ih => intro k; simp only [List.cons_append, Vl.lefts]; exact ih _
theorem Vl.lefts_take {l : List Vl} {i : Nat} {x : Vl} (hx : l[i]? = some x) (k : Int) : Vl.lefts (l.take (i + 1)) k = if 0 ≤ Vl.lefts (l.take i) k then x.left (Vl.lefts (l.take i) k) else Vl.lefts (l.take i) k := by
  rw [List.take_add_one, hx]
  exact Vl.lefts_snoc _ _ _
abbrev fwObj : AObj := .blk 120 [.clo 112 [.ptr 1000 0, .ptr 1001 0]]
set_option maxRecDepth 20000 in
set_option maxHeartbeats 8000000 in
theorem cs_Few1_at : ∀ (N : Nat) (t : Vl) (m : Int), t.sz < N → t.Ok → 0 ≤ m → m ≤ 1000000 → CSpec Tryd.prog 112 [vlAV t, .ptr 1000 0, .ptr 1001 0] [(1000, .blk 3 [.d (.int m)]), (1001, fwObj)] (.tuple []) [(1000, .blk 3 [.d (.int (t.left m))]), (1001, fwObj)] := by
  intro N
  induction N with
  | zero => intro t m h; omega
  | succ N ih =>
  intro t m hN hO hm0 hm1
  obtain ⟨c, n, ks⟩ := t
  have o2 := hO.2.1
  refine CSpec.of Tryd.func112 rfl rfl (Nat.le_of_ble_eq_true rfl) ?_
  show AWp _ _ (endC _ Tryd.f112 _ _) (startC 21 _ _)
  refine AWp.rg [] [] ?_ (hr := by conv => lhs; simp [Vl.row, Vl.rows_eq, fwObj])
  refine AWp.rg [] [] ?_ (hr := by conv => lhs; simp [Vl.row, Vl.rows_eq, fwObj])
  refine AWp.rg [] [] ?_ (hr := by conv => lhs; simp [Vl.row, Vl.rows_eq, fwObj])
  repeat (first | refine AWp.seq ?_ | refine AWp.block ?_)
  refine AWp.loop (σ := fun u : {i : Nat // i ≤ ks.length} => ⟨21, [(1, .ptr 1000 0), (2, .ptr 1001 0), (9, .d (.sl (ks.map Vl.row))), (10, .d (.int ks.length)), (11, .d (.int u.1))], [(1000, some (.blk 3 [.d (.int (Vl.lefts (ks.take u.1) (m - 1)))])), (1001, some fwObj)]⟩)
    (μ := fun u => ks.length - u.1) ⟨0, Nat.zero_le _⟩ (Le.sub (by simp [Vl.lefts, fwObj]) (by simp [Vl.lefts, fwObj])) (fun ⟨i, hi⟩ => ?_)
  dsimp only
  repeat (first | refine AWp.seq ?_ | refine AWp.block ?_)
  apply AWp.reg [] []
  · conv => lhs; simp
  · trivial
  repeat (first | refine AWp.seq ?_ | refine AWp.block ?_)
  refine AWp.cond rfl (fun hci => ?_) (fun hci => ?_)
  · have hi1 : i < ks.length := by have := of_decide_eq_true hci; omega
    have h1y : ks[i]? = some ks[i] := List.getElem?_eq_getElem hi1
    have hmy : ks[i] ∈ ks := List.getElem_mem hi1
    have hdy : ks.drop i = ks[i] :: ks.drop (i + 1) := List.drop_eq_getElem_cons hi1
    generalize ks[i] = y at h1y hmy hdy
    have hlo := Vl.lefts_lo (ks.take i) (m - 1) (by omega)
    have hst := Vl.lefts_take h1y (m - 1)
    obtain ⟨L, hL⟩ : ∃ L, L = Vl.lefts (ks.take i) (m - 1) := ⟨_, rfl⟩
    rw [← hL] at hlo hst ⊢
    have hp := fun h : 0 ≤ L => ih y L (by have := Vl.sz_kid (c := c) (n := n) hmy; omega) (hO.kid hmy) h (by omega)
    generalize hE : y.left L = E at hp hst
    obtain ⟨yc, yn, yk⟩ := y
    refine AWp.skip ?_
    refine AWp.rg [] [] ?_ (hr := by conv => lhs; simp [Vl.row, Vl.rows_eq, fwObj, h1y])
    by_cases q1 : 0 ≤ L
    · refine AWp.rg [] [] ?_ (hr := by conv => lhs; simp [Vl.row, Vl.rows_eq, fwObj, h1y, q1])
      refine AWp.cy ?_
      have hL0 : 0 ≤ L := by omega
      have hp := hp hL0
      refine AWp.rg [] [.c [] [vlAV (.mk yc yn yk), .ptr 1000 0, .ptr 1001 0] [(1000, .blk 3 [.d (.int L)]), (1001, fwObj)] (.tuple []) [(1000, .blk 3 [.d (.int E)]), (1001, fwObj)]] ?_ (hr := by conv => lhs; simp [Vl.row, Vl.rows_eq, fwObj, h1y, q1])
      refine AWp.rg [] [] ?_ (hr := by conv => lhs; simp [Vl.row, Vl.rows_eq, fwObj, h1y, q1])
      rw [if_pos hL0] at hst
      refine ⟨⟨i + 1, hi1⟩, by simp; omega, ?_⟩
      dsimp only
      rw [hst]
      exact Le.sub (by simp) (by simp [fwObj])
    refine AWp.rg [] [] ?_ (hr := by conv => lhs; simp [Vl.row, Vl.rows_eq, fwObj, h1y, q1])
    refine AWp.cn ?_
    refine AWp.skip ?_
    refine AWp.rg [] [] ?_ (hr := by conv => lhs; simp [Vl.row, Vl.rows_eq, fwObj, h1y, q1])
    rw [if_neg (show ¬ 0 ≤ L by omega)] at hst
    refine ⟨⟨i + 1, hi1⟩, by simp; omega, ?_⟩
    dsimp only
    rw [hst]
    exact Le.sub (by simp) (by simp [fwObj])
  have hi1 : i = ks.length := by have := of_decide_eq_false hci; omega
  subst hi1
  clear hci
  rw [List.take_length]
  refine AWp.exit ?_
  try dsimp only [thenQ, blockQ]
  apply endC.normal
  · rfl
  · conv => lhs; simp [resAV, Tryd.results112]
  · rfl
  · rw [show Vl.left (.mk c n ks) m = Vl.lefts ks (m - 1) from by rw [Vl.left]]
    simp [moEnd, memGet, fwObj]
set_option maxRecDepth 20000 in
set_option maxHeartbeats 8000000 in
theorem sp_Few (t : Vl) (hO : t.Ok) : PSpec Tryd.prog 71 [vlAV t] (fun _ => .d (.bool (decide (0 ≤ t.left 1000)))) none := by
  have h1 := cs_Few1_at _ t 1000 (Nat.lt_succ_self _) hO (by omega) (by omega)
  generalize t.left 1000 = E at h1
  obtain ⟨c, n, ks⟩ := t
  refine PSpec.of Tryd.func71 rfl rfl rfl (Nat.le_of_ble_eq_true rfl) ?_
  show AWp _ _ (endQ _ Tryd.f71 _ _ _) (startAS 11 _)
  repeat (first | refine AWp.seq ?_ | refine AWp.block ?_)
  apply AWp.reg [] []
  · conv => lhs; simp
  · trivial
  repeat (first | refine AWp.seq ?_ | refine AWp.block ?_)
  apply AWp.reg [] []
  · conv => lhs; simp
  · trivial
  repeat (first | refine AWp.seq ?_ | refine AWp.block ?_)
  apply AWp.reg [] []
  · conv => lhs; simp
  · trivial
  repeat (first | refine AWp.seq ?_ | refine AWp.block ?_)
  apply AWp.reg [] []
  · conv => lhs; simp
  · trivial
  refine AWp.rg [] [.c [(1000, 3), (1001, 4)] [vlAV (.mk c n ks), .ptr 1000 0, .ptr 1001 0] [(1000, .blk 3 [.d (.int 1000)]), (1001, fwObj)] (.tuple []) [(1000, .blk 3 [.d (.int E)]), (1001, fwObj)]] ?_ (hr := by conv => lhs; simp [fwObj])
  refine AWp.rg [] [] ?_
  refine AWp.ret ?_
  try dsimp only [thenQ, blockQ]
  apply endQ.ret
  · rfl
  · conv => lhs; simp [resAV, Tryd.results71]
  · rfl

theorem AWp.seqJ {P : Program} {Q : Exit → AS → Prop} {s : AS} {x y : Code} (s0 : AS) (h2 : AWp P y Q s0) (h1 : ∀ W : AS → Prop, (∀ s', Le s' s0 → W s') → AWp P x (thenQ W Q) s) : AWp P (.seq x y) Q s :=
  AWp.seq (h1 _ fun _ hl => AWp.le hl h2)
abbrev tmCells (k n : Int) (a b : ByteArray) (vs : List ByteArray) (xs : List Tm) (cs : List Cs) : List AV :=
  [.d (.int k), .d (.int n), .d (.str a), .d (.str b), .d (strsD vs), .d (.sl (xs.map Tm.row)), .d (.sl (cs.map Cs.row))]
def tmObj (k n : Int) (a b : ByteArray) (vs : List ByteArray) (xs : List Tm) (cs : List Cs) : Option AObj := some (.blk 34 (tmCells k n a b vs xs cs))
structure Tm.Fit (t : Tm) : Prop where
  ok : t.Ok
  sz : t.sz ≤ 1048576
theorem Tm.Fit.arg {k n : Int} {a b : ByteArray} {vs : List ByteArray} {xs : List Tm} {cs : List Cs} (h : (Tm.mk k n a b vs xs cs).Fit) {x : Tm} (hx : x ∈ xs) : x.Fit :=
  ⟨h.ok.arg hx, by have := Tm.sz_arg (k := k) (n := n) (a := a) (b := b) (vs := vs) (cs := cs) hx; have := h.sz; omega⟩
theorem Tm.Fit.case {k n : Int} {a b : ByteArray} {vs : List ByteArray} {xs : List Tm} {cs : List Cs} (h : (Tm.mk k n a b vs xs cs).Fit) {t : Int} {ws : List ByteArray} {x : Tm} (hx : Cs.mk t ws x ∈ cs) : x.Fit ∧ ws.length ≤ 8796093022207 :=
  ⟨⟨(h.ok.case hx).body.1, by have := Tm.sz_case (k := k) (n := n) (a := a) (b := b) (vs := vs) (xs := xs) hx; have := h.sz; omega⟩, (h.ok.case hx).body.2⟩
end Go.Proofs.YtapiiklnnkkdlaaDoor

namespace Go.Proofs.YtapiiklnnkkdlaaDoor
open Go.RowKit
attribute [local simp] runD mkRc ldOf stOf stOk ldArg noAny dstOk guardOk opEff opEff0 effOp pureOp callOp zEff evA constAV scalAV Value.oneCell' frGet memGet startAS frOf isGoCall idIn AS.after nextR opnIds objIds AV.ids idsL AObj.ids frNo memNo opnAny isAny mkVal rdCells wrCells fldAddr idxAddr srcRows litRows toD1 toDs setAt sliceAV optI partAV bldAV fillAV binAV binI AV.cells callEff calleeOf frKill memKill AV.kill AObj.kill AV.has AV.hasL Op.operands Call.operands keepF keepM viewIds cChk renOf moGet moWs moQ cEff moLike moHave AV.ren renL AObj.ren AObj.like kept startC moMem AV.frz frz1 frzL frSub memSub frzs AS.frz frFrz memFrz AObj.frz takeMap takeLen bleF Nat.ble_eq memAny objAny mapOp D.keyOk rowAV valRow extOp wrapOp phO
set_option linter.unusedVariables false
set_option linter.unusedSimpArgs false
end Go.Proofs.YtapiiklnnkkdlaaDoor

namespace Go.Proofs.YtapiiklnnkkdlaaDoor
open Go.RowKit
attribute [local simp] runD mkRc ldOf stOf stOk ldArg noAny dstOk guardOk opEff opEff0 effOp pureOp callOp zEff evA constAV scalAV Value.oneCell' frGet memGet startAS frOf isGoCall idIn AS.after nextR opnIds objIds AV.ids idsL AObj.ids frNo memNo opnAny isAny mkVal rdCells wrCells fldAddr idxAddr srcRows litRows toD1 toDs setAt sliceAV optI partAV bldAV fillAV binAV binI AV.cells callEff calleeOf frKill memKill AV.kill AObj.kill AV.has AV.hasL Op.operands Call.operands keepF keepM viewIds cChk renOf moGet moWs moQ cEff moLike moHave AV.ren renL AObj.ren AObj.like kept startC moMem AV.frz frz1 frzL frSub memSub frzs AS.frz frFrz memFrz AObj.frz takeMap takeLen bleF Nat.ble_eq memAny objAny mapOp D.keyOk rowAV valRow extOp wrapOp phO frLow memLow memLow1 objLow memEmpty Low LowL
set_option linter.unusedVariables false
set_option linter.unusedSimpArgs false
end Go.Proofs.YtapiiklnnkkdlaaDoor
