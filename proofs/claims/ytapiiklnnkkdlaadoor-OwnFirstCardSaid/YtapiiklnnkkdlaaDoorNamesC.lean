import Derived.Test.YtapiiklnnkkdlaaDoorOpen
import Derived.Test.YtapiiklnnkkdlaaDoorTy
/- Terms, cases, functions, values: as trees in Lean, and what a type allows of them. -/
namespace Go.Proofs.YtapiiklnnkkdlaaDoor
open Go.RowKit
set_option linter.unusedVariables false
mutual
inductive Tm where
  | mk (kind n : Int) (name token : ByteArray) (vars : List ByteArray) (args : List Tm) (cases : List Cs)
inductive Cs where
  | mk (tag : Int) (vars : List ByteArray) (body : Tm)
end
structure Fn where
  name : ByteArray
  params : List ByteArray
  body : Tm
mutual
def Tm.Ok : Tm → Prop
  | .mk _ _ a b vs xs cs => (a.size ≤ 140737488355328 ∧ b.size ≤ 140737488355328 ∧ (∀ s ∈ vs, s.size ≤ 140737488355328)) ∧ (vs.length ≤ 8796093022207 ∧ xs.length ≤ 1172812402960 ∧ cs.length ≤ 925904528652) ∧ Tm.Oks xs ∧ Cs.Oks cs
def Tm.Oks : List Tm → Prop
  | [] => True
  | t :: r => t.Ok ∧ Tm.Oks r
def Cs.Ok : Cs → Prop
  | .mk _ vs b => (∀ s ∈ vs, s.size ≤ 140737488355328) ∧ vs.length ≤ 8796093022207 ∧ b.Ok
def Cs.Oks : List Cs → Prop
  | [] => True
  | c :: r => c.Ok ∧ Cs.Oks r
end
theorem Tm.Oks_iff : ∀ {l : List Tm}, Tm.Oks l ↔ ∀ t ∈ l, t.Ok
  | [] => by simp [Tm.Oks]
  | t :: r => by simp [Tm.Oks, Tm.Oks_iff (l := r)]
theorem Cs.Oks_iff : ∀ {l : List Cs}, Cs.Oks l ↔ ∀ t ∈ l, t.Ok
  | [] => by simp [Cs.Oks]
  | t :: r => by simp [Cs.Oks, Cs.Oks_iff (l := r)]
structure Fn.Ok (f : Fn) : Prop where
  name : f.name.size ≤ 140737488355328
  params : f.params.length ≤ 8796093022207
  sizes : ∀ s ∈ f.params, s.size ≤ 140737488355328
  body : f.body.Ok
structure FnsOk (l : List Fn) : Prop where
  len : l.length ≤ 879609302220
  all : ∀ f ∈ l, f.Ok
theorem FnsOk.fn {l : List Fn} (h : FnsOk l) : ∀ f ∈ l, f.body.Ok ∧ f.params.length ≤ 8796093022207 := fun f hf => ⟨(h.all f hf).body, (h.all f hf).params⟩
abbrev strR (s : ByteArray) : List D := [.str s]
abbrev strsD (l : List ByteArray) : D := .sl (l.map strR)
mutual
def Tm.row : Tm → List D
  | .mk k n a b vs xs cs => [.int k, .int n, .str a, .str b, strsD vs, .sl (Tm.rows xs), .sl (Cs.rows cs)]
def Tm.rows : List Tm → List (List D)
  | [] => []
  | t :: r => t.row :: Tm.rows r
def Cs.row : Cs → List D
  | .mk t vs b => .int t :: strsD vs :: b.row
def Cs.rows : List Cs → List (List D)
  | [] => []
  | c :: r => c.row :: Cs.rows r
end
theorem Tm.rows_eq (l : List Tm) : Tm.rows l = l.map Tm.row := by
  induction l with
  | nil => rfl
  | cons t r ih => simp only [Tm.rows, List.map_cons, ih]
theorem Cs.rows_eq (l : List Cs) : Cs.rows l = l.map Cs.row := by
  induction l with
  | nil => rfl
  | cons t r ih => simp only [Cs.rows, List.map_cons, ih]
def Fn.row (f : Fn) : List D := .str f.name :: strsD f.params :: f.body.row
mutual
def Tm.sz : Tm → Nat
  | .mk _ _ _ _ _ xs cs => 1 + Tm.szs xs + Cs.szs cs
def Tm.szs : List Tm → Nat
  | [] => 0
  | t :: r => t.sz + Tm.szs r
def Cs.sz : Cs → Nat
  | .mk _ _ b => b.sz
def Cs.szs : List Cs → Nat
  | [] => 0
  | c :: r => c.sz + Cs.szs r
end
theorem Tm.szs_mem {t : Tm} : ∀ {l : List Tm}, t ∈ l → t.sz ≤ Tm.szs l
  | [], h => by cases h
  | x :: l, h => by
    simp only [Tm.szs]
    rcases List.mem_cons.1 h with rfl | h
    · omega
    · have := Tm.szs_mem h; omega
theorem Cs.szs_mem {t : Cs} : ∀ {l : List Cs}, t ∈ l → t.sz ≤ Cs.szs l
  | [], h => by cases h
  | x :: l, h => by
    simp only [Cs.szs]
    rcases List.mem_cons.1 h with rfl | h
    · omega
    · have := Cs.szs_mem h; omega
def Cs.tag : Cs → Int | .mk t _ _ => t
def Cs.vars : Cs → List ByteArray | .mk _ v _ => v
def Cs.body : Cs → Tm | .mk _ _ b => b
def Tm.kind : Tm → Int | .mk k _ _ _ _ _ _ => k
def Tm.n : Tm → Int | .mk _ n _ _ _ _ _ => n
def Tm.name : Tm → ByteArray | .mk _ _ a _ _ _ _ => a
def Tm.token : Tm → ByteArray | .mk _ _ _ b _ _ _ => b
def Tm.vars : Tm → List ByteArray | .mk _ _ _ _ v _ _ => v
def Tm.args : Tm → List Tm | .mk _ _ _ _ _ a _ => a
def Tm.cases : Tm → List Cs | .mk _ _ _ _ _ _ c => c
abbrev tmAV : Tm → AV
  | .mk k n a b vs xs cs => .agg [.d (.int k), .d (.int n), .d (.str a), .d (.str b), .d (strsD vs), .d (.sl (xs.map Tm.row)), .d (.sl (cs.map Cs.row))]
abbrev fnsAV (l : List Fn) : AV := .d (.sl (l.map Fn.row))
abbrev strsAV (l : List ByteArray) : AV := .d (strsD l)
section
variable {ds : List D}
theorem strs_ok (h : RT Tryd.prog 30 ds) : ∃ l : List ByteArray, ds = [strsD l] ∧ l.length ≤ 8796093022207 ∧ ∀ s ∈ l, s.size ≤ 140737488355328 := by
  obtain ⟨l, rfl, hl, hs⟩ := h.strs_inv Tryd.underlying30 Tryd.underlying9
  rw [show Tryd.prog.bytesOf 9 = 16 by kernel_rfl] at hl
  unfold reachBytes at hl hs
  exact ⟨l, rfl, by omega, fun s hm => by have := hs s hm; omega⟩
end
end Go.Proofs.YtapiiklnnkkdlaaDoor

namespace Go.Proofs.YtapiiklnnkkdlaaDoor
open Go.RowKit
attribute [local simp] runD mkRc ldOf stOf stOk ldArg noAny dstOk guardOk opEff opEff0 effOp pureOp callOp zEff evA constAV scalAV Value.oneCell' frGet memGet startAS frOf isGoCall idIn AS.after nextR opnIds objIds AV.ids idsL AObj.ids frNo memNo opnAny isAny mkVal rdCells wrCells fldAddr idxAddr srcRows litRows toD1 toDs setAt sliceAV optI partAV bldAV fillAV binAV binI AV.cells callEff calleeOf frKill memKill AV.kill AObj.kill AV.has AV.hasL Op.operands Call.operands keepF keepM viewIds cChk renOf moGet moWs moQ cEff moLike moHave AV.ren renL AObj.ren AObj.like kept startC moMem AV.frz frz1 frzL frSub memSub frzs AS.frz frFrz memFrz AObj.frz takeMap takeLen bleF Nat.ble_eq memAny objAny mapOp D.keyOk rowAV valRow extOp wrapOp phO
set_option linter.unusedVariables false
set_option linter.unusedSimpArgs false
theorem rows_len {α : Type} {row : α → List D} {n : Nat} (h : ∀ x, (row x).length = n) (l : List α) : ∀ (i : Nat) (r : List D), (l.map row)[i]? = some r → r.length = n := by
  intro i r hr
  obtain ⟨x, _, rfl⟩ := List.mem_map.1 (List.mem_of_getElem? hr)
  exact h x
theorem Tm.Ok.vars {k n : Int} {a b : ByteArray} {vs : List ByteArray} {xs : List Tm} {cs : List Cs} (h : (Tm.mk k n a b vs xs cs).Ok) : vs.length ≤ 8796093022207 ∧ xs.length ≤ 1172812402960 ∧ cs.length ≤ 925904528652 ∧ a.size ≤ 140737488355328 ∧ b.size ≤ 140737488355328 := by
  unfold Tm.Ok at h
  exact ⟨h.2.1.1, h.2.1.2.1, h.2.1.2.2, h.1.1, h.1.2.1⟩
theorem Tm.Ok.arg {k n : Int} {a b : ByteArray} {vs : List ByteArray} {xs : List Tm} {cs : List Cs} (h : (Tm.mk k n a b vs xs cs).Ok) {x : Tm} (hx : x ∈ xs) : x.Ok := by
  unfold Tm.Ok at h
  exact Tm.Oks_iff.1 h.2.2.1 x hx
theorem Tm.Ok.case {k n : Int} {a b : ByteArray} {vs : List ByteArray} {xs : List Tm} {cs : List Cs} (h : (Tm.mk k n a b vs xs cs).Ok) {x : Cs} (hx : x ∈ cs) : x.Ok := by
  unfold Tm.Ok at h
  exact Cs.Oks_iff.1 h.2.2.2 x hx
theorem Cs.Ok.body {t : Int} {vs : List ByteArray} {b : Tm} (h : (Cs.mk t vs b).Ok) : b.Ok ∧ vs.length ≤ 8796093022207 := by
  unfold Cs.Ok at h
  exact ⟨h.2.2, h.2.1⟩
theorem Cs.Ok.sizes {t : Int} {vs : List ByteArray} {b : Tm} (h : (Cs.mk t vs b).Ok) : ∀ s ∈ vs, s.size ≤ 140737488355328 := by
  unfold Cs.Ok at h
  exact h.1
theorem Tm.sz_arg {k n : Int} {a b : ByteArray} {vs : List ByteArray} {xs : List Tm} {cs : List Cs} {x : Tm} (hx : x ∈ xs) : x.sz < (Tm.mk k n a b vs xs cs).sz := by
  have := Tm.szs_mem hx
  simp only [Tm.sz]; omega
theorem Tm.sz_case {k n : Int} {a b : ByteArray} {vs : List ByteArray} {xs : List Tm} {cs : List Cs} {t : Int} {ws : List ByteArray} {y : Tm} (hx : Cs.mk t ws y ∈ cs) : y.sz < (Tm.mk k n a b vs xs cs).sz := by
  have := Cs.szs_mem hx
  simp only [Cs.sz] at this
  simp only [Tm.sz]; omega
theorem Tm.row_len (t : Tm) : t.row.length = 7 := by cases t; rfl
theorem Cs.row_len (t : Cs) : t.row.length = 9 := by cases t; simp [Cs.row, Tm.row_len]
end Go.Proofs.YtapiiklnnkkdlaaDoor

namespace Go.Proofs.YtapiiklnnkkdlaaDoor
open Go.RowKit
attribute [local simp] runD mkRc ldOf stOf stOk ldArg noAny dstOk guardOk opEff opEff0 effOp pureOp callOp zEff evA constAV scalAV Value.oneCell' frGet memGet startAS frOf isGoCall idIn AS.after nextR opnIds objIds AV.ids idsL AObj.ids frNo memNo opnAny isAny mkVal rdCells wrCells fldAddr idxAddr srcRows litRows toD1 toDs setAt sliceAV optI partAV bldAV fillAV binAV binI AV.cells callEff calleeOf frKill memKill AV.kill AObj.kill AV.has AV.hasL Op.operands Call.operands keepF keepM viewIds cChk renOf moGet moWs moQ cEff moLike moHave AV.ren renL AObj.ren AObj.like kept startC moMem AV.frz frz1 frzL frSub memSub frzs AS.frz frFrz memFrz AObj.frz takeMap takeLen bleF Nat.ble_eq memAny objAny mapOp D.keyOk rowAV valRow extOp wrapOp phO frLow memLow memLow1 objLow memEmpty Low LowL
set_option linter.unusedVariables false
set_option linter.unusedSimpArgs false
theorem endQ.retA {P : Program} {fn : Func} {r : Nat → AV} {o : Nat} {s : AS} {cs : List AV} {y : AObj} (hrn : (r o).nilD = r o) (h : resAV P s fn.results.toList = some cs) (hr : (resVal cs).nilD = (r o).nilD) (hx : memGet s.mem o = some y) (ho : Nat.ble 500 o = false) : endQ P fn r (some y) o .ret s :=
  ⟨.inl rfl, s, Le.refl s, cs, h, hr, hrn, fun z hz => by cases hz; exact ⟨hx, ho⟩⟩
set_option maxHeartbeats 1000000 in
theorem sp_Clone (l : List ByteArray) (hl : l.length ≤ 8796093022208) : PSpec Tryd.prog 57 [strsAV l] (fun d => .arr d 0 l.length) (some (.arr 9 1 (l.map strR))) := by
  refine PSpec.ofArr Tryd.func57 rfl rfl _ 5 (Nat.le_of_ble_eq_true rfl) (fun _ => rfl) (by simp [AV.ids, idsL]) (fun d => by simp [AV.has, AV.hasL]) ?_
  show AWp _ _ (endQ _ Tryd.f57 _ _ _) (startAS 8 _)
  repeat (first | refine AWp.seq ?_ | refine AWp.block ?_)
  apply AWp.reg [] []
  · conv => lhs; simp
  · trivial
  cases l with
  | nil =>
    repeat (first | refine AWp.seq ?_ | refine AWp.block ?_)
    apply AWp.reg [] []
    · conv => lhs; simp [strsAV, strsD]
    · trivial
    repeat (first | refine AWp.seq ?_ | refine AWp.block ?_)
    refine AWp.condU rfl ?_ ?_
    · repeat (first | refine AWp.seq ?_ | refine AWp.block ?_)
      apply AWp.reg [] []
      · conv => lhs; simp
      · trivial
      refine AWp.le (Le.low [5] [] (fr := [(2, .arr 5 0 0)]) (mem := [(5, some (.arr 9 1 []))]) rfl (by simp) (by simp)) ?_
      refine AWp.ret ?_
      try dsimp only [thenQ, blockQ]
      apply endQ.retA
      · rfl
      · conv => lhs; simp [resAV, Tryd.results57]
      · rfl
      · rfl
      · rfl
    · refine AWp.skip ?_
      refine AWp.rg [] [] ?_
      refine AWp.ret ?_
      try dsimp only [thenQ, blockQ]
      apply endQ.retA
      · rfl
      · conv => lhs; simp [resAV, Tryd.results57]
      · rfl
      · rfl
      · rfl
  | cons s l =>
    simp only [List.length_cons] at hl
    repeat (first | refine AWp.seq ?_ | refine AWp.block ?_)
    apply AWp.reg [] []
    · conv => lhs; simp [strsAV, strsD]
    · trivial
    refine AWp.cn ?_
    refine AWp.skip ?_
    repeat (first | refine AWp.seq ?_ | refine AWp.block ?_)
    apply AWp.reg [] []
    · conv => lhs; simp [strsAV, strsD]
    · exact ⟨rows_len (row := strR) (fun _ => rfl) (s :: l), by simp [maxLen]; omega, by omega⟩
    refine AWp.ret ?_
    try dsimp only [thenQ, blockQ]
    apply endQ.retA
    · rfl
    · conv => lhs; simp [resAV, Tryd.results57]
    · rfl
    · rfl
    · rfl
def owMem (k n : Int) (a b : ByteArray) (vs : List ByteArray) (xs : List Tm) (cs : List Cs) : List (Nat × Option AObj) :=
  [(1, some (.blk 34 [.d (.int k), .d (.int n), .d (.str a), .d (.str b), .d (strsD vs), .d (.sl (xs.map Tm.row)), .d (.sl (cs.map Cs.row))])),
   (2, some (.blk 34 [.d (.int 0), .d (.int 0), .d (.str ByteArray.empty), .d (.str ByteArray.empty), .lit (.slice none 0 0), .lit (.slice none 0 0), .lit (.slice none 0 0)]))]
set_option maxRecDepth 20000 in
set_option maxHeartbeats 8000000 in
theorem sp_Own_at : ∀ (N : Nat) (t : Tm), t.sz < N → t.Ok → PSpec Tryd.prog 76 [tmAV t] (fun _ => tmAV t) none := by
  intro N
  induction N with
  | zero => intro s h; omega
  | succ N ih =>
  intro t hN hO
  obtain ⟨k, n, a, b, vs, xs, cs⟩ := t
  obtain ⟨o1, o2, o3, o4, o5⟩ := hO.vars
  have hcl := sp_Clone vs (by omega)
  refine PSpec.of Tryd.func76 rfl rfl rfl (Nat.le_of_ble_eq_true rfl) ?_
  show AWp _ _ (endQ _ Tryd.f76 _ _ _) (startAS 51 _)
  repeat (first | refine AWp.seq ?_ | refine AWp.block ?_)
  apply AWp.reg [] []
  · conv => lhs; simp
  · trivial
  repeat (first | refine AWp.seq ?_ | refine AWp.block ?_)
  apply AWp.reg [2] [.p (fun d => .arr d 0 vs.length) (some (.arr 9 1 (vs.map strR)))]
  · conv => lhs; simp [strsAV]
  · exact hcl
  repeat (first | refine AWp.seq ?_ | refine AWp.block ?_)
  apply AWp.reg [] []
  · conv => lhs; simp
  · trivial
  repeat (first | refine AWp.seq ?_ | refine AWp.block ?_)
  apply AWp.reg [] []
  · conv => lhs; simp
  · trivial
  repeat (first | refine AWp.seq ?_ | refine AWp.block ?_)
  refine AWp.le (Le.low [400] [] (fr := [(1, .ptr 1 0), (2, .ptr 2 0), (3, .arr 400 0 0), (14, .d (.sl (xs.map Tm.row))), (15, .d (.int xs.length)), (16, .d (.int 0))]) (mem := (400, some (.arr 34 7 [])) :: owMem k n a b vs xs cs) rfl (by simp) (by simp [owMem])) ?_
  refine AWp.loop (σ := fun u : {i : Nat // i ≤ xs.length} => ⟨51, [(1, .ptr 1 0), (2, .ptr 2 0), (3, .arr 400 0 u.1), (14, .d (.sl (xs.map Tm.row))), (15, .d (.int xs.length)), (16, .d (.int u.1))], (400, some (.arr 34 7 ((xs.map Tm.row).take u.1))) :: owMem k n a b vs xs cs⟩)
    (μ := fun u => xs.length - u.1) ⟨0, Nat.zero_le _⟩ (Le.refl _) (fun ⟨i, hi⟩ => ?_)
  dsimp only
  repeat (first | refine AWp.seq ?_ | refine AWp.block ?_)
  apply AWp.reg [] []
  · conv => lhs; simp
  · trivial
  repeat (first | refine AWp.seq ?_ | refine AWp.block ?_)
  refine AWp.cond rfl (fun h => ?_) (fun h => ?_)
  · have hi1 : i < xs.length := by have := of_decide_eq_true h; omega
    have h1 : xs[i]? = some xs[i] := List.getElem?_eq_getElem hi1
    have hmem : xs[i] ∈ xs := List.getElem_mem hi1
    generalize xs[i] = x at h1 hmem
    have hp := ih x (by have := Tm.sz_arg (k := k) (n := n) (a := a) (b := b) (vs := vs) (cs := cs) hmem; omega) (hO.arg hmem)
    have ht : (xs.map Tm.row).take (i + 1) = (xs.map Tm.row).take i ++ [x.row] := by rw [List.take_add_one, List.getElem?_map, h1]; rfl
    have hl : ((xs.map Tm.row).take i).length = i := by simp; omega
    refine AWp.skip ?_
    obtain ⟨xk, xn, xa, xb, xv, xx, xc⟩ := x
    refine AWp.rg [] [] ?_ (hr := by conv => lhs; simp [h1, Tm.row, Tm.rows_eq, Cs.rows_eq])
    repeat (first | refine AWp.seq ?_ | refine AWp.block ?_)
    apply AWp.reg [] [.p (fun _ => tmAV (.mk xk xn xa xb xv xx xc)) none]
    · conv => lhs; simp [tmAV]
    · exact ⟨hp, by omega, by simp [maxLen]; omega, by omega⟩
    refine AWp.rg [] [] ?_
    refine ⟨⟨i + 1, hi1⟩, by simp; omega, ?_⟩
    dsimp only
    rw [ht]
    exact Le.sub (by simp [Nat.min_eq_left hi]) (by simp [owMem, Tm.row, Tm.rows_eq, Cs.rows_eq])
  have hi1 : i = xs.length := by have := of_decide_eq_false h; omega
  subst hi1
  refine AWp.exit ?_
  rw [show (xs.map Tm.row).take xs.length = xs.map Tm.row from List.take_of_length_le (by simp)]
  repeat (first | refine AWp.seq ?_ | refine AWp.block ?_)
  apply AWp.reg [] []
  · conv => lhs; simp
  · trivial
  repeat (first | refine AWp.seq ?_ | refine AWp.block ?_)
  apply AWp.reg [] []
  · conv => lhs; simp [owMem]
  · trivial
  repeat (first | refine AWp.seq ?_ | refine AWp.block ?_)
  refine AWp.le (Le.low [401] [] (fr := [(1, .ptr 1 0), (2, .ptr 2 0), (3, .arr 400 0 xs.length), (6, .arr 401 0 0), (27, .d (.sl (cs.map Cs.row))), (28, .d (.int cs.length)), (29, .d (.int 0))]) (mem := (401, some (.arr 40 9 [])) :: (400, some (.arr 34 7 (xs.map Tm.row))) :: owMem k n a b vs xs cs) rfl (by simp) (by simp [owMem])) ?_
  refine AWp.loop (σ := fun u : {i : Nat // i ≤ cs.length} => ⟨51, [(1, .ptr 1 0), (2, .ptr 2 0), (3, .arr 400 0 xs.length), (6, .arr 401 0 u.1), (27, .d (.sl (cs.map Cs.row))), (28, .d (.int cs.length)), (29, .d (.int u.1))], (401, some (.arr 40 9 ((cs.map Cs.row).take u.1))) :: (400, some (.arr 34 7 (xs.map Tm.row))) :: owMem k n a b vs xs cs⟩)
    (μ := fun u => cs.length - u.1) ⟨0, Nat.zero_le _⟩ (Le.refl _) (fun ⟨i, hi⟩ => ?_)
  dsimp only
  clear h
  repeat (first | refine AWp.seq ?_ | refine AWp.block ?_)
  apply AWp.reg [] []
  · conv => lhs; simp
  · trivial
  repeat (first | refine AWp.seq ?_ | refine AWp.block ?_)
  refine AWp.cond rfl (fun h => ?_) (fun h => ?_)
  · have hi1 : i < cs.length := by have := of_decide_eq_true h; omega
    have h1 : cs[i]? = some cs[i] := List.getElem?_eq_getElem hi1
    have hmem : cs[i] ∈ cs := List.getElem_mem hi1
    generalize cs[i] = x at h1 hmem
    have ht : (cs.map Cs.row).take (i + 1) = (cs.map Cs.row).take i ++ [x.row] := by rw [List.take_add_one, List.getElem?_map, h1]; rfl
    have hl : ((cs.map Cs.row).take i).length = i := by simp; omega
    obtain ⟨g, ws, x⟩ := x
    obtain ⟨oc1, oc2⟩ := (hO.case hmem).body
    have hp := ih x (by have := Tm.sz_case (k := k) (n := n) (a := a) (b := b) (vs := vs) (xs := xs) hmem; omega) oc1
    have hcw := sp_Clone ws (by omega)
    obtain ⟨xk, xn, xa, xb, xv, xx, xc⟩ := x
    refine AWp.skip ?_
    refine AWp.rg [] [] ?_ (hr := by conv => lhs; simp [h1, Cs.row, Tm.row, Tm.rows_eq, Cs.rows_eq])
    repeat (first | refine AWp.seq ?_ | refine AWp.block ?_)
    apply AWp.draw [5] [.p (fun d => .arr d 0 ws.length) (some (.arr 9 1 (ws.map strR))), .p (fun _ => tmAV (.mk xk xn xa xb xv xx xc)) none] mixed
    · conv => lhs; simp [strsAV]
    · kernel_rfl
    · exact ⟨hcw, hp, by omega, by simp [maxLen]; omega, by omega⟩
    refine AWp.rg [] [] ?_
    refine ⟨⟨i + 1, hi1⟩, by simp; omega, ?_⟩
    dsimp only
    rw [ht]
    exact Le.sub (by simp [Nat.min_eq_left hi]) (by simp [owMem, Cs.row, Tm.row, Tm.rows_eq, Cs.rows_eq])
  have hi1 : i = cs.length := by have := of_decide_eq_false h; omega
  subst hi1
  refine AWp.exit ?_
  rw [show (cs.map Cs.row).take cs.length = cs.map Cs.row from List.take_of_length_le (by simp)]
  repeat (first | refine AWp.seq ?_ | refine AWp.block ?_)
  apply AWp.reg [] []
  · conv => lhs; simp [owMem]
  · trivial
  repeat (first | refine AWp.seq ?_ | refine AWp.block ?_)
  apply AWp.reg [] []
  · conv => lhs; simp
  · trivial
  refine AWp.ret ?_
  try dsimp only [thenQ, blockQ]
  apply endQ.retF [400, 401]
  · rfl
  · conv => lhs; simp
  · conv => lhs; simp [resAV, Tryd.results76]
  rfl
theorem sp_Own (t : Tm) (h : t.Ok) : PSpec Tryd.prog 76 [tmAV t] (fun _ => tmAV t) none := sp_Own_at _ t (Nat.lt_succ_self _) h
end Go.Proofs.YtapiiklnnkkdlaaDoor

namespace Go.Proofs.YtapiiklnnkkdlaaDoor
open Go.RowKit
attribute [local simp] runD mkRc ldOf stOf stOk ldArg noAny dstOk guardOk opEff opEff0 effOp pureOp callOp zEff evA constAV scalAV Value.oneCell' frGet memGet startAS frOf isGoCall idIn AS.after nextR opnIds objIds AV.ids idsL AObj.ids frNo memNo opnAny isAny mkVal rdCells wrCells fldAddr idxAddr srcRows litRows toD1 toDs setAt sliceAV optI partAV bldAV fillAV binAV binI AV.cells callEff calleeOf frKill memKill AV.kill AObj.kill AV.has AV.hasL Op.operands Call.operands keepF keepM viewIds cChk renOf moGet moWs moQ cEff moLike moHave AV.ren renL AObj.ren AObj.like kept startC moMem AV.frz frz1 frzL frSub memSub frzs AS.frz frFrz memFrz AObj.frz takeMap takeLen bleF Nat.ble_eq memAny objAny mapOp D.keyOk rowAV valRow extOp wrapOp phO
set_option linter.unusedVariables false
set_option linter.unusedSimpArgs false
def hasB (l : List ByteArray) (s : ByteArray) : Bool := l.any fun x => decide (x = s)
theorem hasB_iff {l : List ByteArray} {s : ByteArray} : hasB l s = true ↔ s ∈ l := by
  unfold hasB
  rw [List.any_eq_true]
  constructor
  · rintro ⟨x, h1, h2⟩
    rw [← of_decide_eq_true h2]; exact h1
  · exact fun h => ⟨s, h, decide_eq_true rfl⟩
theorem hasB_not {l : List ByteArray} {s : ByteArray} : hasB l s = false ↔ s ∉ l := by
  rw [← Bool.not_eq_true, hasB_iff]
theorem not_mem_snoc {l : List ByteArray} {i : Nat} {x s : ByteArray} (hx : l[i]? = some x) (h : s ∉ l.take i) (hne : x ≠ s) : s ∉ l.take (i + 1) := by
  rw [List.take_add_one, hx]
  simp only [Option.toList_some, List.mem_append, List.mem_singleton, not_or]
  exact ⟨h, fun e => hne e.symm⟩
set_option maxHeartbeats 1000000 in
theorem sp_Has (l : List ByteArray) (s : ByteArray) (hl : l.length ≤ 8796093022208) : PSpec Tryd.prog 26 [strsAV l, .d (.str s)] (fun _ => .d (.bool (hasB l s))) none := by
  refine PSpec.of Tryd.func26 rfl rfl rfl (Nat.le_of_ble_eq_true rfl) ?_
  show AWp _ _ (endQ _ Tryd.f26 _ _ _) (startAS 17 _)
  repeat (first | refine AWp.seq ?_ | refine AWp.block ?_)
  apply AWp.reg [] []
  · conv => lhs; simp
  · trivial
  repeat (first | refine AWp.seq ?_ | refine AWp.block ?_)
  apply AWp.reg [] []
  · conv => lhs; simp
  · trivial
  repeat (first | refine AWp.seq ?_ | refine AWp.block ?_)
  refine AWp.loop (σ := fun u : {i : Nat // i ≤ l.length ∧ s ∉ l.take i} => ⟨17, [(1, .d (.str s)), (7, strsAV l), (8, .d (.int l.length)), (9, .d (.int u.1))], []⟩)
    (μ := fun u => l.length - u.1) ⟨0, Nat.zero_le _, by simp⟩ (Le.sub (by simp) (by simp)) (fun ⟨i, hi, ht⟩ => ?_)
  dsimp only
  repeat (first | refine AWp.seq ?_ | refine AWp.block ?_)
  apply AWp.reg [] []
  · conv => lhs; simp
  · trivial
  repeat (first | refine AWp.seq ?_ | refine AWp.block ?_)
  refine AWp.cond rfl (fun h => ?_) (fun h => ?_)
  · have hi1 : i < l.length := by have := of_decide_eq_true h; omega
    have h1 : l[i]? = some l[i] := List.getElem?_eq_getElem hi1
    have hmem : l[i] ∈ l := List.getElem_mem hi1
    generalize l[i] = x at h1 hmem
    refine AWp.skip ?_
    refine AWp.rg [] [] ?_ (hr := by conv => lhs; simp [h1])
    by_cases hx : x = s
    · subst hx
      repeat (first | refine AWp.seq ?_ | refine AWp.block ?_)
      apply AWp.reg [] []
      · conv => lhs; simp
      · trivial
      repeat (first | refine AWp.seq ?_ | refine AWp.block ?_)
      refine AWp.cond rfl (fun h2 => ?_) (fun h2 => ?_)
      · repeat (first | refine AWp.seq ?_ | refine AWp.block ?_)
        apply AWp.reg [] []
        · conv => lhs; simp
        · trivial
        refine AWp.ret ?_
        try dsimp only [thenQ, blockQ]
        apply endQ.ret
        · rfl
        · conv => lhs; simp [resAV, Tryd.results26]
        rw [hasB_iff.2 hmem]; rfl
      · simp at h2
    · repeat (first | refine AWp.seq ?_ | refine AWp.block ?_)
      apply AWp.reg [] []
      · conv => lhs; simp [hx]
      · trivial
      repeat (first | refine AWp.seq ?_ | refine AWp.block ?_)
      refine AWp.cond rfl (fun h2 => ?_) (fun h2 => ?_)
      · simp at h2
      refine AWp.skip ?_
      refine AWp.rg [] [] ?_
      refine ⟨⟨i + 1, hi1, not_mem_snoc h1 ht hx⟩, by simp; omega, Le.sub (by simp) (by simp)⟩
  have hi1 : i = l.length := by have := of_decide_eq_false h; omega
  subst hi1
  rw [List.take_length] at ht
  refine AWp.exit ?_
  repeat (first | refine AWp.seq ?_ | refine AWp.block ?_)
  apply AWp.reg [] []
  · conv => lhs; simp
  · trivial
  refine AWp.ret ?_
  try dsimp only [thenQ, blockQ]
  apply endQ.ret
  · rfl
  · conv => lhs; simp [resAV, Tryd.results26]
  rw [hasB_not.2 ht]; rfl
def indexI (l : List ByteArray) (p : ByteArray → Bool) : Int := match l.findIdx? p with | some i => i | none => -1
theorem indexI_some {l : List ByteArray} {p : ByteArray → Bool} {i : Nat} {x : ByteArray} (hx : l[i]? = some x) (h : ∀ y ∈ l.take i, p y = false) (hp : p x = true) : indexI l p = i := by
  unfold indexI
  have : l.findIdx? p = some i := by
    rw [List.findIdx?_eq_some_iff_getElem]
    have hi := (List.getElem?_eq_some_iff.1 hx)
    refine ⟨hi.1, by rw [hi.2]; exact hp, fun j hj => ?_⟩
    have hjl : j < l.length := by have := hi.1; omega
    have := h (l[j]'hjl) (List.mem_iff_getElem?.2 ⟨j, by rw [List.getElem?_take, if_pos hj]; exact List.getElem?_eq_getElem hjl⟩)
    simp [this]
  rw [this]
theorem indexI_none {l : List ByteArray} {p : ByteArray → Bool} (h : ∀ y ∈ l, p y = false) : indexI l p = -1 := by
  unfold indexI
  have : l.findIdx? p = none := by
    rw [List.findIdx?_eq_none_iff]
    exact h
  rw [this]
theorem take_all_snoc {l : List ByteArray} {p : ByteArray → Bool} {i : Nat} {x : ByteArray} (hx : l[i]? = some x) (h : ∀ y ∈ l.take i, p y = false) (hp : p x = false) : ∀ y ∈ l.take (i + 1), p y = false := by
  rw [List.take_add_one, hx]
  intro y hy
  rcases List.mem_append.1 hy with hy | hy
  · exact h y hy
  · simp at hy; subst hy; exact hp
set_option maxHeartbeats 1000000 in
theorem sp_Index (l : List ByteArray) (s : ByteArray) (hl : l.length ≤ 8796093022208) : PSpec Tryd.prog 165 [strsAV l, .d (.str s)] (fun _ => .d (.int (indexI l fun x => decide (s = x)))) none := by
  refine PSpec.of Tryd.func165 rfl rfl rfl (Nat.le_of_ble_eq_true rfl) ?_
  show AWp _ _ (endQ _ Tryd.f165 _ _ _) (startAS 19 _)
  repeat (first | refine AWp.seq ?_ | refine AWp.block ?_)
  apply AWp.reg [] []
  · conv => lhs; simp
  · trivial
  repeat (first | refine AWp.seq ?_ | refine AWp.block ?_)
  apply AWp.reg [] []
  · conv => lhs; simp
  · trivial
  repeat (first | refine AWp.seq ?_ | refine AWp.block ?_)
  refine AWp.loop (σ := fun u : {i : Nat // i ≤ l.length ∧ ∀ y ∈ l.take i, decide (s = y) = false} => ⟨19, [(0, strsAV l), (1, .d (.str s)), (7, .d (.int l.length)), (8, .d (.int u.1))], []⟩)
    (μ := fun u => l.length - u.1) ⟨0, Nat.zero_le _, by simp⟩ (Le.sub (by simp) (by simp)) (fun ⟨i, hi, ht⟩ => ?_)
  dsimp only
  repeat (first | refine AWp.seq ?_ | refine AWp.block ?_)
  apply AWp.reg [] []
  · conv => lhs; simp
  · trivial
  repeat (first | refine AWp.seq ?_ | refine AWp.block ?_)
  refine AWp.cond rfl (fun h => ?_) (fun h => ?_)
  · have hi1 : i < l.length := by have := of_decide_eq_true h; omega
    have h1 : l[i]? = some l[i] := List.getElem?_eq_getElem hi1
    generalize l[i] = x at h1
    refine AWp.skip ?_
    repeat (first | refine AWp.seq ?_ | refine AWp.block ?_)
    apply AWp.reg [] []
    · conv => lhs; simp
    · trivial
    by_cases hx : s = x
    · subst hx
      refine AWp.rg [] [] ?_ (hr := by conv => lhs; simp [h1])
      repeat (first | refine AWp.seq ?_ | refine AWp.block ?_)
      refine AWp.cond rfl (fun h2 => ?_) (fun h2 => ?_)
      · repeat (first | refine AWp.seq ?_ | refine AWp.block ?_)
        apply AWp.reg [] []
        · conv => lhs; simp
        · trivial
        refine AWp.ret ?_
        try dsimp only [thenQ, blockQ]
        apply endQ.ret
        · rfl
        · conv => lhs; simp [resAV, Tryd.results165]
        rw [indexI_some h1 ht (by simp)]; rfl
      · simp at h2
    · refine AWp.rg [] [] ?_ (hr := by conv => lhs; simp [h1, hx])
      repeat (first | refine AWp.seq ?_ | refine AWp.block ?_)
      refine AWp.cond rfl (fun h2 => ?_) (fun h2 => ?_)
      · simp at h2
      refine AWp.skip ?_
      refine AWp.rg [] [] ?_
      refine ⟨⟨i + 1, hi1, take_all_snoc h1 ht (by simp [hx])⟩, by simp; omega, Le.sub (by simp) (by simp)⟩
  have hi1 : i = l.length := by have := of_decide_eq_false h; omega
  subst hi1
  rw [List.take_length] at ht
  refine AWp.exit ?_
  repeat (first | refine AWp.seq ?_ | refine AWp.block ?_)
  apply AWp.reg [] []
  · conv => lhs; simp
  · trivial
  refine AWp.ret ?_
  try dsimp only [thenQ, blockQ]
  apply endQ.ret
  · rfl
  · conv => lhs; simp [resAV, Tryd.results165]
  rw [indexI_none ht]; rfl
theorem sp_Contains (l : List ByteArray) (s : ByteArray) (hl : l.length ≤ 8796093022208) : PSpec Tryd.prog 125 [strsAV l, .d (.str s)] (fun _ => .d (.bool (hasB l s))) none := by
  have hx := sp_Index l s hl
  have e : decide (0 ≤ indexI l fun x => decide (s = x)) = hasB l s := by
    cases h : hasB l s with
    | true =>
      have hm := hasB_iff.1 h
      unfold indexI
      cases hf : l.findIdx? fun x => decide (s = x) with
      | none =>
        rw [List.findIdx?_eq_none_iff] at hf
        have := hf s hm
        simp at this
      | some i => simp
    | false =>
      have hm := hasB_not.1 h
      rw [indexI_none fun y hy => by simp; rintro rfl; exact hm hy]
      rfl
  generalize indexI l (fun x => decide (s = x)) = I at hx e
  refine PSpec.of Tryd.func125 rfl rfl rfl (Nat.le_of_ble_eq_true rfl) ?_
  show AWp _ _ (endQ _ Tryd.f125 _ _ _) (startAS 9 _)
  repeat (first | refine AWp.seq ?_ | refine AWp.block ?_)
  apply AWp.reg [] []
  · conv => lhs; simp
  · trivial
  repeat (first | refine AWp.seq ?_ | refine AWp.block ?_)
  apply AWp.reg [] [.p (fun _ => .d (.int I)) none]
  · conv => lhs; simp
  · exact hx
  refine AWp.ret ?_
  try dsimp only [thenQ, blockQ]
  apply endQ.ret
  · rfl
  · conv => lhs; simp [resAV, Tryd.results125]
  rw [e]; rfl

set_option maxHeartbeats 1000000 in
theorem cs_IndexFunc (l : List ByteArray) (hl : l.length ≤ 8796093022208) (p : ByteArray → Bool) (K : Nat) (t : TypeId) (x : D)
    (hk : ∀ s ∈ l, CSpec Tryd.prog K [.d (.str s), .ptr 1000 0] [(1000, .blk t [.d x])] (.d (.bool (p s))) [(1000, .blk t [.d x])]) :
    CSpec Tryd.prog 164 [.arr 1001 0 l.length, .clo K [.ptr 1000 0]] [(1000, .blk t [.d x]), (1001, .arr 9 1 (l.map strR))] (.d (.int (indexI l p))) [(1000, .blk t [.d x]), (1001, .arr 9 1 (l.map strR))] := by
  refine CSpec.of Tryd.func164 rfl rfl (Nat.le_of_ble_eq_true rfl) ?_
  show AWp _ _ (endC _ Tryd.f164 _ _) (startC 19 _ _)
  repeat (first | refine AWp.seq ?_ | refine AWp.block ?_)
  apply AWp.reg [] []
  · conv => lhs; simp
  · trivial
  repeat (first | refine AWp.seq ?_ | refine AWp.block ?_)
  apply AWp.reg [] []
  · conv => lhs; simp
  · trivial
  repeat (first | refine AWp.seq ?_ | refine AWp.block ?_)
  refine AWp.loop (σ := fun u : {i : Nat // i ≤ l.length ∧ ∀ y ∈ l.take i, p y = false} => ⟨19, [(0, .arr 1001 0 l.length), (1, .clo K [.ptr 1000 0]), (7, .d (.int l.length)), (8, .d (.int u.1))], [(1000, some (.blk t [.d x])), (1001, some (.arr 9 1 (l.map strR)))]⟩)
    (μ := fun u => l.length - u.1) ⟨0, Nat.zero_le _, by simp⟩ (Le.sub (by simp) (by simp)) (fun ⟨i, hi, ht⟩ => ?_)
  dsimp only
  repeat (first | refine AWp.seq ?_ | refine AWp.block ?_)
  apply AWp.reg [] []
  · conv => lhs; simp
  · trivial
  repeat (first | refine AWp.seq ?_ | refine AWp.block ?_)
  refine AWp.cond rfl (fun h => ?_) (fun h => ?_)
  · have hi1 : i < l.length := by have := of_decide_eq_true h; omega
    have h1 : l[i]? = some l[i] := List.getElem?_eq_getElem hi1
    have hmem : l[i] ∈ l := List.getElem_mem hi1
    generalize l[i] = y at h1 hmem
    have hc := hk y hmem
    obtain ⟨B, hB⟩ : ∃ B, B = p y := ⟨_, rfl⟩
    rw [← hB] at hc
    refine AWp.skip ?_
    repeat (first | refine AWp.seq ?_ | refine AWp.block ?_)
    apply AWp.reg [] []
    · conv => lhs; simp
    · trivial
    cases B with
    | true =>
      repeat (first | refine AWp.seq ?_ | refine AWp.block ?_)
      apply AWp.reg [] [.c [] [.d (.str y), .ptr 1000 0] [(1000, .blk t [.d x])] (.d (.bool true)) [(1000, .blk t [.d x])]]
      · conv => lhs; simp [h1]
      · exact ⟨by omega, hc⟩
      repeat (first | refine AWp.seq ?_ | refine AWp.block ?_)
      refine AWp.cond rfl (fun h2 => ?_) (fun h2 => ?_)
      · repeat (first | refine AWp.seq ?_ | refine AWp.block ?_)
        apply AWp.reg [] []
        · conv => lhs; simp
        · trivial
        refine AWp.ret ?_
        try dsimp only [thenQ, blockQ]
        apply endC.ret
        · rfl
        · conv => lhs; simp [resAV, Tryd.results164]
        · rw [indexI_some h1 ht hB.symm]; rfl
        · simp [moEnd, memGet]
      · simp at h2
    | false =>
      repeat (first | refine AWp.seq ?_ | refine AWp.block ?_)
      apply AWp.reg [] [.c [] [.d (.str y), .ptr 1000 0] [(1000, .blk t [.d x])] (.d (.bool false)) [(1000, .blk t [.d x])]]
      · conv => lhs; simp [h1]
      · exact ⟨by omega, hc⟩
      repeat (first | refine AWp.seq ?_ | refine AWp.block ?_)
      refine AWp.cond rfl (fun h2 => ?_) (fun h2 => ?_)
      · simp at h2
      refine AWp.skip ?_
      refine AWp.rg [] [] ?_
      refine ⟨⟨i + 1, hi1, take_all_snoc h1 ht hB.symm⟩, by simp; omega, Le.sub (by simp) (by simp)⟩
  have hi1 : i = l.length := by have := of_decide_eq_false h; omega
  subst hi1
  rw [List.take_length] at ht
  refine AWp.exit ?_
  repeat (first | refine AWp.seq ?_ | refine AWp.block ?_)
  apply AWp.reg [] []
  · conv => lhs; simp
  · trivial
  refine AWp.ret ?_
  try dsimp only [thenQ, blockQ]
  apply endC.ret
  · rfl
  · conv => lhs; simp [resAV, Tryd.results164]
  · rw [indexI_none ht]; rfl
  · simp [moEnd, memGet]
def delRows (l : List ByteArray) (p : ByteArray → Bool) : List (List D) := ((l.filter fun s => !p s).map strR) ++ List.replicate (l.length - (l.filter fun s => !p s).length) [.str ByteArray.empty]
theorem set_mid {α : Type} (a m b : List α) (v : α) : ∃ m', m'.length = m.length ∧ (a ++ (m ++ v :: b)).set a.length v = (a ++ [v]) ++ (m' ++ b) := by
  cases m with
  | nil => exact ⟨[], rfl, by simp⟩
  | cons x m => exact ⟨m ++ [v], by simp, by simp⟩
set_option maxRecDepth 20000 in
set_option maxHeartbeats 4000000 in
theorem cs_DeleteFunc (l : List ByteArray) (hl : l.length ≤ 8796093022208) (p : ByteArray → Bool) (K : Nat) (t : TypeId) (x : D)
    (hk : ∀ s ∈ l, CSpec Tryd.prog K [.d (.str s), .ptr 1000 0] [(1000, .blk t [.d x])] (.d (.bool (p s))) [(1000, .blk t [.d x])]) :
    CSpec Tryd.prog 123 [.arr 1001 0 l.length, .clo K [.ptr 1000 0]] [(1000, .blk t [.d x]), (1001, .arr 9 1 (l.map strR))] (.arr 1001 0 (l.filter fun s => !p s).length) [(1000, .blk t [.d x]), (1001, .arr 9 1 (delRows l p))] := by
  have hix := cs_IndexFunc l hl p K t x hk
  refine CSpec.of Tryd.func123 rfl rfl (Nat.le_of_ble_eq_true rfl) ?_
  show AWp _ _ (endC _ Tryd.f123 _ _) (startC 42 _ _)
  repeat (first | refine AWp.seq ?_ | refine AWp.block ?_)
  apply AWp.reg [] []
  · conv => lhs; simp
  · trivial
  by_cases hno : ∀ y ∈ l, p y = false
  · rw [indexI_none hno] at hix
    have hf : (l.filter fun s => !p s) = l := List.filter_eq_self.2 fun y hy => by simp [hno y hy]
    repeat (first | refine AWp.seq ?_ | refine AWp.block ?_)
    apply AWp.reg [] [.c [] [.arr 1001 0 l.length, .clo K [.ptr 1000 0]] [(1000, .blk t [.d x]), (1001, .arr 9 1 (l.map strR))] (.d (.int (-1))) [(1000, .blk t [.d x]), (1001, .arr 9 1 (l.map strR))]]
    · conv => lhs; simp
    · exact hix
    repeat (first | refine AWp.seq ?_ | refine AWp.block ?_)
    apply AWp.reg [] []
    · conv => lhs; simp
    · trivial
    repeat (first | refine AWp.seq ?_ | refine AWp.block ?_)
    refine AWp.cond rfl (fun h => ?_) (fun h => ?_)
    · repeat (first | refine AWp.seq ?_ | refine AWp.block ?_)
      apply AWp.reg [] []
      · conv => lhs; simp
      · trivial
      refine AWp.ret ?_
      try dsimp only [thenQ, blockQ]
      apply endC.ret
      · rfl
      · conv => lhs; simp [resAV, Tryd.results123]
      · rw [hf]; rfl
      · simp [moEnd, memGet, delRows, hf]
    · simp at h
  obtain ⟨i0, y0, hy0, hp0, hbefore⟩ : ∃ i0 y0, l[i0]? = some y0 ∧ p y0 = true ∧ ∀ y ∈ l.take i0, p y = false := by
    have : ∃ i, l.findIdx? p = some i := by
      cases hf : l.findIdx? p with
      | none => exact absurd (List.findIdx?_eq_none_iff.1 hf) hno
      | some i => exact ⟨i, rfl⟩
    obtain ⟨i, hi⟩ := this
    rw [List.findIdx?_eq_some_iff_getElem] at hi
    obtain ⟨h1, h2, h3⟩ := hi
    refine ⟨i, l[i], List.getElem?_eq_getElem h1, h2, fun y hy => ?_⟩
    obtain ⟨j, hj⟩ := List.mem_iff_getElem?.1 hy
    rw [List.getElem?_take] at hj
    split at hj
    · rename_i hji
      have := h3 j hji
      rw [List.getElem?_eq_getElem (by omega)] at hj
      cases hj
      simpa using this
    · cases hj
  rw [indexI_some hy0 hbefore hp0] at hix
  have hi0 : i0 < l.length := (List.getElem?_eq_some_iff.1 hy0).1
  have hne : ¬ ((i0 : Int) = -1) := by omega
  repeat (first | refine AWp.seq ?_ | refine AWp.block ?_)
  apply AWp.reg [] [.c [] [.arr 1001 0 l.length, .clo K [.ptr 1000 0]] [(1000, .blk t [.d x]), (1001, .arr 9 1 (l.map strR))] (.d (.int i0)) [(1000, .blk t [.d x]), (1001, .arr 9 1 (l.map strR))]]
  · conv => lhs; simp
  · exact hix
  repeat (first | refine AWp.seq ?_ | refine AWp.block ?_)
  apply AWp.reg [] []
  · conv => lhs; simp [hne]
  · trivial
  repeat (first | refine AWp.seq ?_ | refine AWp.block ?_)
  refine AWp.cond rfl (fun h => ?_) (fun h => ?_)
  · simp at h
  refine AWp.skip ?_
  repeat (first | refine AWp.seq ?_ | refine AWp.block ?_)
  apply AWp.reg [] []
  · conv => lhs; simp
  · simp [inI]; omega
  repeat (first | refine AWp.seq ?_ | refine AWp.block ?_)
  have hk0 : ((l.take (i0 + 1)).filter fun s => !p s) = l.take i0 := by
    rw [List.take_add_one, hy0, List.filter_append]
    simp [hp0]
    exact fun y hy => by simpa using hbefore y hy
  refine AWp.loop (σ := fun u : {q : Nat × List ByteArray // q.1 ≤ l.length ∧ ((l.take q.1).filter fun s => !p s).length + q.2.length = q.1} => ⟨42, [(0, .arr 1001 0 l.length), (1, .clo K [.ptr 1000 0]), (5, .d (.int ((l.take u.1.1).filter fun s => !p s).length)), (6, .d (.int u.1.1))],
      [(1000, some (.blk t [.d x])), (1001, some (.arr 9 1 ((((l.take u.1.1).filter fun s => !p s) ++ (u.1.2 ++ l.drop u.1.1)).map strR)))]⟩)
    (μ := fun u => l.length - u.1.1) ⟨(i0 + 1, [y0]), hi0, by rw [hk0]; simp; omega⟩ ?_ (fun ⟨⟨j, mid⟩, hj, hlen⟩ => ?_)
  · dsimp only
    rw [hk0]
    have e : l.take i0 ++ ([y0] ++ l.drop (i0 + 1)) = l := by
      have h2 := List.drop_eq_getElem_cons hi0
      rw [List.getElem?_eq_getElem hi0] at hy0
      cases hy0
      rw [List.singleton_append, ← h2, List.take_append_drop]
    rw [e]
    have e2 : (l.take i0).length = i0 := by simp; omega
    rw [e2]
    exact Le.sub (by simp) (by simp)
  dsimp only at hj hlen ⊢
  have hKl : ((l.take j).filter fun s => !p s).length ≤ j := by omega
  obtain ⟨kp, hkp⟩ : ∃ kp, kp = (l.take j).filter fun s => !p s := ⟨_, rfl⟩
  rw [← hkp] at hlen hKl ⊢
  obtain ⟨R, hR⟩ : ∃ R, R = kp ++ (mid ++ l.drop j) := ⟨_, rfl⟩
  have hRl : R.length = l.length := by rw [hR]; simp; omega
  rw [← hR]
  repeat (first | refine AWp.seq ?_ | refine AWp.block ?_)
  apply AWp.reg [] []
  · conv => lhs; simp
  · trivial
  repeat (first | refine AWp.seq ?_ | refine AWp.block ?_)
  refine AWp.cond rfl (fun h => ?_) (fun h => ?_)
  · have hj1 : j < l.length := by have := of_decide_eq_true h; omega
    have hv : l[j]? = some l[j] := List.getElem?_eq_getElem hj1
    have hmem : l[j] ∈ l := List.getElem_mem hj1
    have hd : l.drop j = l[j] :: l.drop (j + 1) := List.drop_eq_getElem_cons hj1
    generalize l[j] = v at hv hmem hd
    have hc := hk v hmem
    obtain ⟨B, hB⟩ : ∃ B, B = p v := ⟨_, rfl⟩
    have ht : (l.take (j + 1)).filter (fun s => !p s) = kp ++ (if B then [] else [v]) := by
      rw [List.take_add_one, hv, List.filter_append, ← hkp, hB]
      cases hp : p v <;> simp [hp]
    rw [← hB] at hc
    have hRj : R[j]? = some v := by
      rw [hR, hd, List.getElem?_append_right (by omega), List.getElem?_append_right (by omega)]
      rw [show j - kp.length - mid.length = 0 from by omega]
      rfl
    refine AWp.skip ?_
    refine AWp.rg [] [] ?_ (hr := by conv => lhs; simp [hRj, hRl])
    cases B with
    | true =>
      repeat (first | refine AWp.seq ?_ | refine AWp.block ?_)
      apply AWp.reg [] [.c [] [.d (.str v), .ptr 1000 0] [(1000, .blk t [.d x])] (.d (.bool true)) [(1000, .blk t [.d x])]]
      · conv => lhs; simp
      · exact hc
      repeat (first | refine AWp.seq ?_ | refine AWp.block ?_)
      refine AWp.cond rfl (fun h2 => ?_) (fun h2 => ?_)
      · simp at h2
      refine AWp.skip ?_
      refine AWp.rg [] [] ?_
      refine ⟨⟨(j + 1, mid ++ [v]), hj1, by dsimp only; rw [ht]; simp; omega⟩, by simp; omega, ?_⟩
      dsimp only
      rw [ht]
      simp only [if_true, List.append_nil]
      have e : kp ++ (mid ++ [v] ++ l.drop (j + 1)) = R := by rw [hR, hd]; simp
      rw [e]
      exact Le.sub (by simp) (by simp)
    | false =>
      repeat (first | refine AWp.seq ?_ | refine AWp.block ?_)
      apply AWp.reg [] [.c [] [.d (.str v), .ptr 1000 0] [(1000, .blk t [.d x])] (.d (.bool false)) [(1000, .blk t [.d x])]]
      · conv => lhs; simp
      · exact hc
      obtain ⟨m', hm', hset⟩ := set_mid kp mid (l.drop (j + 1)) v
      rw [← hd, ← hR] at hset
      have hRk : R[kp.length]? = some R[kp.length] := List.getElem?_eq_getElem (by omega)
      generalize R[kp.length] = r at hRk
      repeat (first | refine AWp.seq ?_ | refine AWp.block ?_)
      refine AWp.cond rfl (fun h2 => ?_) (fun h2 => ?_)
      · refine AWp.rg [] [] ?_ (hr := by conv => lhs; simp [hRk, hRl])
        refine AWp.rg [] [] ?_
        refine AWp.rg [] [] ?_
        refine ⟨⟨(j + 1, m'), hj1, by dsimp only; rw [ht]; simp; omega⟩, by simp; omega, ?_⟩
        dsimp only
        rw [ht]
        have e : kp ++ (if false = true then [] else [v]) ++ (m' ++ l.drop (j + 1)) = R.set kp.length v := by rw [hset]; simp
        rw [e]
        exact Le.sub (by simp) (by simp [List.map_set])
      · simp at h2
  have hj1 : j = l.length := by have := of_decide_eq_false h; omega
  subst hj1
  rw [List.take_length] at hkp
  rw [List.drop_length, List.append_nil] at hR
  refine AWp.exit ?_
  have hmem : List.take kp.length (List.map strR R) ++ (List.replicate (l.length - kp.length) [D.str ByteArray.empty] ++ List.drop (kp.length + (l.length - kp.length)) (List.map strR R)) = delRows l p := by
    rw [delRows, ← hkp, hR, List.map_append, List.take_append_of_le_length (by simp), List.take_of_length_le (by simp), List.drop_eq_nil_of_le (by simp; omega), List.append_nil]
  refine AWp.rg [] [] ?_ (hr := by conv => lhs; simp [hRl])
  refine AWp.rg [] [] ?_ (hr := by conv => lhs; simp [hRl])
  rw [hmem]
  refine AWp.ret ?_
  try dsimp only [thenQ, blockQ]
  apply endC.ret
  · rfl
  · conv => lhs; simp [resAV, Tryd.results123]
  · rw [hkp]; rfl
  · simp [moEnd, memGet]

theorem PSpec.toC {P : Program} {k : Nat} {args args' : List AV} {d : D} (hS : PSpec P k args' (fun _ => .d d) none) (o : Nat) {e : TypeId} {sz : Nat} {rows : List (List D)} (he : args.map (AV.frz o (.arr e sz rows)) = args') (hd : d.flat) :
    CSpec P k args [(o, .arr e sz rows)] (.d d) [(o, .arr e sz rows)] := by
  subst he
  refine ⟨hS.ent, fun w ok g vals hM hl hv => ?_⟩
  have hx : moGet [(o, AObj.arr e sz rows)] o = some (.arr e sz rows) := by simp [moGet]
  refine (hS.run 0 w (fun b => ok b ∨ g.bl o = some b) vals hM.giw (fun b hb => ?_) (by simpa using hl) (fun i c v hc hvi => ?_)).mono ?_
  · rcases hb with hb | hb
    · exact (hM.okb b hb).1
    · exact (hM.own o _ b hx hb).2.1
  · rw [List.getElem?_map] at hc
    obtain ⟨c', hc', rfl⟩ := Option.map_eq_some_iff.1 hc
    exact ((hv i c' v hc' hvi).frz hM hx).toNo
  · rintro ex w' ⟨v, ok', g', rfl, hb, hok, hokn, hr, -⟩
    refine ⟨v, ok, g, rfl, ⟨fun i y hy => ?_, hM.inj, fun i y b hy hbi => ?_, fun b h => ?_, hM.okk, hb.size, fun b h _ => hb.block b h, fun _ _ => ⟨rfl, rfl⟩, hb.os, hb.tape, hb.output, hM.gi, hM.gb⟩, ?_⟩
    · have hy' : o = i ∧ AObj.arr e sz rows = y := by
        simp only [moGet] at hy
        split at hy
        · rename_i h; exact ⟨by simpa using h, by simpa using hy⟩
        · cases hy
      obtain ⟨rfl, rfl⟩ := hy'
      refine (hM.obj _ _ hy).mono (fun _ => false) trivial (fun b h => hb.block b (hM.own _ _ b hy h).2.1) rfl rfl (fun p h => hb.cell (hM.okb _ h).1) (fun _ h => h) (fun o x' _ h => ⟨x', h, AObj.like_refl _, rfl, rfl⟩)
    · obtain ⟨h1, h2, h3⟩ := hM.own i y b hy hbi
      exact ⟨h1, by have := hb.size; omega, h3⟩
    · obtain ⟨h1, h2⟩ := hM.okb b h
      exact ⟨by have := hb.size; omega, .inl h⟩
    · cases hr with
      | d _ _ hr => exact .d _ _ (hr.flat hd)
theorem cs_Contains (o : Nat) (l : List ByteArray) (s : ByteArray) (hl : l.length ≤ 8796093022208) : CSpec Tryd.prog 125 [.arr o 0 l.length, .d (.str s)] [(o, .arr 9 1 (l.map strR))] (.d (.bool (hasB l s))) [(o, .arr 9 1 (l.map strR))] :=
  (sp_Contains l s hl).toC o (by simp [AV.frz, frz1, List.take_of_length_le]) trivial
def woN (l gone : List ByteArray) : List ByteArray := l.filter fun s => !hasB gone s
theorem woN_len (l gone : List ByteArray) : (woN l gone).length ≤ l.length := List.length_filter_le _ _
theorem cs_without1 (gone : List ByteArray) (s : ByteArray) (hg : gone.length ≤ 8796093022208) : CSpec Tryd.prog 163 [.d (.str s), .ptr 1000 0] [(1000, .blk 30 [.d (strsD gone)])] (.d (.bool (hasB gone s))) [(1000, .blk 30 [.d (strsD gone)])] := by
  have hc := sp_Contains gone s hg
  refine CSpec.of Tryd.func163 rfl rfl (Nat.le_of_ble_eq_true rfl) ?_
  show AWp _ _ (endC _ Tryd.f163 _ _) (startC 7 _ _)
  repeat (first | refine AWp.seq ?_ | refine AWp.block ?_)
  apply AWp.reg [] []
  · conv => lhs; simp
  · trivial
  repeat (first | refine AWp.seq ?_ | refine AWp.block ?_)
  apply AWp.reg [] [.p (fun _ => .d (.bool (hasB gone s))) none]
  · conv => lhs; simp
  · exact hc
  refine AWp.ret ?_
  try dsimp only [thenQ, blockQ]
  apply endC.ret
  · rfl
  · conv => lhs; simp [resAV, Tryd.results163]
  · rfl
  · simp [moEnd, memGet]
set_option maxHeartbeats 2000000 in
theorem sp_without (l gone : List ByteArray) (hl : l.length ≤ 8796093022208) (hg : gone.length ≤ 8796093022208) : PSpec Tryd.prog 122 [strsAV l, strsAV gone] (fun _ => strsAV (woN l gone)) none := by
  have hcl := sp_Clone l hl
  have hdf := cs_DeleteFunc l hl (hasB gone) 163 30 (strsD gone) (fun s _ => cs_without1 gone s hg)
  rw [show (fun s => !hasB gone s) = fun s => !hasB gone s from rfl] at hdf
  obtain ⟨n, hn⟩ : ∃ n, n = (l.filter fun s => !hasB gone s).length := ⟨_, rfl⟩
  obtain ⟨R, hR⟩ : ∃ R, R = delRows l (hasB gone) := ⟨_, rfl⟩
  have hRn : R.take n = (woN l gone).map strR := by
    rw [hR, hn, delRows, List.take_append_of_le_length (by simp), List.take_of_length_le (by simp), woN]
  have hRl : l.length ≤ R.length := by
    have := List.length_filter_le (fun s => !hasB gone s) l
    rw [hR, delRows]; simp; omega
  rw [← hn, ← hR] at hdf
  refine PSpec.of Tryd.func122 rfl rfl rfl (Nat.le_of_ble_eq_true rfl) ?_
  show AWp _ _ (endQ _ Tryd.f122 _ _ _) (startAS 9 _)
  repeat (first | refine AWp.seq ?_ | refine AWp.block ?_)
  apply AWp.reg [] []
  · conv => lhs; simp
  · trivial
  repeat (first | refine AWp.seq ?_ | refine AWp.block ?_)
  apply AWp.reg [] [.p (fun d => .arr d 0 l.length) (some (.arr 9 1 (l.map strR))), .c [(1000, 3), (1001, 6)] [.arr 1001 0 l.length, .clo 163 [.ptr 1000 0]] [(1000, .blk 30 [.d (strsD gone)]), (1001, .arr 9 1 (l.map strR))] (.arr 1001 0 n) [(1000, .blk 30 [.d (strsD gone)]), (1001, .arr 9 1 R)]]
  · conv => lhs; simp
  · exact ⟨hcl, hdf, hRl⟩
  refine AWp.ret ?_
  try dsimp only [thenQ, blockQ]
  apply endQ.retF [6]
  · rfl
  · conv => lhs; simp
  · conv => lhs; simp [resAV, Tryd.results122]
  simp [resVal, AV.nilD, hRn]
def addN (l more : List ByteArray) : List ByteArray := more.foldl (fun l s => if hasB l s then l else l ++ [s]) l
theorem addN_len (more : List ByteArray) : ∀ l, (addN l more).length ≤ l.length + more.length := by
  induction more with
  | nil => intro l; simp [addN]
  | cons s more ih =>
    intro l
    have := ih (if hasB l s then l else l ++ [s])
    simp only [addN, List.foldl_cons, List.length_cons] at this ⊢
    refine Nat.le_trans this ?_
    split
    · omega
    · simp; omega
theorem addN_snoc {l more : List ByteArray} {i : Nat} {x : ByteArray} (hx : more[i]? = some x) : addN l (more.take (i + 1)) = if hasB (addN l (more.take i)) x then addN l (more.take i) else addN l (more.take i) ++ [x] := by
  rw [List.take_add_one, hx]
  simp only [addN, List.foldl_append, Option.toList_some, List.foldl_cons, List.foldl_nil]
  rfl
set_option maxHeartbeats 2000000 in
theorem cs_add (l more : List ByteArray) (hl : l.length + more.length ≤ 1048576) : CSpec Tryd.prog 121 [.arr 500 0 l.length, strsAV more] [(500, .arr 9 1 (l.map strR))] (.arr 500 0 (addN l more).length) [(500, .arr 9 1 ((addN l more).map strR))] := by
  refine CSpec.of Tryd.func121 rfl rfl (Nat.le_of_ble_eq_true rfl) ?_
  show AWp _ _ (endC _ Tryd.f121 _ _) (startC 23 _ _)
  repeat (first | refine AWp.seq ?_ | refine AWp.block ?_)
  apply AWp.reg [] []
  · conv => lhs; simp
  · trivial
  repeat (first | refine AWp.seq ?_ | refine AWp.block ?_)
  apply AWp.reg [] []
  · conv => lhs; simp
  · trivial
  repeat (first | refine AWp.seq ?_ | refine AWp.block ?_)
  refine AWp.loop (σ := fun u : {i : Nat // i ≤ more.length} => ⟨23, [(0, .arr 500 0 (addN l (more.take u.1)).length), (7, strsAV more), (8, .d (.int more.length)), (9, .d (.int u.1))], [(500, some (.arr 9 1 ((addN l (more.take u.1)).map strR)))]⟩)
    (μ := fun u => more.length - u.1) ⟨0, Nat.zero_le _⟩ (Le.sub (by simp [addN]) (by simp [addN])) (fun ⟨i, hi⟩ => ?_)
  dsimp only
  have hN := addN_len (more.take i) l
  have hti : (more.take i).length = i := by simp; omega
  obtain ⟨L, hL⟩ : ∃ L, L = addN l (more.take i) := ⟨_, rfl⟩
  rw [← hL] at hN ⊢
  repeat (first | refine AWp.seq ?_ | refine AWp.block ?_)
  apply AWp.reg [] []
  · conv => lhs; simp
  · trivial
  repeat (first | refine AWp.seq ?_ | refine AWp.block ?_)
  refine AWp.cond rfl (fun h => ?_) (fun h => ?_)
  · have hi1 : i < more.length := by have := of_decide_eq_true h; omega
    have h1 : more[i]? = some more[i] := List.getElem?_eq_getElem hi1
    generalize more[i] = x at h1
    have hs := addN_snoc (l := l) h1
    rw [← hL] at hs
    have hc := cs_Contains 1001 L x (by omega)
    obtain ⟨B, hB⟩ : ∃ B, B = hasB L x := ⟨_, rfl⟩
    rw [← hB] at hs hc
    refine AWp.skip ?_
    refine AWp.rg [] [] ?_ (hr := by conv => lhs; simp [h1])
    repeat (first | refine AWp.seq ?_ | refine AWp.block ?_)
    apply AWp.reg [] [.c [(1001, 500)] [.arr 1001 0 L.length, .d (.str x)] [(1001, .arr 9 1 (L.map strR))] (.d (.bool B)) [(1001, .arr 9 1 (L.map strR))]]
    · conv => lhs; simp
    · exact hc
    cases B with
    | true =>
      repeat (first | refine AWp.seq ?_ | refine AWp.block ?_)
      refine AWp.cond rfl (fun h2 => ?_) (fun h2 => ?_)
      · simp at h2
      refine AWp.skip ?_
      refine AWp.rg [] [] ?_
      refine ⟨⟨i + 1, hi1⟩, by simp; omega, ?_⟩
      dsimp only
      rw [hs, if_pos rfl]
      exact Le.sub (by simp) (by simp)
    | false =>
      repeat (first | refine AWp.seq ?_ | refine AWp.block ?_)
      refine AWp.cond rfl (fun h2 => ?_) (fun h2 => ?_)
      · refine AWp.rg [] [] ?_
        refine AWp.rg [] [] ?_
        refine ⟨⟨i + 1, hi1⟩, by simp; omega, ?_⟩
        dsimp only
        rw [hs, if_neg (by simp)]
        exact Le.sub (by simp) (by simp)
      · simp at h2
  have hi1 : i = more.length := by have := of_decide_eq_false h; omega
  subst hi1
  rw [List.take_length] at hL
  refine AWp.exit ?_
  repeat (first | refine AWp.seq ?_ | refine AWp.block ?_)
  apply AWp.reg [] []
  · conv => lhs; simp
  · trivial
  refine AWp.ret ?_
  try dsimp only [thenQ, blockQ]
  apply endC.ret
  · rfl
  · conv => lhs; simp [resAV, Tryd.results121]
  · rw [hL]; rfl
  · simp [moEnd, memGet, hL]
end Go.Proofs.YtapiiklnnkkdlaaDoor
