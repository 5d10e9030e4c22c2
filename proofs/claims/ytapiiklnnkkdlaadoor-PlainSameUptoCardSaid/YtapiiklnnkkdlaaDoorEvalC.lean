import Derived.Test.YtapiiklnnkkdlaaDoorScopeC
import Derived.Test.YtapiiklnnkkdlaaDoorFreeD
import Derived.Test.YtapiiklnnkkdlaaDoorNameB
/- Values: copies, sameness, how many nodes, primitives. Printed by walk_eval_a.py. -/
namespace Go.Proofs.YtapiiklnnkkdlaaDoor
open Go.RowKit
attribute [local simp] runD mkRc ldOf stOf stOk ldArg noAny dstOk guardOk opEff opEff0 effOp pureOp callOp zEff evA constAV scalAV Value.oneCell' frGet memGet startAS frOf isGoCall idIn AS.after nextR opnIds objIds AV.ids idsL AObj.ids frNo memNo opnAny isAny mkVal rdCells wrCells fldAddr idxAddr srcRows litRows toD1 toDs setAt sliceAV optI partAV bldAV fillAV binAV binI AV.cells callEff calleeOf frKill memKill AV.kill AObj.kill AV.has AV.hasL Op.operands Call.operands keepF keepM viewIds cChk renOf moGet moWs moQ cEff moLike moHave AV.ren renL AObj.ren AObj.like kept startC moMem AV.frz frz1 frzL frSub memSub frzs AS.frz frFrz memFrz AObj.frz takeMap takeLen bleF Nat.ble_eq memAny objAny mapOp D.keyOk rowAV valRow extOp wrapOp phO frLow memLow memLow1 objLow memEmpty Low LowL
set_option linter.unusedVariables false
set_option linter.unusedSimpArgs false
inductive Vl where
  | mk (con : Bool) (n : Int) (kids : List Vl)
def Vl.con : Vl → Bool | .mk c _ _ => c
def Vl.n : Vl → Int | .mk _ n _ => n
def Vl.kids : Vl → List Vl | .mk _ _ k => k
mutual
def Vl.row : Vl → List D
  | .mk c n ks => [.bool c, .int n, .sl (Vl.rows ks)]
def Vl.rows : List Vl → List (List D)
  | [] => []
  | t :: r => t.row :: Vl.rows r
end
theorem Vl.rows_eq (l : List Vl) : Vl.rows l = l.map Vl.row := by
  induction l with
  | nil => rfl
  | cons t r ih => simp only [Vl.rows, List.map_cons, ih]
mutual
def Vl.sz : Vl → Nat
  | .mk _ _ ks => 1 + Vl.szs ks
def Vl.szs : List Vl → Nat
  | [] => 0
  | t :: r => t.sz + Vl.szs r
end
theorem Vl.szs_mem {t : Vl} : ∀ {l : List Vl}, t ∈ l → t.sz ≤ Vl.szs l
  | [], h => by cases h
  | x :: l, h => by
    simp only [Vl.szs]
    rcases List.mem_cons.1 h with rfl | h
    · omega
    · have := Vl.szs_mem h; omega
mutual
def Vl.Ok : Vl → Prop
  | .mk _ n ks => (-9223372036854775808 ≤ n ∧ n ≤ 9223372036854775807) ∧ ks.length ≤ 3518437208883 ∧ Vl.Oks ks
def Vl.Oks : List Vl → Prop
  | [] => True
  | t :: r => t.Ok ∧ Vl.Oks r
end
theorem Vl.Oks_iff : ∀ {l : List Vl}, Vl.Oks l ↔ ∀ t ∈ l, t.Ok
  | [] => by simp [Vl.Oks]
  | t :: r => by simp [Vl.Oks, Vl.Oks_iff (l := r)]
theorem Vl.Ok.kid {c : Bool} {n : Int} {ks : List Vl} (h : (Vl.mk c n ks).Ok) {x : Vl} (hx : x ∈ ks) : x.Ok := Vl.Oks_iff.1 h.2.2 x hx
theorem Vl.sz_kid {c : Bool} {n : Int} {ks : List Vl} {x : Vl} (hx : x ∈ ks) : x.sz < (Vl.mk c n ks).sz := by
  have := Vl.szs_mem hx
  simp only [Vl.sz]
  omega
abbrev vlCells (c : Bool) (n : Int) (ks : List Vl) : List AV := [.d (.bool c), .d (.int n), .d (.sl (ks.map Vl.row))]
abbrev vlAV : Vl → AV
  | .mk c n ks => .agg [.d (.bool c), .d (.int n), .d (.sl (ks.map Vl.row))]
abbrev vlsAV (l : List Vl) : AV := .d (.sl (l.map Vl.row))
set_option maxRecDepth 20000 in
set_option maxHeartbeats 8000000 in
theorem sp_evOwn_at : ∀ (N : Nat) (t : Vl), t.sz < N → t.Ok → PSpec Tryd.prog 70 [vlAV t] (fun _ => vlAV t) none := by
  intro N
  induction N with
  | zero => intro t h; omega
  | succ N ih =>
  intro t hN hO
  obtain ⟨c, n, ks⟩ := t
  have o2 := hO.2.1
  refine PSpec.of Tryd.func70 rfl rfl rfl (Nat.le_of_ble_eq_true rfl) ?_
  show AWp _ _ (endQ _ Tryd.f70 _ _ _) (startAS 22 _)
  refine AWp.rg [] [] ?_ (hr := by conv => lhs; simp [Vl.row, Vl.rows_eq, vlCells])
  refine AWp.rg [] [] ?_ (hr := by conv => lhs; simp [Vl.row, Vl.rows_eq, vlCells])
  refine AWp.rg [] [] ?_ (hr := by conv => lhs; simp [Vl.row, Vl.rows_eq, vlCells])
  repeat (first | refine AWp.seq ?_ | refine AWp.block ?_)
  refine AWp.le (Le.low [400] [] (fr := [(1, .ptr 1 0), (2, .ptr 2 0), (3, .arr 400 0 0), (7, .d (.sl (ks.map Vl.row))), (8, .d (.int ks.length)), (9, .d (.int 0))]) (mem := [(400, some (.arr 47 3 ((ks.map Vl.row).take 0))), (1, some (.blk 47 (vlCells c n ks))), (2, some (.blk 47 [.d (.bool false), .d (.int 0), .lit (.slice none 0 0)]))]) rfl (by simp [vlCells]) (by simp [vlCells])) ?_
  refine AWp.loop (σ := fun u : {i : Nat // i ≤ ks.length} => ⟨22, [(1, .ptr 1 0), (2, .ptr 2 0), (3, .arr 400 0 u.1), (7, .d (.sl (ks.map Vl.row))), (8, .d (.int ks.length)), (9, .d (.int u.1))], [(400, some (.arr 47 3 ((ks.map Vl.row).take u.1))), (1, some (.blk 47 (vlCells c n ks))), (2, some (.blk 47 [.d (.bool false), .d (.int 0), .lit (.slice none 0 0)]))]⟩)
    (μ := fun u => ks.length - u.1) ⟨0, Nat.zero_le _⟩ (Le.refl _) (fun ⟨i, hi⟩ => ?_)
  dsimp only
  repeat (first | refine AWp.seq ?_ | refine AWp.block ?_)
  apply AWp.reg [] []
  · conv => lhs; simp
  · trivial
  repeat (first | refine AWp.seq ?_ | refine AWp.block ?_)
  refine AWp.cond rfl (fun hci => ?_) (fun hci => ?_)
  · have hi1 : i < ks.length := by have := of_decide_eq_true hci; omega
    have h1y : ks[i]? = some ks[i] := List.getElem?_eq_getElem hi1
    have hmy : ks[i] ∈ ks := List.getElem_mem hi1
    have hdy : ks.drop i = ks[i] :: ks.drop (i + 1) := List.drop_eq_getElem_cons hi1
    generalize ks[i] = y at h1y hmy hdy
    have hp := ih y (by have := Vl.sz_kid (c := c) (n := n) hmy; omega) (hO.kid hmy)
    have ht : (ks.map Vl.row).take (i + 1) = (ks.map Vl.row).take i ++ [y.row] := by rw [List.take_add_one, List.getElem?_map, h1y]; rfl
    have hl : ((ks.map Vl.row).take i).length = i := by simp; omega
    obtain ⟨yc, yn, yk⟩ := y
    refine AWp.skip ?_
    refine AWp.rg [] [] ?_ (hr := by conv => lhs; simp [Vl.row, Vl.rows_eq, h1y])
    refine AWp.rg [] [.p (fun _ => vlAV (.mk yc yn yk)) none] ?_ (hr := by conv => lhs; simp [Vl.row, Vl.rows_eq, h1y])
    refine AWp.rg [] [] ?_ (hr := by conv => lhs; simp [Vl.row, Vl.rows_eq, h1y])
    refine ⟨⟨i + 1, hi1⟩, by simp; omega, ?_⟩
    dsimp only
    rw [ht]
    exact Le.sub (by simp [Nat.min_eq_left hi]) (by simp [vlCells, Vl.row, Vl.rows_eq])
  have hi1 : i = ks.length := by have := of_decide_eq_false hci; omega
  subst hi1
  clear hci
  rw [show (ks.map Vl.row).take ks.length = ks.map Vl.row from List.take_of_length_le (by simp)]
  refine AWp.exit ?_
  refine AWp.rg [] [] ?_ (hr := by conv => lhs; simp [Vl.row, Vl.rows_eq, vlCells])
  refine AWp.rg [] [] ?_ (hr := by conv => lhs; simp [Vl.row, Vl.rows_eq, vlCells])
  refine AWp.ret ?_
  try dsimp only [thenQ, blockQ]
  apply endQ.retF [400]
  · rfl
  · conv => lhs; simp
  · conv => lhs; simp [resAV, Tryd.results70]
  · rfl
theorem sp_evOwn (t : Vl) (h : t.Ok) : PSpec Tryd.prog 70 [vlAV t] (fun _ => vlAV t) none := sp_evOwn_at _ t (Nat.lt_succ_self _) h
set_option maxRecDepth 20000 in
set_option maxHeartbeats 8000000 in
theorem sp_refSameValue_at : ∀ (N : Nat) (s t : Vl), s.sz < N → s.Ok → PSpec Tryd.prog 31 [vlAV s, vlAV t] (fun _ => .d (.bool (eqB s t))) none := by
  intro N
  induction N with
  | zero => intro s t h; omega
  | succ N ih =>
  intro s t hN hO
  obtain ⟨c, n, ks⟩ := s
  obtain ⟨c', n', ks'⟩ := t
  have o2 := hO.2.1
  refine PSpec.of Tryd.func31 rfl rfl rfl (Nat.le_of_ble_eq_true rfl) ?_
  show AWp _ _ (endQ _ Tryd.f31 _ _ _) (startAS 46 _)
  repeat (first | refine AWp.seq ?_ | refine AWp.block ?_)
  apply AWp.reg [] []
  · conv => lhs; simp
  · trivial
  by_cases e1 : c = c'
  rotate_left
  · have e1' : (c == c') = false := by simp [e1]
    refine AWp.rg [] [] ?_ (hr := by conv => lhs; simp [e1', Tryd.underlying4])
    refine AWp.cy ?_
    repeat (first | refine AWp.seq ?_ | refine AWp.block ?_)
    apply AWp.reg [] []
    · conv => lhs; simp
    · trivial
    refine AWp.ret ?_
    try dsimp only [thenQ, blockQ]
    apply endQ.ret
    · rfl
    · conv => lhs; simp [resAV, Tryd.results31]
    · rw [eqB_ne (fun h => e1 (by cases h; rfl))]; rfl
  subst e1
  by_cases e2 : n = n'
  rotate_left
  · refine AWp.rg [] [] ?_ (hr := by conv => lhs; simp [e2, Tryd.underlying4])
    refine AWp.cy ?_
    repeat (first | refine AWp.seq ?_ | refine AWp.block ?_)
    apply AWp.reg [] []
    · conv => lhs; simp
    · trivial
    refine AWp.ret ?_
    try dsimp only [thenQ, blockQ]
    apply endQ.ret
    · rfl
    · conv => lhs; simp [resAV, Tryd.results31]
    · rw [eqB_ne (fun h => e2 (by cases h; rfl))]; rfl
  subst e2
  by_cases e3 : ks.length = ks'.length
  rotate_left
  · have e3' : ¬ ((ks.length : Int) = ks'.length) := by omega
    refine AWp.rg [] [] ?_ (hr := by conv => lhs; simp [e3, e3'])
    refine AWp.cy ?_
    repeat (first | refine AWp.seq ?_ | refine AWp.block ?_)
    apply AWp.reg [] []
    · conv => lhs; simp
    · trivial
    refine AWp.ret ?_
    try dsimp only [thenQ, blockQ]
    apply endQ.ret
    · rfl
    · conv => lhs; simp [resAV, Tryd.results31]
    · rw [eqB_ne (fun h => e3 (by cases h; rfl))]; rfl
  refine AWp.rg [] [] ?_ (hr := by conv => lhs; simp [e3, Tryd.underlying4])
  refine AWp.cn ?_
  refine AWp.skip ?_
  repeat (first | refine AWp.seq ?_ | refine AWp.block ?_)
  apply AWp.reg [] []
  · conv => lhs; simp
  · trivial
  repeat (first | refine AWp.seq ?_ | refine AWp.block ?_)
  refine AWp.loop (σ := fun u : {i : Nat // i ≤ ks.length ∧ ks.take i = ks'.take i} => ⟨46, [(2, .ptr 2 0), (3, .ptr 3 0), (29, .d (.int ks.length)), (30, .d (.int u.1))], [(2, some (.blk 47 (vlCells c n ks))), (3, some (.blk 47 (vlCells c n ks')))]⟩)
    (μ := fun u => ks.length - u.1) ⟨0, Nat.zero_le _, rfl⟩ (Le.sub (by simp [e3]) (by simp [vlCells])) (fun ⟨i, hi, ht⟩ => ?_)
  dsimp only
  try clear h
  repeat (first | refine AWp.seq ?_ | refine AWp.block ?_)
  apply AWp.reg [] []
  · conv => lhs; simp
  · trivial
  repeat (first | refine AWp.seq ?_ | refine AWp.block ?_)
  refine AWp.cond rfl (fun h => ?_) (fun h => ?_)
  · have hi1 : i < ks.length := by have := of_decide_eq_true h; omega
    have h1 : ks[i]? = some ks[i] := List.getElem?_eq_getElem hi1
    have h2 : ks'[i]? = some (ks'[i]'(by omega)) := List.getElem?_eq_getElem (by omega)
    have hmem : ks[i] ∈ ks := List.getElem_mem hi1
    generalize ks[i] = x at h1 hmem
    generalize ks'[i]'(by omega) = y at h2
    have hte := take_eq h1 h2 ht
    have hp := ih x y (by have := Vl.sz_kid (c := c) (n := n) hmem; omega) (hO.kid hmem)
    obtain ⟨B, hB⟩ : ∃ B, B = eqB x y := ⟨_, rfl⟩
    rw [← hB] at hp
    have hBf : B = false → x ≠ y := fun e q => by rw [hB, q, eqB_self] at e; cases e
    have hBt : B = true → x = y := fun e => eqB_iff.1 (by rw [← hB]; exact e)
    have hbad : x ≠ y → eqB (Vl.mk c n ks) (Vl.mk c n ks') = false := fun h => eqB_ne (fun e => take_ne h1 h2 h (by cases e; rfl))
    obtain ⟨xc, xn, xk⟩ := x
    obtain ⟨yc, yn, yk⟩ := y
    refine AWp.skip ?_
    repeat (first | refine AWp.seq ?_ | refine AWp.block ?_)
    apply AWp.reg [] []
    · conv => lhs; simp
    · trivial
    cases B with
    | true =>
      have hxy := hBt rfl
      refine AWp.dw [] [.p (fun _ => .d (.bool true)) none] mixed ?_ (hr := by conv => lhs; simp [h1, h2, Vl.row, Vl.rows_eq, vlCells])
      refine AWp.cn ?_
      refine AWp.skip ?_
      refine AWp.rg [] [] ?_
      refine ⟨⟨i + 1, hi1, hte.2 hxy⟩, by simp; omega, Le.sub (by simp) (by simp [vlCells])⟩
    | false =>
      have hxy := hBf rfl
      refine AWp.dw [] [.p (fun _ => .d (.bool false)) none] mixed ?_ (hr := by conv => lhs; simp [h1, h2, Vl.row, Vl.rows_eq, vlCells])
      refine AWp.cy ?_
      repeat (first | refine AWp.seq ?_ | refine AWp.block ?_)
      apply AWp.reg [] []
      · conv => lhs; simp
      · trivial
      refine AWp.ret ?_
      try dsimp only [thenQ, blockQ]
      apply endQ.ret
      · rfl
      · conv => lhs; simp [resAV, Tryd.results31]
      · rw [hbad hxy]; rfl
  · have hi1 : i = ks.length := by have := of_decide_eq_false h; omega
    subst hi1
    rw [List.take_length, e3, List.take_length] at ht
    subst ht
    refine AWp.exit ?_
    repeat (first | refine AWp.seq ?_ | refine AWp.block ?_)
    apply AWp.reg [] []
    · conv => lhs; simp
    · trivial
    refine AWp.ret ?_
    try dsimp only [thenQ, blockQ]
    apply endQ.ret
    · rfl
    · conv => lhs; simp [resAV, Tryd.results31]
    · rw [eqB_self]; rfl
theorem sp_refSameValue (s t : Vl) (h : s.Ok) : PSpec Tryd.prog 31 [vlAV s, vlAV t] (fun _ => .d (.bool (eqB s t))) none := sp_refSameValue_at _ s t (Nat.lt_succ_self _) h
mutual
def Vl.left : Vl → Int → Int
  | .mk _ _ ks, l => Vl.lefts ks (l - 1)
def Vl.lefts : List Vl → Int → Int
  | [], l => l
  | x :: r, l => Vl.lefts r (if 0 ≤ l then x.left l else l)
end
mutual
theorem Vl.left_lo : ∀ (v : Vl) (l : Int), 0 ≤ l → -1 ≤ v.left l ∧ v.left l ≤ l
  | .mk _ _ ks, l, h => by
    have := Vl.lefts_lo ks (l - 1) (by omega)
    rw [Vl.left]
    omega
theorem Vl.lefts_lo : ∀ (r : List Vl) (l : Int), -1 ≤ l → -1 ≤ Vl.lefts r l ∧ Vl.lefts r l ≤ l
  | [], l, h => by rw [Vl.lefts]; omega
  | x :: r, l, h => by
    rw [Vl.lefts]
    split
    · have h1 := Vl.left_lo x l (by omega)
      have h2 := Vl.lefts_lo r (x.left l) h1.1
      omega
    · exact Vl.lefts_lo r l h
end
theorem Vl.lefts_snoc (l : List Vl) (x : Vl) : ∀ k : Int, Vl.lefts (l ++ [x]) k = if 0 ≤ Vl.lefts l k then x.left (Vl.lefts l k) else Vl.lefts l k := by
  induction l with
  | nil => intro k; rfl
  | cons y r ih => intro k; simp only [List.cons_append, Vl.lefts]; exact ih _
theorem Vl.lefts_take {l : List Vl} {i : Nat} {x : Vl} (hx : l[i]? = some x) (k : Int) : Vl.lefts (l.take (i + 1)) k = if 0 ≤ Vl.lefts (l.take i) k then x.left (Vl.lefts (l.take i) k) else Vl.lefts (l.take i) k := by
  rw [List.take_add_one, hx]
  exact Vl.lefts_snoc _ _ _
abbrev fwObj : AObj := .blk 120 [.clo 112 [.ptr 1000 0, .ptr 1001 0]]
set_option maxRecDepth 20000 in
set_option maxHeartbeats 8000000 in
theorem cs_Few1_at : ∀ (N : Nat) (t : Vl) (m : Int), t.sz < N → t.Ok → 0 ≤ m → m ≤ 1000000 → CSpec Tryd.prog 112 [vlAV t, .ptr 1000 0, .ptr 1001 0] [(1000, .blk 3 [.d (.int m)]), (1001, fwObj)] (.tuple []) [(1000, .blk 3 [.d (.int (t.left m))]), (1001, fwObj)] := by
  intro N
  induction N with
  | zero => intro t m h; omega
  | succ N ih =>
  intro t m hN hO hm0 hm1
  obtain ⟨c, n, ks⟩ := t
  have o2 := hO.2.1
  refine CSpec.of Tryd.func112 rfl rfl (Nat.le_of_ble_eq_true rfl) ?_
  show AWp _ _ (endC _ Tryd.f112 _ _) (startC 21 _ _)
  refine AWp.rg [] [] ?_ (hr := by conv => lhs; simp [Vl.row, Vl.rows_eq, fwObj])
  refine AWp.rg [] [] ?_ (hr := by conv => lhs; simp [Vl.row, Vl.rows_eq, fwObj])
  refine AWp.rg [] [] ?_ (hr := by conv => lhs; simp [Vl.row, Vl.rows_eq, fwObj])
  repeat (first | refine AWp.seq ?_ | refine AWp.block ?_)
  refine AWp.loop (σ := fun u : {i : Nat // i ≤ ks.length} => ⟨21, [(1, .ptr 1000 0), (2, .ptr 1001 0), (9, .d (.sl (ks.map Vl.row))), (10, .d (.int ks.length)), (11, .d (.int u.1))], [(1000, some (.blk 3 [.d (.int (Vl.lefts (ks.take u.1) (m - 1)))])), (1001, some fwObj)]⟩)
    (μ := fun u => ks.length - u.1) ⟨0, Nat.zero_le _⟩ (Le.sub (by simp [Vl.lefts, fwObj]) (by simp [Vl.lefts, fwObj])) (fun ⟨i, hi⟩ => ?_)
  dsimp only
  repeat (first | refine AWp.seq ?_ | refine AWp.block ?_)
  apply AWp.reg [] []
  · conv => lhs; simp
  · trivial
  repeat (first | refine AWp.seq ?_ | refine AWp.block ?_)
  refine AWp.cond rfl (fun hci => ?_) (fun hci => ?_)
  · have hi1 : i < ks.length := by have := of_decide_eq_true hci; omega
    have h1y : ks[i]? = some ks[i] := List.getElem?_eq_getElem hi1
    have hmy : ks[i] ∈ ks := List.getElem_mem hi1
    have hdy : ks.drop i = ks[i] :: ks.drop (i + 1) := List.drop_eq_getElem_cons hi1
    generalize ks[i] = y at h1y hmy hdy
    have hlo := Vl.lefts_lo (ks.take i) (m - 1) (by omega)
    have hst := Vl.lefts_take h1y (m - 1)
    obtain ⟨L, hL⟩ : ∃ L, L = Vl.lefts (ks.take i) (m - 1) := ⟨_, rfl⟩
    rw [← hL] at hlo hst ⊢
    have hp := fun h : 0 ≤ L => ih y L (by have := Vl.sz_kid (c := c) (n := n) hmy; omega) (hO.kid hmy) h (by omega)
    generalize hE : y.left L = E at hp hst
    obtain ⟨yc, yn, yk⟩ := y
    refine AWp.skip ?_
    refine AWp.rg [] [] ?_ (hr := by conv => lhs; simp [Vl.row, Vl.rows_eq, fwObj, h1y])
    by_cases q1 : 0 ≤ L
    · refine AWp.rg [] [] ?_ (hr := by conv => lhs; simp [Vl.row, Vl.rows_eq, fwObj, h1y, q1])
      refine AWp.cy ?_
      have hL0 : 0 ≤ L := by omega
      have hp := hp hL0
      refine AWp.rg [] [.c [] [vlAV (.mk yc yn yk), .ptr 1000 0, .ptr 1001 0] [(1000, .blk 3 [.d (.int L)]), (1001, fwObj)] (.tuple []) [(1000, .blk 3 [.d (.int E)]), (1001, fwObj)]] ?_ (hr := by conv => lhs; simp [Vl.row, Vl.rows_eq, fwObj, h1y, q1])
      refine AWp.rg [] [] ?_ (hr := by conv => lhs; simp [Vl.row, Vl.rows_eq, fwObj, h1y, q1])
      rw [if_pos hL0] at hst
      refine ⟨⟨i + 1, hi1⟩, by simp; omega, ?_⟩
      dsimp only
      rw [hst]
      exact Le.sub (by simp) (by simp [fwObj])
    refine AWp.rg [] [] ?_ (hr := by conv => lhs; simp [Vl.row, Vl.rows_eq, fwObj, h1y, q1])
    refine AWp.cn ?_
    refine AWp.skip ?_
    refine AWp.rg [] [] ?_ (hr := by conv => lhs; simp [Vl.row, Vl.rows_eq, fwObj, h1y, q1])
    rw [if_neg (show ¬ 0 ≤ L by omega)] at hst
    refine ⟨⟨i + 1, hi1⟩, by simp; omega, ?_⟩
    dsimp only
    rw [hst]
    exact Le.sub (by simp) (by simp [fwObj])
  have hi1 : i = ks.length := by have := of_decide_eq_false hci; omega
  subst hi1
  clear hci
  rw [List.take_length]
  refine AWp.exit ?_
  try dsimp only [thenQ, blockQ]
  apply endC.normal
  · rfl
  · conv => lhs; simp [resAV, Tryd.results112]
  · rfl
  · rw [show Vl.left (.mk c n ks) m = Vl.lefts ks (m - 1) from by rw [Vl.left]]
    simp [moEnd, memGet, fwObj]
set_option maxRecDepth 20000 in
set_option maxHeartbeats 8000000 in
theorem sp_Few (t : Vl) (hO : t.Ok) : PSpec Tryd.prog 71 [vlAV t] (fun _ => .d (.bool (decide (0 ≤ t.left 1000)))) none := by
  have h1 := cs_Few1_at _ t 1000 (Nat.lt_succ_self _) hO (by omega) (by omega)
  generalize t.left 1000 = E at h1
  obtain ⟨c, n, ks⟩ := t
  refine PSpec.of Tryd.func71 rfl rfl rfl (Nat.le_of_ble_eq_true rfl) ?_
  show AWp _ _ (endQ _ Tryd.f71 _ _ _) (startAS 11 _)
  repeat (first | refine AWp.seq ?_ | refine AWp.block ?_)
  apply AWp.reg [] []
  · conv => lhs; simp
  · trivial
  repeat (first | refine AWp.seq ?_ | refine AWp.block ?_)
  apply AWp.reg [] []
  · conv => lhs; simp
  · trivial
  repeat (first | refine AWp.seq ?_ | refine AWp.block ?_)
  apply AWp.reg [] []
  · conv => lhs; simp
  · trivial
  repeat (first | refine AWp.seq ?_ | refine AWp.block ?_)
  apply AWp.reg [] []
  · conv => lhs; simp
  · trivial
  refine AWp.rg [] [.c [(1000, 3), (1001, 4)] [vlAV (.mk c n ks), .ptr 1000 0, .ptr 1001 0] [(1000, .blk 3 [.d (.int 1000)]), (1001, fwObj)] (.tuple []) [(1000, .blk 3 [.d (.int E)]), (1001, fwObj)]] ?_ (hr := by conv => lhs; simp [fwObj])
  refine AWp.rg [] [] ?_
  refine AWp.ret ?_
  try dsimp only [thenQ, blockQ]
  apply endQ.ret
  · rfl
  · conv => lhs; simp [resAV, Tryd.results71]
  · rfl
end Go.Proofs.YtapiiklnnkkdlaaDoor

namespace Go.Proofs.YtapiiklnnkkdlaaDoor
open Go.RowKit
attribute [local simp] runD mkRc ldOf stOf stOk ldArg noAny dstOk guardOk opEff opEff0 effOp pureOp callOp zEff evA constAV scalAV Value.oneCell' frGet memGet startAS frOf isGoCall idIn AS.after nextR opnIds objIds AV.ids idsL AObj.ids frNo memNo opnAny isAny mkVal rdCells wrCells fldAddr idxAddr srcRows litRows toD1 toDs setAt sliceAV optI partAV bldAV fillAV binAV binI AV.cells callEff calleeOf frKill memKill AV.kill AObj.kill AV.has AV.hasL Op.operands Call.operands keepF keepM viewIds cChk renOf moGet moWs moQ cEff moLike moHave AV.ren renL AObj.ren AObj.like kept startC moMem AV.frz frz1 frzL frSub memSub frzs AS.frz frFrz memFrz AObj.frz takeMap takeLen bleF Nat.ble_eq memAny objAny mapOp D.keyOk rowAV valRow extOp wrapOp phO
set_option linter.unusedVariables false
set_option linter.unusedSimpArgs false
abbrev Env := List (ByteArray × Vl)
def envGet : Env → ByteArray → Option Vl
  | [], _ => none
  | (x, v) :: r, s => if x = s then some v else envGet r s
abbrev zeroV : Vl := .mk false 0 []
abbrev vlP (v : Vl) : AV := .agg [.d (.bool v.con), .d (.int v.n), .d (.sl (v.kids.map Vl.row))]
def envVal (e : Env) (s : ByteArray) : Vl := (envGet e s).getD zeroV
def envHas (e : Env) (s : ByteArray) : Bool := (envGet e s).isSome
def envD : Env → D
  | [] => .nil
  | (x, v) :: r => .ptr (.str x :: (v.row ++ [envD r]))
theorem envVal_eq {x s : ByteArray} (h : x = s) (v : Vl) (r : Env) : envVal ((x, v) :: r) s = v := by simp [envVal, envGet, h]
theorem envHas_eq {x s : ByteArray} (h : x = s) (v : Vl) (r : Env) : envHas ((x, v) :: r) s = true := by simp [envHas, envGet, h]
theorem envVal_ne {x s : ByteArray} (h : ¬ x = s) (v : Vl) (r : Env) : envVal ((x, v) :: r) s = envVal r s := by simp [envVal, envGet, h]
theorem envHas_ne {x s : ByteArray} (h : ¬ x = s) (v : Vl) (r : Env) : envHas ((x, v) :: r) s = envHas r s := by simp [envHas, envGet, h]
set_option maxRecDepth 20000 in
set_option maxHeartbeats 4000000 in
theorem sp_find (env : Env) (s : ByteArray) : PSpec Tryd.prog 160 [.d (envD env), .d (.str s)] (fun _ => .tuple [vlP (envVal env s), .d (.bool (envHas env s))]) none := by
  refine PSpec.of Tryd.func160 rfl rfl rfl (Nat.le_of_ble_eq_true rfl) ?_
  show AWp _ _ (endQ _ Tryd.f160 _ _ _) (startAS 23 _)
  repeat (first | refine AWp.seq ?_ | refine AWp.block ?_)
  apply AWp.reg [] []
  · conv => lhs; simp
  · trivial
  repeat (first | refine AWp.seq ?_ | refine AWp.block ?_)
  refine AWp.loop (σ := fun u : {e : Env // envVal e s = envVal env s ∧ envHas e s = envHas env s} => ⟨23, [(0, .d (envD u.1)), (1, .d (.str s)), (4, .ptr 4 0)], [(4, some (.blk 47 [.d (.bool false), .d (.int 0), .lit (.slice none 0 0)]))]⟩)
    (μ := fun u => u.1.length) ⟨env, rfl, rfl⟩ (Le.sub (by simp) (by simp)) (fun ⟨e, hv, hh⟩ => ?_)
  dsimp only
  cases e with
  | nil =>
    repeat (first | refine AWp.seq ?_ | refine AWp.block ?_)
    apply AWp.reg [] []
    · conv => lhs; simp [envD]
    · trivial
    refine AWp.cn ?_
    refine AWp.exit ?_
    repeat (first | refine AWp.seq ?_ | refine AWp.block ?_)
    apply AWp.reg [] []
    · conv => lhs; simp
    · trivial
    refine AWp.ret ?_
    try dsimp only [thenQ, blockQ]
    apply endQ.ret
    · rfl
    · conv => lhs; simp [resAV, Tryd.results160]
    · rw [← hv, ← hh]; rfl
  | cons p r =>
    obtain ⟨x, v⟩ := p
    obtain ⟨c, n, ks⟩ := v
    repeat (first | refine AWp.seq ?_ | refine AWp.block ?_)
    apply AWp.reg [] []
    · conv => lhs; simp [envD, Vl.row, Vl.rows_eq]
    · trivial
    refine AWp.cy ?_
    refine AWp.skip ?_
    by_cases hx : x = s
    · rw [envVal_eq hx] at hv
      rw [envHas_eq hx] at hh
      repeat (first | refine AWp.seq ?_ | refine AWp.block ?_)
      apply AWp.reg [] []
      · conv => lhs; simp [envD, Vl.row, Vl.rows_eq, hx]
      · trivial
      refine AWp.cy ?_
      repeat (first | refine AWp.seq ?_ | refine AWp.block ?_)
      apply AWp.reg [] []
      · conv => lhs; simp [envD, Vl.row, Vl.rows_eq, hx]
      · trivial
      refine AWp.ret ?_
      try dsimp only [thenQ, blockQ]
      apply endQ.ret
      · rfl
      · conv => lhs; simp [resAV, Tryd.results160, envD, Vl.row, Vl.rows_eq, hx]
      · rw [← hv, ← hh]; rfl
    · rw [envVal_ne hx] at hv
      rw [envHas_ne hx] at hh
      repeat (first | refine AWp.seq ?_ | refine AWp.block ?_)
      apply AWp.reg [] []
      · conv => lhs; simp [envD, Vl.row, Vl.rows_eq, hx]
      · trivial
      refine AWp.cn ?_
      refine AWp.skip ?_
      repeat (first | refine AWp.seq ?_ | refine AWp.block ?_)
      apply AWp.reg [] []
      · conv => lhs; simp [envD, Vl.row, Vl.rows_eq, hx]
      · trivial
      exact ⟨⟨r, hv, hh⟩, Nat.lt_succ_self _, Le.sub (by simp) (by simp)⟩
abbrev tlObj (l : List Fn) (fuel calls err : Int) : AObj := .blk 84 [fnsAV l, .d (.int fuel), .d (.int calls), .d (.int err)]
theorem cs_fail (l : List Fn) (fuel calls w : Int) : CSpec Tryd.prog 115 [.ptr 1000 0, .d (.int w)] [(1000, tlObj l fuel calls 0)] (vlAV zeroV) [(1000, tlObj l fuel calls w)] := by
  refine CSpec.of Tryd.func115 rfl rfl (Nat.le_of_ble_eq_true rfl) ?_
  show AWp _ _ (endC _ Tryd.f115 _ _) (startC 15 _ _)
  repeat (first | refine AWp.seq ?_ | refine AWp.block ?_)
  apply AWp.reg [] []
  · conv => lhs; simp
  · trivial
  repeat (first | refine AWp.seq ?_ | refine AWp.block ?_)
  apply AWp.reg [] []
  · conv => lhs; simp
  · trivial
  refine AWp.cy ?_
  repeat (first | refine AWp.seq ?_ | refine AWp.block ?_)
  apply AWp.reg [] []
  · conv => lhs; simp
  · trivial
  repeat (first | refine AWp.seq ?_ | refine AWp.block ?_)
  apply AWp.reg [] []
  · conv => lhs; simp
  · trivial
  refine AWp.ret ?_
  try dsimp only [thenQ, blockQ]
  apply endC.ret
  · rfl
  · conv => lhs; simp [resAV, Tryd.results115]
  · rfl
  · simp [moEnd, memGet]
def indexF (l : List Fn) (p : Fn → Bool) : Int := match l.findIdx? p with | some i => i | none => -1
theorem indexF_some {l : List Fn} {p : Fn → Bool} {i : Nat} {x : Fn} (hx : l[i]? = some x) (h : ∀ y ∈ l.take i, p y = false) (hp : p x = true) : indexF l p = i := by
  unfold indexF
  have : l.findIdx? p = some i := by
    rw [List.findIdx?_eq_some_iff_getElem]
    have hi := (List.getElem?_eq_some_iff.1 hx)
    refine ⟨hi.1, by rw [hi.2]; exact hp, fun j hj => ?_⟩
    have hjl : j < l.length := by have := hi.1; omega
    have := h (l[j]'hjl) (List.mem_iff_getElem?.2 ⟨j, by rw [List.getElem?_take, if_pos hj]; exact List.getElem?_eq_getElem hjl⟩)
    simp [this]
  rw [this]
theorem indexF_none {l : List Fn} {p : Fn → Bool} (h : ∀ y ∈ l, p y = false) : indexF l p = -1 := by
  unfold indexF
  have : l.findIdx? p = none := by
    rw [List.findIdx?_eq_none_iff]
    exact h
  rw [this]
theorem takeF_snoc {l : List Fn} {p : Fn → Bool} {i : Nat} {x : Fn} (hx : l[i]? = some x) (h : ∀ y ∈ l.take i, p y = false) (hp : p x = false) : ∀ y ∈ l.take (i + 1), p y = false := by
  rw [List.take_add_one, hx]
  intro y hy
  rcases List.mem_append.1 hy with hy | hy
  · exact h y hy
  · simp at hy; subst hy; exact hp
abbrev fnAVe : Fn → AV
  | ⟨a, ps, .mk k n b c vs xs cs⟩ => .agg [.d (.str a), .d (strsD ps), .d (.int k), .d (.int n), .d (.str b), .d (.str c), .d (strsD vs), .d (.sl (xs.map Tm.row)), .d (.sl (cs.map Cs.row))]
abbrev nbObj (s : ByteArray) : AObj := .blk 9 [.d (.str s)]
theorem cs_callFn (x : Fn) (s : ByteArray) : CSpec Tryd.prog 114 [fnAVe x, .ptr 1000 0] [(1000, nbObj s)] (.d (.bool (eqB x.name s))) [(1000, nbObj s)] := by
  obtain ⟨g, ps, bd⟩ := x
  obtain ⟨xk, xn, xa, xb, xv, xx, xc⟩ := bd
  refine CSpec.of Tryd.func114 rfl rfl (Nat.le_of_ble_eq_true rfl) ?_
  show AWp _ _ (endC _ Tryd.f114 _ _) (startC 8 _ _)
  repeat (first | refine AWp.seq ?_ | refine AWp.block ?_)
  apply AWp.reg [] []
  · conv => lhs; simp
  · trivial
  by_cases h : g = s
  · subst h
    repeat (first | refine AWp.seq ?_ | refine AWp.block ?_)
    apply AWp.reg [] []
    · conv => lhs; simp
    · trivial
    refine AWp.ret ?_
    try dsimp only [thenQ, blockQ]
    apply endC.ret
    · rfl
    · conv => lhs; simp [resAV, Tryd.results114]
    · rw [eqB_self]; rfl
    · simp [moEnd, memGet]
  · repeat (first | refine AWp.seq ?_ | refine AWp.block ?_)
    apply AWp.reg [] []
    · conv => lhs; simp [h]
    · trivial
    refine AWp.ret ?_
    try dsimp only [thenQ, blockQ]
    apply endC.ret
    · rfl
    · conv => lhs; simp [resAV, Tryd.results114]
    · rw [eqB_ne h]; rfl
    · simp [moEnd, memGet]
set_option maxHeartbeats 1000000 in
theorem cs_IndexFn (l : List Fn) (s0 : ByteArray) (hl : l.length ≤ 879609302220) (p : Fn → Bool) (K : Nat) 
    (hk : ∀ s ∈ l, CSpec Tryd.prog K [fnAVe s, .ptr 1000 0] [(1000, nbObj s0)] (.d (.bool (p s))) [(1000, nbObj s0)]) :
    CSpec Tryd.prog 113 [fnsAV l, .clo K [.ptr 1000 0]] [(1000, nbObj s0)] (.d (.int (indexF l p))) [(1000, nbObj s0)] := by
  refine CSpec.of Tryd.func113 rfl rfl (Nat.le_of_ble_eq_true rfl) ?_
  show AWp _ _ (endC _ Tryd.f113 _ _) (startC 19 _ _)
  repeat (first | refine AWp.seq ?_ | refine AWp.block ?_)
  apply AWp.reg [] []
  · conv => lhs; simp
  · trivial
  repeat (first | refine AWp.seq ?_ | refine AWp.block ?_)
  apply AWp.reg [] []
  · conv => lhs; simp
  · trivial
  repeat (first | refine AWp.seq ?_ | refine AWp.block ?_)
  refine AWp.loop (σ := fun u : {i : Nat // i ≤ l.length ∧ ∀ y ∈ l.take i, p y = false} => ⟨19, [(0, fnsAV l), (1, .clo K [.ptr 1000 0]), (7, .d (.int l.length)), (8, .d (.int u.1))], [(1000, some (nbObj s0))]⟩)
    (μ := fun u => l.length - u.1) ⟨0, Nat.zero_le _, by simp⟩ (Le.sub (by simp) (by simp)) (fun ⟨i, hi, ht⟩ => ?_)
  dsimp only
  repeat (first | refine AWp.seq ?_ | refine AWp.block ?_)
  apply AWp.reg [] []
  · conv => lhs; simp
  · trivial
  repeat (first | refine AWp.seq ?_ | refine AWp.block ?_)
  refine AWp.cond rfl (fun h => ?_) (fun h => ?_)
  · have hi1 : i < l.length := by have := of_decide_eq_true h; omega
    have h1 : l[i]? = some l[i] := List.getElem?_eq_getElem hi1
    have hmem : l[i] ∈ l := List.getElem_mem hi1
    generalize l[i] = y at h1 hmem
    have hc := hk y hmem
    obtain ⟨B, hB⟩ : ∃ B, B = p y := ⟨_, rfl⟩
    rw [← hB] at hc
    obtain ⟨g, ps, bd⟩ := y
    obtain ⟨xk, xn, xa, xb, xv, xx, xc⟩ := bd
    refine AWp.skip ?_
    repeat (first | refine AWp.seq ?_ | refine AWp.block ?_)
    apply AWp.reg [] []
    · conv => lhs; simp
    · trivial
    cases B with
    | true =>
      repeat (first | refine AWp.seq ?_ | refine AWp.block ?_)
      apply AWp.reg [] [.c [] [fnAVe ⟨g, ps, .mk xk xn xa xb xv xx xc⟩, .ptr 1000 0] [(1000, nbObj s0)] (.d (.bool true)) [(1000, nbObj s0)]]
      · conv => lhs; simp [h1, Fn.row, Tm.row, Tm.rows_eq, Cs.rows_eq]
      · first | exact hc | exact ⟨by omega, hc⟩
      repeat (first | refine AWp.seq ?_ | refine AWp.block ?_)
      refine AWp.cond rfl (fun h2 => ?_) (fun h2 => ?_)
      · repeat (first | refine AWp.seq ?_ | refine AWp.block ?_)
        apply AWp.reg [] []
        · conv => lhs; simp
        · trivial
        refine AWp.ret ?_
        try dsimp only [thenQ, blockQ]
        apply endC.ret
        · rfl
        · conv => lhs; simp [resAV, Tryd.results113]
        · rw [indexF_some h1 ht hB.symm]; rfl
        · simp [moEnd, memGet]
      · simp at h2
    | false =>
      repeat (first | refine AWp.seq ?_ | refine AWp.block ?_)
      apply AWp.reg [] [.c [] [fnAVe ⟨g, ps, .mk xk xn xa xb xv xx xc⟩, .ptr 1000 0] [(1000, nbObj s0)] (.d (.bool false)) [(1000, nbObj s0)]]
      · conv => lhs; simp [h1, Fn.row, Tm.row, Tm.rows_eq, Cs.rows_eq]
      · first | exact hc | exact ⟨by omega, hc⟩
      repeat (first | refine AWp.seq ?_ | refine AWp.block ?_)
      refine AWp.cond rfl (fun h2 => ?_) (fun h2 => ?_)
      · simp at h2
      refine AWp.skip ?_
      refine AWp.rg [] [] ?_
      refine ⟨⟨i + 1, hi1, takeF_snoc h1 ht hB.symm⟩, by simp; omega, Le.sub (by simp) (by simp)⟩
  have hi1 : i = l.length := by have := of_decide_eq_false h; omega
  subst hi1
  rw [List.take_length] at ht
  refine AWp.exit ?_
  repeat (first | refine AWp.seq ?_ | refine AWp.block ?_)
  apply AWp.reg [] []
  · conv => lhs; simp
  · trivial
  refine AWp.ret ?_
  try dsimp only [thenQ, blockQ]
  apply endC.ret
  · rfl
  · conv => lhs; simp [resAV, Tryd.results113]
  · rw [indexF_none ht]; rfl
  · simp [moEnd, memGet]
def bi (b : Bool) : Int := if b then 1 else 0
def primV (p a b : Int) : Vl × Int :=
  if p = 1 then (.mk false (wr32 (a + b)) [], 0) else if p = 2 then (.mk false (wr32 (a - b)) [], 0) else if p = 3 then (.mk false (wr32 (a * b)) [], 0)
  else if p = 4 then (.mk true (bi (decide (a < b))) [], 0) else if p = 5 then (.mk true (bi (decide (a = b))) [], 0) else (zeroV, 1)
theorem inI_wr32 (n : Int) : -9223372036854775808 ≤ wr32 n ∧ wr32 n ≤ 9223372036854775807 := by have := wr32_in n; omega
theorem sp_Prim1 (b : Bool) : PSpec Tryd.prog 110 [.d (.bool b)] (fun _ => vlAV (.mk true (bi b) [])) none := by
  refine PSpec.of Tryd.func110 rfl rfl rfl (Nat.le_of_ble_eq_true rfl) ?_
  show AWp _ _ (endQ _ Tryd.f110 _ _ _) (startAS 6 _)
  repeat (first | refine AWp.seq ?_ | refine AWp.block ?_)
  apply AWp.reg [] []
  · conv => lhs; simp
  · trivial
  repeat (first | refine AWp.seq ?_ | refine AWp.block ?_)
  apply AWp.reg [] []
  · conv => lhs; simp
  · trivial
  cases b with
  | true =>
    refine AWp.cy ?_
    repeat (first | refine AWp.seq ?_ | refine AWp.block ?_)
    apply AWp.reg [] []
    · conv => lhs; simp
    · trivial
    refine AWp.ret ?_
    try dsimp only [thenQ, blockQ]
    apply endQ.ret
    · rfl
    · conv => lhs; simp [resAV, Tryd.results110]
    · rfl
  | false =>
    refine AWp.cn ?_
    refine AWp.skip ?_
    repeat (first | refine AWp.seq ?_ | refine AWp.block ?_)
    apply AWp.reg [] []
    · conv => lhs; simp
    · trivial
    refine AWp.ret ?_
    try dsimp only [thenQ, blockQ]
    apply endQ.ret
    · rfl
    · conv => lhs; simp [resAV, Tryd.results110]
    · rfl
set_option maxHeartbeats 4000000 in
theorem sp_evPrim (p a b : Int) : PSpec Tryd.prog 68 [.d (.int p), .d (.int a), .d (.int b)] (fun _ => .tuple [vlP (primV p a b).1, .d (.int (primV p a b).2)]) none := by
  refine PSpec.of Tryd.func68 rfl rfl rfl (Nat.le_of_ble_eq_true rfl) ?_
  show AWp _ _ (endQ _ Tryd.f68 _ _ _) (startAS 49 _)
  refine AWp.rg [] [] ?_ (hr := by conv => lhs; simp [wr32_wr])
  refine AWp.rg [] [] ?_ (hr := by conv => lhs; simp [wr32_wr])
  refine AWp.rg [] [] ?_ (hr := by conv => lhs; simp [wr32_wr])
  by_cases q1 : p = 1
  · refine AWp.rg [] [] ?_ (hr := by conv => lhs; simp [wr32_wr, q1])
    refine AWp.cy ?_
    obtain ⟨hI1, hI2⟩ := inI_wr32 (a + b)
    refine AWp.rg [2] [] ?_ (hr := by conv => lhs; simp [wr32_wr, q1])
    refine AWp.ret ?_
    rw [show primV p a b = (.mk false (wr32 (a + b)) [], 0) by simp [primV, q1]]
    try dsimp only [thenQ, blockQ]
    apply endQ.ret
    · rfl
    · conv => lhs; simp [resAV, Tryd.results68, wr32_wr]
    · rfl
  refine AWp.rg [] [] ?_ (hr := by conv => lhs; simp [wr32_wr, q1])
  refine AWp.cn ?_
  by_cases q2 : p = 2
  · refine AWp.rg [] [] ?_ (hr := by conv => lhs; simp [wr32_wr, q1, q2])
    refine AWp.cy ?_
    obtain ⟨hI1, hI2⟩ := inI_wr32 (a - b)
    refine AWp.rg [2] [] ?_ (hr := by conv => lhs; simp [wr32_wr, q1, q2])
    refine AWp.ret ?_
    rw [show primV p a b = (.mk false (wr32 (a - b)) [], 0) by simp [primV, q1, q2]]
    try dsimp only [thenQ, blockQ]
    apply endQ.ret
    · rfl
    · conv => lhs; simp [resAV, Tryd.results68, wr32_wr]
    · rfl
  refine AWp.rg [] [] ?_ (hr := by conv => lhs; simp [wr32_wr, q1, q2])
  refine AWp.cn ?_
  by_cases q3 : p = 3
  · refine AWp.rg [] [] ?_ (hr := by conv => lhs; simp [wr32_wr, q1, q2, q3])
    refine AWp.cy ?_
    obtain ⟨hI1, hI2⟩ := inI_wr32 (a * b)
    refine AWp.rg [2] [] ?_ (hr := by conv => lhs; simp [wr32_wr, q1, q2, q3])
    refine AWp.ret ?_
    rw [show primV p a b = (.mk false (wr32 (a * b)) [], 0) by simp [primV, q1, q2, q3]]
    try dsimp only [thenQ, blockQ]
    apply endQ.ret
    · rfl
    · conv => lhs; simp [resAV, Tryd.results68, wr32_wr]
    · rfl
  refine AWp.rg [] [] ?_ (hr := by conv => lhs; simp [wr32_wr, q1, q2, q3])
  refine AWp.cn ?_
  by_cases q4 : p = 4
  · refine AWp.rg [] [] ?_ (hr := by conv => lhs; simp [wr32_wr, q1, q2, q3, q4])
    refine AWp.cy ?_
    have hq := sp_Prim1 (decide (a < b))
    refine AWp.rg [] [.p (fun _ => vlAV (.mk true (bi (decide (a < b))) [])) none] ?_ (hr := by conv => lhs; simp [wr32_wr, q1, q2, q3, q4])
    refine AWp.ret ?_
    rw [show primV p a b = (.mk true (bi (decide (a < b))) [], 0) by simp [primV, q1, q2, q3, q4]]
    try dsimp only [thenQ, blockQ]
    apply endQ.ret
    · rfl
    · conv => lhs; simp [resAV, Tryd.results68, wr32_wr]
    · rfl
  refine AWp.rg [] [] ?_ (hr := by conv => lhs; simp [wr32_wr, q1, q2, q3, q4])
  refine AWp.cn ?_
  by_cases q5 : p = 5
  · refine AWp.rg [] [] ?_ (hr := by conv => lhs; simp [wr32_wr, q1, q2, q3, q4, q5])
    refine AWp.cy ?_
    have hq := sp_Prim1 (decide (a = b))
    refine AWp.rg [] [.p (fun _ => vlAV (.mk true (bi (decide (a = b))) [])) none] ?_ (hr := by conv => lhs; simp [wr32_wr, q1, q2, q3, q4, q5])
    refine AWp.ret ?_
    rw [show primV p a b = (.mk true (bi (decide (a = b))) [], 0) by simp [primV, q1, q2, q3, q4, q5]]
    try dsimp only [thenQ, blockQ]
    apply endQ.ret
    · rfl
    · conv => lhs; simp [resAV, Tryd.results68, wr32_wr]
    · rfl
  refine AWp.rg [] [] ?_ (hr := by conv => lhs; simp [wr32_wr, q1, q2, q3, q4, q5])
  refine AWp.cn ?_
  refine AWp.skip ?_
  refine AWp.rg [] [] ?_ (hr := by conv => lhs; simp [wr32_wr, q1, q2, q3, q4, q5])
  refine AWp.ret ?_
  rw [show primV p a b = (zeroV, 1) by simp [primV, q1, q2, q3, q4, q5]]
  try dsimp only [thenQ, blockQ]
  apply endQ.ret
  · rfl
  · conv => lhs; simp [resAV, Tryd.results68, wr32_wr]
  · rfl
end Go.Proofs.YtapiiklnnkkdlaaDoor

namespace Go.Proofs.YtapiiklnnkkdlaaDoor
open Go.RowKit
set_option linter.unusedVariables false
set_option linter.unusedSimpArgs false
abbrev Out := Vl × Int × Int
abbrev OutL := List Vl × Int × Int
abbrev CallF := ByteArray → List Vl → Int → Out
def bindE (ws : List ByteArray) (vs : List Vl) (env : Env) : Env := (ws.zip vs).reverse ++ env
def primR (n : Int) (u v : Vl) (fuel : Int) : Out :=
  if (u.con || v.con) = true then (zeroV, fuel, 10) else if (primV n u.n v.n).2 ≠ 0 then (zeroV, fuel, (primV n u.n v.n).2) else ((primV n u.n v.n).1, fuel, 0)
def afterL (g : Bool) (C : CallF) (k n : Int) (a : ByteArray) (o : OutL) (M : Vl → Int → Out) : Out :=
  if k = 3 then ((if g = true ∨ o.2.2 = 0 then .mk true n o.1 else zeroV), o.2.1, o.2.2)
  else if o.2.2 ≠ 0 then (zeroV, o.2.1, o.2.2)
  else if k = 4 then C a o.1 o.2.1
  else if k = 5 then primR n (o.1.getD 0 zeroV) (o.1.getD 1 zeroV) o.2.1
  else if (o.1.getD 0 zeroV).con = true then M (o.1.getD 0 zeroV) o.2.1 else (zeroV, o.2.1, 10)
def consL (v : Vl) (o : OutL) : OutL := (v :: o.1, o.2.1, o.2.2)
mutual
def evT (g : Bool) (C : CallF) : Tm → Env → Int → Out
  | .mk k n a _ _ xs cs, env, fuel =>
    if k = 1 then (envVal env a, fuel, 0) else if k = 2 then (.mk false n [], fuel, 0) else if k = 6 then evLet g C a xs env fuel
    else afterL g C k n a (evL g C xs env fuel) (fun v f => evC g C v cs env f)
def evL (g : Bool) (C : CallF) : List Tm → Env → Int → OutL
  | [], _, fuel => ([], fuel, 0)
  | x :: r, env, fuel => if (evT g C x env fuel).2.2 ≠ 0 then ([(evT g C x env fuel).1], (evT g C x env fuel).2.1, (evT g C x env fuel).2.2)
    else consL (evT g C x env fuel).1 (evL g C r env (evT g C x env fuel).2.1)
def evLet (g : Bool) (C : CallF) (a : ByteArray) : List Tm → Env → Int → Out
  | [], _, fuel => (zeroV, fuel, 0)
  | x :: r, env, fuel => if (evT g C x env fuel).2.2 ≠ 0 then (zeroV, (evT g C x env fuel).2.1, (evT g C x env fuel).2.2) else evIn g C r ((a, (evT g C x env fuel).1) :: env) (evT g C x env fuel).2.1
def evIn (g : Bool) (C : CallF) : List Tm → Env → Int → Out
  | [], _, fuel => (zeroV, fuel, 0)
  | y :: _, env, fuel => evT g C y env fuel
def evC (g : Bool) (C : CallF) (v : Vl) : List Cs → Env → Int → Out
  | [], _, fuel => (zeroV, fuel, 11)
  | c :: r, env, fuel => if c.tag = v.n then (if c.vars.length = v.kids.length then evB g C v c env fuel else (zeroV, fuel, 11)) else evC g C v r env fuel
def evB (g : Bool) (C : CallF) (v : Vl) : Cs → Env → Int → Out
  | .mk _ ws b, env, fuel => evT g C b (bindE ws v.kids env) fuel
end
noncomputable def evCall (g : Bool) (l : List Fn) : Nat → CallF
  | 0, name, vs, fuel => match l.find? (fun x => eqB x.name name) with
    | none => (zeroV, fuel, 6)
    | some x => if x.params.length ≠ vs.length then (zeroV, fuel, 6) else if fuel = 0 then (zeroV, fuel, 12) else (zeroV, fuel, 9)
  | n + 1, name, vs, fuel => match l.find? (fun x => eqB x.name name) with
    | none => (zeroV, fuel, 6)
    | some x => if x.params.length ≠ vs.length then (zeroV, fuel, 6) else if fuel = 0 then (zeroV, fuel, 12) else evT g (evCall g l n) x.body (bindE x.params vs []) (fuel - 1)
mutual
def Vl.Fine : Vl → Prop
  | .mk _ n ks => (-2147483648 ≤ n ∧ n ≤ 2147483647) ∧ ks.length ≤ 6 ∧ Vl.Fines ks
def Vl.Fines : List Vl → Prop
  | [] => True
  | t :: r => t.Fine ∧ Vl.Fines r
end
theorem Vl.Fines_iff : ∀ {l : List Vl}, Vl.Fines l ↔ ∀ t ∈ l, t.Fine
  | [] => by simp [Vl.Fines]
  | t :: r => by simp [Vl.Fines, Vl.Fines_iff (l := r)]
theorem Vl.Fine.ok_at : ∀ (N : Nat) (v : Vl), v.sz < N → v.Fine → v.Ok := by
  intro N
  induction N with
  | zero => intro v h; omega
  | succ N ih =>
  intro v hN h
  obtain ⟨c, n, ks⟩ := v
  exact ⟨⟨by have := h.1.1; omega, by have := h.1.2; omega⟩, by have := h.2.1; omega, Vl.Oks_iff.2 fun x hx => ih x (by have := Vl.sz_kid (c := c) (n := n) hx; omega) (Vl.Fines_iff.1 h.2.2 x hx)⟩
theorem Vl.Fine.ok {v : Vl} (h : v.Fine) : v.Ok := Vl.Fine.ok_at _ v (Nat.lt_succ_self _) h
theorem zeroV_fine : zeroV.Fine := ⟨⟨by omega, by omega⟩, Nat.zero_le _, trivial⟩
theorem primV_fine (p a b : Int) : (primV p a b).1.Fine := by
  have bf : ∀ x : Bool, -2147483648 ≤ bi x ∧ bi x ≤ 2147483647 := fun x => by cases x <;> decide
  have wf : ∀ x : Int, -2147483648 ≤ wr32 x ∧ wr32 x ≤ 2147483647 := wr32_in
  unfold primV
  repeat' split
  · exact ⟨wf _, Nat.zero_le _, trivial⟩
  · exact ⟨wf _, Nat.zero_le _, trivial⟩
  · exact ⟨wf _, Nat.zero_le _, trivial⟩
  · exact ⟨bf _, Nat.zero_le _, trivial⟩
  · exact ⟨bf _, Nat.zero_le _, trivial⟩
  · exact zeroV_fine
def EnvF (env : Env) : Prop := ∀ p ∈ env, p.2.Fine
theorem EnvF.get {s : ByteArray} {v : Vl} : ∀ {env : Env}, EnvF env → envGet env s = some v → v.Fine
  | [], _, h => by cases h
  | (x, u) :: r, hF, h => by
    rw [envGet] at h
    split at h
    · cases h; exact hF _ (List.mem_cons_self ..)
    · exact EnvF.get (fun p hp => hF p (List.mem_cons_of_mem _ hp)) h
theorem EnvF.cons {env : Env} (h : EnvF env) {v : Vl} (hv : v.Fine) (s : ByteArray) : EnvF ((s, v) :: env) := fun p hp => by
  rcases List.mem_cons.1 hp with rfl | hp
  · exact hv
  · exact h p hp
theorem EnvF.bind {env : Env} (h : EnvF env) {vs : List Vl} (hv : ∀ v ∈ vs, v.Fine) (ws : List ByteArray) : EnvF (bindE ws vs env) := fun p hp => by
  unfold bindE at hp
  rcases List.mem_append.1 hp with hp | hp
  · exact hv _ (List.of_mem_zip (List.mem_reverse.1 hp)).2
  · exact h p hp
def CovE (env : Env) (names : List ByteArray) : Prop := ∀ s ∈ names, ∃ v, envGet env s = some v
theorem CovE.cons {env : Env} {names : List ByteArray} (h : CovE env names) (a : ByteArray) (v : Vl) : CovE ((a, v) :: env) (names ++ [a]) := fun s hs => by
  by_cases e : a = s
  · exact ⟨v, by rw [envGet, if_pos e]⟩
  · rcases List.mem_append.1 hs with hs | hs
    · obtain ⟨u, hu⟩ := h s hs
      exact ⟨u, by rw [envGet, if_neg e]; exact hu⟩
    · exact absurd (List.mem_singleton.1 hs).symm e
theorem envGet_append (s : ByteArray) (b : Env) : ∀ a : Env, envGet (a ++ b) s = (envGet a s).or (envGet b s)
  | [] => by simp [envGet]
  | (x, v) :: r => by
    simp only [List.cons_append, envGet]
    split
    · rfl
    · exact envGet_append s b r
theorem envGet_mem {s : ByteArray} : ∀ {a : Env}, s ∈ a.map (·.1) → ∃ v, envGet a s = some v
  | (x, v) :: r, h => by
    by_cases e : x = s
    · exact ⟨v, by rw [envGet, if_pos e]⟩
    · rcases List.mem_cons.1 h with h | h
      · exact absurd h.symm e
      · obtain ⟨u, hu⟩ := envGet_mem h
        exact ⟨u, by rw [envGet, if_neg e]; exact hu⟩
theorem CovE.bind {env : Env} {names ws : List ByteArray} {vs : List Vl} (h : CovE env names) (hl : ws.length = vs.length) : CovE (bindE ws vs env) (names ++ ws) := fun s hs => by
  unfold bindE
  rw [envGet_append]
  by_cases hw : s ∈ ws
  · have : s ∈ ((ws.zip vs).reverse).map (·.1) := by
      rw [List.map_reverse, List.mem_reverse, List.map_fst_zip (by omega)]
      exact hw
    obtain ⟨v, hv⟩ := envGet_mem this
    exact ⟨v, by rw [hv]; rfl⟩
  · rcases List.mem_append.1 hs with hs | hs
    · obtain ⟨v, hv⟩ := h s hs
      cases envGet (ws.zip vs).reverse s with
      | none => exact ⟨v, by rw [hv]; rfl⟩
      | some u => exact ⟨u, rfl⟩
    · exact absurd hs hw
theorem bindE_snoc {ws : List ByteArray} {vs : List Vl} {j : Nat} {x : ByteArray} {v : Vl} (hw : ws[j]? = some x) (hv : vs[j]? = some v) (env : Env) : bindE (ws.take (j + 1)) (vs.take (j + 1)) env = (x, v) :: bindE (ws.take j) (vs.take j) env := by
  unfold bindE
  rw [List.take_add_one, List.take_add_one, hw, hv, List.zip_append]
  · simp
  · have h1 := (List.getElem?_eq_some_iff.1 hw).1
    have h2 := (List.getElem?_eq_some_iff.1 hv).1
    simp
    omega
def CFine (C : CallF) : Prop := ∀ (a : ByteArray) (vs : List Vl) (f : Int), (∀ v ∈ vs, v.Fine) → 0 ≤ f → f ≤ 300 → (C a vs f).1.Fine ∧ 0 ≤ (C a vs f).2.1 ∧ (C a vs f).2.1 ≤ 300
theorem evL_len (g : Bool) (C : CallF) (env : Env) : ∀ (xs : List Tm) (fuel : Int), (evL g C xs env fuel).1.length ≤ xs.length ∧ ((evL g C xs env fuel).2.2 = 0 → (evL g C xs env fuel).1.length = xs.length)
  | [], fuel => by simp [evL]
  | x :: r, fuel => by
    rw [evL]
    split
    · rename_i h; exact ⟨by simp, fun e => absurd e h⟩
    · have := evL_len g C env r (evT g C x env fuel).2.1
      simp only [consL, List.length_cons]
      exact ⟨by omega, fun e => by have := this.2 e; omega⟩
theorem evT_fine {g : Bool} {C : CallF} (hC : CFine C) {A : Arity} : ∀ (N : Nat) (t : Tm) (env : Env) (names : List ByteArray) (deep fuel : Int), t.sz < N → t.wrong A names deep = 0 → EnvF env → 0 ≤ fuel → fuel ≤ 300 →
    (evT g C t env fuel).1.Fine ∧ 0 ≤ (evT g C t env fuel).2.1 ∧ (evT g C t env fuel).2.1 ≤ 300 := by
  intro N
  induction N with
  | zero => intro t _ _ _ _ h; omega
  | succ N ih =>
  intro t env names deep fuel hN hw hF hf0 hf1
  obtain ⟨k, n, a, b, vs, xs, cs⟩ := t
  obtain ⟨h1, h2, h3, h4, h5, h6, h7⟩ := wrong_zero hw
  have hx : ∀ (j : Nat) (x : Tm), xs[j]? = some x → x.sz < N ∧ x.wrong A (if k = 6 ∧ 0 + j = 1 then names ++ [a] else names) (deep + 1) = 0 := fun j x hj =>
    ⟨by have := Tm.sz_arg (k := k) (n := n) (a := a) (b := b) (vs := vs) (cs := cs) (List.mem_of_getElem? hj); omega, wrongs_zero h6 j x hj⟩
  have hn6 := many_six h4 fun h => (h7 h).2.1
  rw [evT]
  by_cases k1 : k = 1
  · rw [if_pos k1]
    refine ⟨?_, hf0, hf1⟩
    show (envVal env a).Fine
    unfold envVal
    cases hg : envGet env a with
    | none => exact zeroV_fine
    | some v => exact hF.get hg
  rw [if_neg k1]
  by_cases k2 : k = 2
  · rw [if_pos k2]
    refine ⟨⟨?_, Nat.zero_le _, trivial⟩, hf0, hf1⟩
    unfold headE at h5
    rw [if_neg k1, if_pos k2] at h5
    split at h5
    · cases h5
    · omega
  rw [if_neg k2]
  by_cases k6 : k = 6
  · rw [if_pos k6]
    match xs with
    | [] => simp only [evLet]; exact ⟨zeroV_fine, hf0, hf1⟩
    | x :: r =>
      rw [evLet]
      obtain ⟨a1, a2⟩ := hx 0 x rfl
      obtain ⟨b1, b2, b3⟩ := ih x env _ _ fuel a1 a2 hF hf0 hf1
      split
      · exact ⟨zeroV_fine, b2, b3⟩
      · match r with
        | [] => simp only [evIn]; exact ⟨zeroV_fine, b2, b3⟩
        | y :: r =>
          rw [evIn]
          obtain ⟨c1, c2⟩ := hx 1 y rfl
          exact ih y _ _ _ _ c1 c2 (hF.cons b1 a) b2 b3
  rw [if_neg k6]
  have hL : ∀ (ys : List Tm) (fuel : Int), (∀ y ∈ ys, y ∈ xs) → 0 ≤ fuel → fuel ≤ 300 → (∀ v ∈ (evL g C ys env fuel).1, v.Fine) ∧ 0 ≤ (evL g C ys env fuel).2.1 ∧ (evL g C ys env fuel).2.1 ≤ 300 := by
    intro ys
    induction ys with
    | nil => intro fuel _ h0 h1; simp only [evL]; exact ⟨(fun v hv => by cases hv), h0, h1⟩
    | cons y r ih2 =>
      intro fuel hm h0 h1
      obtain ⟨j, hj⟩ := List.mem_iff_getElem?.1 (hm y (List.mem_cons_self ..))
      obtain ⟨a1, a2⟩ := hx j y hj
      obtain ⟨b1, b2, b3⟩ := ih y env _ _ fuel a1 a2 hF h0 h1
      rw [evL]
      split
      · exact ⟨fun v hv => by rw [List.mem_singleton.1 hv]; exact b1, b2, b3⟩
      · obtain ⟨c1, c2, c3⟩ := ih2 _ (fun z hz => hm z (List.mem_cons_of_mem _ hz)) b2 b3
        refine ⟨fun v hv => ?_, c2, c3⟩
        rcases List.mem_cons.1 hv with rfl | hv
        · exact b1
        · exact c1 v hv
  obtain ⟨l1, l2, l3⟩ := hL xs fuel (fun y hy => hy) hf0 hf1
  have l4 := evL_len g C env xs fuel
  generalize evL g C xs env fuel = o at l1 l2 l3 l4
  obtain ⟨us, f, e⟩ := o
  dsimp only at l1 l2 l3 l4
  have hget : ∀ i, (us.getD i zeroV).Fine := fun i => by
    rw [List.getD_eq_getElem?_getD]
    cases hu : us[i]? with
    | none => exact zeroV_fine
    | some u => exact l1 u (List.mem_of_getElem? hu)
  unfold afterL
  dsimp only
  by_cases k3 : k = 3
  · rw [if_pos k3]
    refine ⟨?_, l2, l3⟩
    dsimp only
    split
    · refine ⟨?_, by omega, Vl.Fines_iff.2 l1⟩
      unfold headE at h5
      rw [if_neg k1, if_neg k2, if_pos k3] at h5
      split at h5
      · cases h5
      · omega
    · exact zeroV_fine
  rw [if_neg k3]
  split
  · exact ⟨zeroV_fine, l2, l3⟩
  split
  · exact hC _ _ _ l1 l2 l3
  split
  · unfold primR
    split
    · exact ⟨zeroV_fine, l2, l3⟩
    split
    · exact ⟨zeroV_fine, l2, l3⟩
    · exact ⟨primV_fine _ _ _, l2, l3⟩
  split
  rotate_left
  · exact ⟨zeroV_fine, l2, l3⟩
  rename_i k4 k5 hcon
  have h7 := h7 (by omega)
  have hv := hget 0
  generalize us.getD 0 zeroV = v at hv
  have hk : ∀ x ∈ v.kids, x.Fine := by
    obtain ⟨c, m, ks⟩ := v
    exact Vl.Fines_iff.1 hv.2.2
  have hC2 : ∀ (ds : List Cs), (∀ d ∈ ds, d ∈ cs) → (evC g C v ds env f).1.Fine ∧ 0 ≤ (evC g C v ds env f).2.1 ∧ (evC g C v ds env f).2.1 ≤ 300 := by
    intro ds
    induction ds with
    | nil => intro _; simp only [evC]; exact ⟨zeroV_fine, l2, l3⟩
    | cons d r ih2 =>
      intro hm
      rw [evC]
      split
      · split
        · obtain ⟨t, ws, y⟩ := d
          rw [evB]
          have hd := hm _ (List.mem_cons_self ..)
          exact ih y _ _ _ f (by have := Tm.sz_case (k := k) (n := n) (a := a) (b := b) (vs := vs) (xs := xs) hd; omega) (cwrongs_zero h7.2.2 hd).2.2.2.2.2 (hF.bind hk ws) l2 l3
        · exact ⟨zeroV_fine, l2, l3⟩
      · exact ih2 fun z hz => hm z (List.mem_cons_of_mem _ hz)
  exact hC2 cs fun d hd => hd
theorem evCall_fine (g : Bool) {l : List Fn} (hr : ∀ x ∈ l, x.Fit (arOf l)) : ∀ n, CFine (evCall g l n) := by
  intro n
  induction n with
  | zero =>
    intro a vs f hv h0 h1
    rw [evCall]
    split
    · exact ⟨zeroV_fine, h0, h1⟩
    · repeat' split
      all_goals exact ⟨zeroV_fine, h0, h1⟩
  | succ n ih =>
    intro a vs f hv h0 h1
    rw [evCall]
    split
    · exact ⟨zeroV_fine, h0, h1⟩
    · rename_i x hx
      split
      · exact ⟨zeroV_fine, h0, h1⟩
      split
      · exact ⟨zeroV_fine, h0, h1⟩
      · have hm := List.mem_of_find?_eq_some hx
        obtain ⟨dp, hdp⟩ := (hr x hm).wrong
        exact evT_fine ih _ x.body _ x.params dp (f - 1) (Nat.lt_succ_self _) hdp (EnvF.bind (fun p hp => by cases hp) hv _) (by omega) (by omega)
end Go.Proofs.YtapiiklnnkkdlaaDoor
