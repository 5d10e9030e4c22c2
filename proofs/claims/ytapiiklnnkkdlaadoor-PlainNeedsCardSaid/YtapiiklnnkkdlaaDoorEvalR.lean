import Derived.Test.YtapiiklnnkkdlaaDoorTermB
import Derived.Test.YtapiiklnnkkdlaaDoorLookB
import Derived.Test.YtapiiklnnkkdlaaDoorCheckP
import Derived.Test.YtapiiklnnkkdlaaDoorScopeC
import Derived.Test.YtapiiklnnkkdlaaDoorNumA
import Derived.Test.YtapiiklnnkkdlaaDoorClosP
/- Size, of both; xcref1.SameFns, by the abstract machine. Printed by gen_scope_b.py. -/
namespace Go.Proofs.YtapiiklnnkkdlaaDoor
open Go.RowKit
attribute [local simp] runD mkRc ldOf stOf stOk ldArg noAny dstOk guardOk opEff opEff0 effOp pureOp callOp zEff evA constAV scalAV Value.oneCell' frGet memGet startAS frOf isGoCall idIn AS.after nextR opnIds objIds AV.ids idsL AObj.ids frNo memNo opnAny isAny mkVal rdCells wrCells fldAddr idxAddr srcRows litRows toD1 toDs setAt sliceAV optI partAV bldAV fillAV binAV binI AV.cells callEff calleeOf frKill memKill AV.kill AObj.kill AV.has AV.hasL Op.operands Call.operands keepF keepM viewIds cChk renOf moGet moWs moQ cEff moLike moHave AV.ren renL AObj.ren AObj.like kept startC moMem AV.frz frz1 frzL frSub memSub frzs AS.frz frFrz memFrz AObj.frz takeMap takeLen bleF Nat.ble_eq memAny objAny mapOp D.keyOk rowAV valRow extOp wrapOp phO
set_option linter.unusedVariables false
set_option linter.unusedSimpArgs false
theorem wr_sum (a b : Nat) : wr (wr (a : Int) + wr (b : Int)) = wr ((a + b : Nat) : Int) := by rw [wr_add, wr_add']; congr 1
@[simp] theorem wr_one : wr 1 = 1 := rfl
theorem szs_append : ∀ (l r : List Tm), Tm.szs (l ++ r) = Tm.szs l + Tm.szs r
  | [], r => by simp [Tm.szs]
  | x :: l, r => by simp only [List.cons_append, Tm.szs, szs_append l r]; omega
theorem cszs_append : ∀ (l r : List Cs), Cs.szs (l ++ r) = Cs.szs l + Cs.szs r
  | [], r => by simp [Cs.szs]
  | x :: l, r => by simp only [List.cons_append, Cs.szs, cszs_append l r]; omega
theorem szs_snoc (l : List Tm) (x : Tm) : Tm.szs (l ++ (some x).toList) = Tm.szs l + x.sz := by rw [szs_append]; simp [Tm.szs]
theorem cszs_snoc (l : List Cs) (x : Cs) : Cs.szs (l ++ (some x).toList) = Cs.szs l + x.sz := by rw [cszs_append]; simp [Cs.szs]
theorem Tm.szs_take_le (l : List Tm) (i : Nat) : Tm.szs (l.take i) ≤ Tm.szs l := by
  have := szs_append (l.take i) (l.drop i)
  rw [List.take_append_drop] at this
  omega
theorem Cs.szs_take_le (l : List Cs) (i : Nat) : Cs.szs (l.take i) ≤ Cs.szs l := by
  have := cszs_append (l.take i) (l.drop i)
  rw [List.take_append_drop] at this
  omega
def siMem (k n : Int) (a b : ByteArray) (vs : List ByteArray) (xs : List Tm) (cs : List Cs) : List (Nat × Option AObj) :=
  [(1, some (.blk 34 [.d (.int k), .d (.int n), .d (.str a), .d (.str b), .d (strsD vs), .d (.sl (xs.map Tm.row)), .d (.sl (cs.map Cs.row))]))]
set_option maxRecDepth 20000 in
set_option maxHeartbeats 8000000 in
theorem sp_refSize_at : ∀ (N : Nat) (t : Tm), t.sz < N → t.Ok → PSpec Tryd.prog 55 [tmAV t] (fun _ => .d (.int (wr t.sz))) none := by
  intro N
  induction N with
  | zero => intro s h; omega
  | succ N ih =>
  intro t hN hO
  obtain ⟨k, n, a, b, vs, xs, cs⟩ := t
  obtain ⟨o1, o2, o3, o4, o5⟩ := hO.vars
  refine PSpec.of Tryd.func55 rfl rfl rfl (Nat.le_of_ble_eq_true rfl) ?_
  show AWp _ _ (endQ _ Tryd.f55 _ _ _) (startAS 34 _)
  repeat (first | refine AWp.seq ?_ | refine AWp.block ?_)
  apply AWp.reg [] []
  · conv => lhs; simp
  · trivial
  repeat (first | refine AWp.seq ?_ | refine AWp.block ?_)
  apply AWp.reg [] []
  · conv => lhs; simp
  · trivial
  repeat (first | refine AWp.seq ?_ | refine AWp.block ?_)
  apply AWp.reg [] []
  · conv => lhs; simp
  · trivial
  repeat (first | refine AWp.seq ?_ | refine AWp.block ?_)
  refine AWp.loop (σ := fun u : {i : Nat // i ≤ xs.length} => ⟨34, [(1, .ptr 1 0), (3, .d (.int (wr ((1 + Tm.szs (xs.take u.1) : Nat) : Int)))), (9, .d (.sl (xs.map Tm.row))), (10, .d (.int xs.length)), (11, .d (.int u.1))], siMem k n a b vs xs cs⟩)
    (μ := fun u => xs.length - u.1) ⟨0, Nat.zero_le _⟩ (Le.sub (by simp [Tm.szs]) (by simp [siMem])) (fun ⟨i, hi⟩ => ?_)
  dsimp only
  repeat (first | refine AWp.seq ?_ | refine AWp.block ?_)
  apply AWp.reg [] []
  · conv => lhs; simp
  · trivial
  repeat (first | refine AWp.seq ?_ | refine AWp.block ?_)
  refine AWp.cond rfl (fun h => ?_) (fun h => ?_)
  · have hi1 : i < xs.length := by have := of_decide_eq_true h; omega
    have h1 : xs[i]? = some xs[i] := List.getElem?_eq_getElem hi1
    have hmem : xs[i] ∈ xs := List.getElem_mem hi1
    generalize xs[i] = x at h1 hmem
    have hp := ih x (by have := Tm.sz_arg (k := k) (n := n) (a := a) (b := b) (vs := vs) (cs := cs) hmem; omega) (hO.arg hmem)
    have ht : Tm.szs (xs.take (i + 1)) = Tm.szs (xs.take i) + x.sz := by rw [List.take_add_one, h1]; exact szs_snoc _ _
    have hle := Tm.szs_take_le xs (i + 1)
    refine AWp.skip ?_
    generalize x.sz = z at hp ht
    generalize Tm.szs (xs.take i) = y at ht ⊢
    obtain ⟨xk, xn, xa, xb, xv, xx, xc⟩ := x
    refine AWp.rg [] [] ?_ (hr := by conv => lhs; simp [h1, Tm.row, Tm.rows_eq, Cs.rows_eq])
    repeat (first | refine AWp.seq ?_ | refine AWp.block ?_)
    apply AWp.reg [3] [.p (fun _ => .d (.int (wr z))) none]
    · conv => lhs; simp
    · exact hp
    refine AWp.rg [] [] ?_
    refine ⟨⟨i + 1, hi1⟩, by simp; omega, ?_⟩
    dsimp only
    rw [ht]
    have hw : ∀ u v w : Nat, w = u + v → wr (wr (u : Int) + wr (v : Int)) = wr (w : Int) := fun u v w e => by rw [wr_sum, e]
    refine Le.sub ?_ (by simp [siMem])
    simp
    exact hw _ _ _ (by omega)
  have hi1 : i = xs.length := by have := of_decide_eq_false h; omega
  subst hi1
  refine AWp.exit ?_
  rw [List.take_length]
  clear h
  repeat (first | refine AWp.seq ?_ | refine AWp.block ?_)
  apply AWp.reg [] []
  · conv => lhs; simp [siMem]
  · trivial
  repeat (first | refine AWp.seq ?_ | refine AWp.block ?_)
  refine AWp.loop (σ := fun u : {i : Nat // i ≤ cs.length} => ⟨34, [(1, .ptr 1 0), (3, .d (.int (wr ((1 + Tm.szs xs + Cs.szs (cs.take u.1) : Nat) : Int)))), (21, .d (.sl (cs.map Cs.row))), (22, .d (.int cs.length)), (23, .d (.int u.1))], siMem k n a b vs xs cs⟩)
    (μ := fun u => cs.length - u.1) ⟨0, Nat.zero_le _⟩ (Le.sub (by simp [Cs.szs]) (by simp [siMem])) (fun ⟨i, hi⟩ => ?_)
  dsimp only
  repeat (first | refine AWp.seq ?_ | refine AWp.block ?_)
  apply AWp.reg [] []
  · conv => lhs; simp
  · trivial
  repeat (first | refine AWp.seq ?_ | refine AWp.block ?_)
  refine AWp.cond rfl (fun h => ?_) (fun h => ?_)
  · have hi1 : i < cs.length := by have := of_decide_eq_true h; omega
    have h1 : cs[i]? = some cs[i] := List.getElem?_eq_getElem hi1
    have hmem : cs[i] ∈ cs := List.getElem_mem hi1
    generalize cs[i] = x at h1 hmem
    have ht : Cs.szs (cs.take (i + 1)) = Cs.szs (cs.take i) + x.sz := by rw [List.take_add_one, h1]; exact cszs_snoc _ _
    have hle := Cs.szs_take_le cs (i + 1)
    obtain ⟨g, ws, x⟩ := x
    obtain ⟨oc1, oc2⟩ := (hO.case hmem).body
    have hp := ih x (by have := Tm.sz_case (k := k) (n := n) (a := a) (b := b) (vs := vs) (xs := xs) hmem; omega) oc1
    rw [show (Cs.mk g ws x).sz = x.sz from rfl] at ht
    refine AWp.skip ?_
    generalize x.sz = z at hp ht
    generalize Cs.szs (cs.take i) = y at ht ⊢
    obtain ⟨xk, xn, xa, xb, xv, xx, xc⟩ := x
    refine AWp.rg [] [] ?_ (hr := by conv => lhs; simp [h1, Cs.row, Tm.row, Tm.rows_eq, Cs.rows_eq])
    repeat (first | refine AWp.seq ?_ | refine AWp.block ?_)
    apply AWp.reg [4] [.p (fun _ => .d (.int (wr z))) none]
    · conv => lhs; simp
    · exact hp
    refine AWp.rg [] [] ?_
    refine ⟨⟨i + 1, hi1⟩, by simp; omega, ?_⟩
    dsimp only
    rw [ht]
    have hw : ∀ u v w : Nat, w = u + v → wr (wr (u : Int) + wr (v : Int)) = wr (w : Int) := fun u v w e => by rw [wr_sum, e]
    refine Le.sub ?_ (by simp [siMem])
    simp
    exact hw _ _ _ (by omega)
  have hi1 : i = cs.length := by have := of_decide_eq_false h; omega
  subst hi1
  refine AWp.exit ?_
  rw [List.take_length]
  repeat (first | refine AWp.seq ?_ | refine AWp.block ?_)
  apply AWp.reg [] []
  · conv => lhs; simp
  · trivial
  refine AWp.ret ?_
  try dsimp only [thenQ, blockQ]
  apply endQ.ret
  · rfl
  · conv => lhs; simp [resAV, Tryd.results55]
  rfl
theorem sp_refSize (t : Tm) (h : t.Ok) : PSpec Tryd.prog 55 [tmAV t] (fun _ => .d (.int (wr t.sz))) none := sp_refSize_at _ t (Nat.lt_succ_self _) h
set_option maxRecDepth 20000 in
set_option maxHeartbeats 8000000 in
theorem sp_SameFns (a b : List Fn) (ha : a.length ≤ 879609302220) (hf : ∀ f ∈ a, f.body.Ok ∧ f.params.length ≤ 8796093022207) : PSpec Tryd.prog 19 [fnsAV a, fnsAV b] (fun _ => .d (.bool (eqB a b))) none := by
  refine PSpec.of Tryd.func19 rfl rfl rfl (Nat.le_of_ble_eq_true rfl) ?_
  show AWp _ _ (endQ _ Tryd.f19 _ _ _) (startAS 56 _)
  repeat (first | refine AWp.seq ?_ | refine AWp.block ?_)
  apply AWp.reg [] []
  · conv => lhs; simp
  · trivial
  by_cases hl : a.length = b.length
  rotate_left
  · have hl' : ¬ ((a.length : Int) = b.length) := by omega
    repeat (first | refine AWp.seq ?_ | refine AWp.block ?_)
    apply AWp.reg [] []
    · conv => lhs; simp [hl, hl']
    · trivial
    repeat (first | refine AWp.seq ?_ | refine AWp.block ?_)
    refine AWp.cond rfl (fun h => ?_) (fun h => ?_)
    · repeat (first | refine AWp.seq ?_ | refine AWp.block ?_)
      apply AWp.reg [] []
      · conv => lhs; simp
      · trivial
      refine AWp.ret ?_
      try dsimp only [thenQ, blockQ]
      apply endQ.ret
      · rfl
      · conv => lhs; simp [resAV, Tryd.results19]
      rw [eqB_ne (fun e => hl (by rw [e]))]; rfl
    · cases h
  repeat (first | refine AWp.seq ?_ | refine AWp.block ?_)
  apply AWp.reg [] []
  · conv => lhs; simp [hl]
  · trivial
  refine AWp.cn ?_
  refine AWp.skip ?_
  repeat (first | refine AWp.seq ?_ | refine AWp.block ?_)
  apply AWp.reg [] []
  · conv => lhs; simp
  · trivial
  repeat (first | refine AWp.seq ?_ | refine AWp.block ?_)
  refine AWp.loop (σ := fun u : {i : Nat // i ≤ a.length ∧ a.take i = b.take i} => ⟨56, [(0, fnsAV a), (1, fnsAV b), (12, .d (.int a.length)), (13, .d (.int u.1))], []⟩)
    (μ := fun u => a.length - u.1) ⟨0, Nat.zero_le _, rfl⟩ (Le.sub (by simp [hl]) (by simp)) (fun ⟨i, hi, ht⟩ => ?_)
  dsimp only
  repeat (first | refine AWp.seq ?_ | refine AWp.block ?_)
  apply AWp.reg [] []
  · conv => lhs; simp
  · trivial
  repeat (first | refine AWp.seq ?_ | refine AWp.block ?_)
  refine AWp.cond rfl (fun h => ?_) (fun h => ?_)
  · have hi1 : i < a.length := by have := of_decide_eq_true h; omega
    have h1 : a[i]? = some a[i] := List.getElem?_eq_getElem hi1
    have h2 : b[i]? = some (b[i]'(by omega)) := List.getElem?_eq_getElem (by omega)
    have hmem : a[i] ∈ a := List.getElem_mem hi1
    generalize a[i] = x at h1 hmem
    generalize b[i]'(by omega) = y at h2
    have hte := take_eq h1 h2 ht
    obtain ⟨q1, q2⟩ := hf x hmem
    obtain ⟨g, ws, x⟩ := x
    obtain ⟨g', ws', y⟩ := y
    dsimp only at q1 q2
    have hp := sp_refSame x y q1
    have hws := sp_SameNames ws ws' (by omega)
    have hbad : (g ≠ g' ∨ ws ≠ ws' ∨ x ≠ y) → eqB a b = false := fun h => eqB_ne (take_ne h1 h2 (by
      intro e
      cases e
      simp at h))
    obtain ⟨B, hB⟩ : ∃ B, B = eqB x y := ⟨_, rfl⟩
    rw [← hB] at hp
    have hBf : B = false → x ≠ y := fun e q => by rw [hB, q, eqB_self] at e; cases e
    have hBt : B = true → x = y := fun e => eqB_iff.1 (by rw [← hB]; exact e)
    obtain ⟨_, _, _, _, _, _, _⟩ := x
    obtain ⟨_, _, _, _, _, _, _⟩ := y
    refine AWp.skip ?_
    repeat (first | refine AWp.seq ?_ | refine AWp.block ?_)
    apply AWp.reg [] []
    · conv => lhs; simp
    · trivial
    by_cases e8 : g = g'
    rotate_left
    · refine AWp.dw [] [] mixed ?_ (hr := by conv => lhs; simp [h1, h2, e8, Fn.row, Tm.row, Tm.rows_eq, Cs.rows_eq])
      repeat (first | refine AWp.seq ?_ | refine AWp.block ?_)
      refine AWp.cond rfl (fun h3 => ?_) (fun h3 => ?_)
      · repeat (first | refine AWp.seq ?_ | refine AWp.block ?_)
        apply AWp.reg [] []
        · conv => lhs; simp
        · trivial
        refine AWp.ret ?_
        try dsimp only [thenQ, blockQ]
        apply endQ.ret
        · rfl
        · conv => lhs; simp [resAV, Tryd.results19]
        rw [hbad (.inl e8)]; rfl
      · simp at h3
    subst e8
    by_cases e9 : ws = ws'
    rotate_left
    · rw [eqB_ne e9] at hws
      repeat (first | refine AWp.seq ?_ | refine AWp.block ?_)
      apply AWp.draw [] [.p (fun _ => .d (.bool false)) none] mixed
      · conv => lhs; simp [h1, h2, Fn.row, Tm.row, Tm.rows_eq, Cs.rows_eq]
      · kernel_rfl
      · exact hws
      repeat (first | refine AWp.seq ?_ | refine AWp.block ?_)
      refine AWp.cond rfl (fun h3 => ?_) (fun h3 => ?_)
      · repeat (first | refine AWp.seq ?_ | refine AWp.block ?_)
        apply AWp.reg [] []
        · conv => lhs; simp
        · trivial
        refine AWp.ret ?_
        try dsimp only [thenQ, blockQ]
        apply endQ.ret
        · rfl
        · conv => lhs; simp [resAV, Tryd.results19]
        rw [hbad (.inr (.inl e9))]; rfl
      · simp at h3
    subst e9
    rw [eqB_self] at hws
    cases B with
    | true =>
      have hxy := hBt rfl
      repeat (first | refine AWp.seq ?_ | refine AWp.block ?_)
      apply AWp.draw [] [.p (fun _ => .d (.bool true)) none, .p (fun _ => .d (.bool true)) none] mixed
      · conv => lhs; simp [h1, h2, Fn.row, Tm.row, Tm.rows_eq, Cs.rows_eq]
      · kernel_rfl
      · exact ⟨hws, hp⟩
      repeat (first | refine AWp.seq ?_ | refine AWp.block ?_)
      refine AWp.cond rfl (fun h3 => ?_) (fun h3 => ?_)
      · simp at h3
      refine AWp.skip ?_
      refine AWp.rg [] [] ?_
      refine ⟨⟨i + 1, hi1, hte.2 (by rw [hxy])⟩, by simp; omega, Le.sub (by simp) (by simp)⟩
    | false =>
      have hxy := hBf rfl
      repeat (first | refine AWp.seq ?_ | refine AWp.block ?_)
      apply AWp.draw [] [.p (fun _ => .d (.bool true)) none, .p (fun _ => .d (.bool false)) none] mixed
      · conv => lhs; simp [h1, h2, Fn.row, Tm.row, Tm.rows_eq, Cs.rows_eq]
      · kernel_rfl
      · exact ⟨hws, hp⟩
      repeat (first | refine AWp.seq ?_ | refine AWp.block ?_)
      refine AWp.cond rfl (fun h3 => ?_) (fun h3 => ?_)
      · repeat (first | refine AWp.seq ?_ | refine AWp.block ?_)
        apply AWp.reg [] []
        · conv => lhs; simp
        · trivial
        refine AWp.ret ?_
        try dsimp only [thenQ, blockQ]
        apply endQ.ret
        · rfl
        · conv => lhs; simp [resAV, Tryd.results19]
        rw [hbad (.inr (.inr hxy))]; rfl
      · simp at h3
  · have hi1 : i = a.length := by have := of_decide_eq_false h; omega
    subst hi1
    rw [List.take_length, hl, List.take_length] at ht
    subst ht
    refine AWp.exit ?_
    repeat (first | refine AWp.seq ?_ | refine AWp.block ?_)
    apply AWp.reg [] []
    · conv => lhs; simp
    · trivial
    refine AWp.ret ?_
    try dsimp only [thenQ, blockQ]
    apply endQ.ret
    · rfl
    · conv => lhs; simp [resAV, Tryd.results19]
    rw [eqB_self]; rfl

theorem arD_put {f : Arity} {g : ByteArray} {n : Nat} (h : f.get g = none) : D.aput (.str g) [.int n] (arD f) = arD ((g, n) :: f) := by
  unfold D.aput
  rw [D.adel_all]
  · rfl
  · intro p hp
    unfold arD at hp
    obtain ⟨t, ht, rfl⟩ := List.mem_map.1 hp
    intro e
    simp only [D.str.injEq] at e
    subst e
    unfold Arity.get at h
    rw [Option.map_eq_none_iff, List.find?_eq_none] at h
    have := h t ht
    simp at this
set_option maxRecDepth 20000 in
set_option maxHeartbeats 16000000 in
theorem sp_refCheck (l : List Fn) (hl : FnsOk l) : PSpec Tryd.prog 16 [fnsAV l] (fun _ => .d (.int (checkE l))) none := by
  have hll := hl.len
  obtain ⟨C, hC⟩ : ∃ C : Int, (l.length : Int) = C := ⟨_, rfl⟩
  refine PSpec.of Tryd.func16 rfl rfl rfl (Nat.le_of_ble_eq_true rfl) ?_
  show AWp _ _ (endQ _ Tryd.f16 _ _ _) (startAS 81 _)
  refine AWp.rg [] [] ?_ (hr := by conv => lhs; simp [hC, Fn.row, Tm.row, Tm.rows_eq, Cs.rows_eq])
  by_cases q1 : C = 0
  · refine AWp.rg [] [] ?_ (hr := by conv => lhs; simp [hC, Fn.row, Tm.row, Tm.rows_eq, Cs.rows_eq, q1])
    refine AWp.cy ?_
    refine AWp.rg [] [] ?_ (hr := by conv => lhs; simp [hC, Fn.row, Tm.row, Tm.rows_eq, Cs.rows_eq, q1])
    refine AWp.ret ?_
    try dsimp only [thenQ, blockQ]
    apply endQ.ret
    · rfl
    · conv => lhs; simp [resAV, Tryd.results16]
    · rw [checkE, if_pos (show l.length = 0 ∨ 6 < l.length by omega)]; rfl
  by_cases q2 : 6 < C
  · refine AWp.rg [] [] ?_ (hr := by conv => lhs; simp [hC, Fn.row, Tm.row, Tm.rows_eq, Cs.rows_eq, q1, q2])
    refine AWp.cy ?_
    refine AWp.rg [] [] ?_ (hr := by conv => lhs; simp [hC, Fn.row, Tm.row, Tm.rows_eq, Cs.rows_eq, q1, q2])
    refine AWp.ret ?_
    try dsimp only [thenQ, blockQ]
    apply endQ.ret
    · rfl
    · conv => lhs; simp [resAV, Tryd.results16]
    · rw [checkE, if_pos (show l.length = 0 ∨ 6 < l.length by omega)]; rfl
  refine AWp.rg [] [] ?_ (hr := by conv => lhs; simp [hC, Fn.row, Tm.row, Tm.rows_eq, Cs.rows_eq, q1, q2])
  refine AWp.cn ?_
  refine AWp.skip ?_
  have hlen : ¬ (l.length = 0 ∨ 6 < l.length) := by omega
  refine AWp.rg [] [] ?_ (hr := by conv => lhs; simp [hC, Fn.row, Tm.row, Tm.rows_eq, Cs.rows_eq, q1, q2])
  refine AWp.rg [] [] ?_ (hr := by conv => lhs; simp [hC, Fn.row, Tm.row, Tm.rows_eq, Cs.rows_eq, q1, q2])
  repeat (first | refine AWp.seq ?_ | refine AWp.block ?_)
  refine AWp.loop (σ := fun u : {i : Nat // i ≤ l.length ∧ headsE [] l = headsE (arOf (l.take i)) (l.drop i)} => ⟨81, [(0, fnsAV l), (3, .mp 19), (20, fnsAV l), (21, .d (.int l.length)), (22, .d (.int u.1))], [(19, some (wrObj (arOf (l.take u.1))))]⟩)
    (μ := fun u => l.length - u.1) ⟨0, Nat.zero_le _, rfl⟩ (Le.sub (by simp [arOf, wrObj, arD, hC, nmObj]) (by simp [arOf, wrObj, arD, hC, nmObj])) (fun ⟨i, hi, hwi⟩ => ?_)
  dsimp only
  repeat (first | refine AWp.seq ?_ | refine AWp.block ?_)
  apply AWp.reg [] []
  · conv => lhs; simp
  · trivial
  repeat (first | refine AWp.seq ?_ | refine AWp.block ?_)
  refine AWp.cond rfl (fun hci => ?_) (fun hci => ?_)
  · have hi1 : i < l.length := by have := of_decide_eq_true hci; omega
    have h1c : l[i]? = some l[i] := List.getElem?_eq_getElem hi1
    have hmc : l[i] ∈ l := List.getElem_mem hi1
    have hdc : l.drop i = l[i] :: l.drop (i + 1) := List.drop_eq_getElem_cons hi1
    generalize l[i] = c at h1c hmc hdc
    obtain ⟨g, ps, bd⟩ := c
    have hsn : arOf (l.take (i + 1)) = (g, ps.length) :: arOf (l.take i) := by rw [List.take_add_one, h1c]; exact arOf_snoc _ _
    obtain ⟨o1, o2, o3, o4⟩ := hl.all _ hmc
    dsimp only at o1 o2 o3 o4
    rw [hdc] at hwi
    simp only [headsE] at hwi
    rw [← hsn] at hwi
    obtain ⟨f, hf⟩ : ∃ f, f = arOf (l.take i) := ⟨_, rfl⟩
    rw [← hf] at hwi hsn ⊢
    obtain ⟨E, hE⟩ : ∃ E, E = Fn.headE f ⟨g, ps, bd⟩ := ⟨_, rfl⟩
    rw [← hE] at hwi
    simp only [Fn.headE] at hE
    have hNm := sp_Name g (by omega)
    have hTw := sp_twice ps (by omega)
    have hBd := sp_bad ps (by omega) (fun s hs => by have := o3 s hs; omega)
    have hSz := sp_refSize bd o4
    obtain ⟨S, hS⟩ : ∃ S, S = wr bd.sz := ⟨_, rfl⟩
    rw [← hS] at hSz hE
    obtain ⟨B, hB⟩ : ∃ B : Int, (ps.length : Int) = B := ⟨_, rfl⟩
    obtain ⟨xk, xn, xa, xb, xv, xx, xc⟩ := bd
    refine AWp.skip ?_
    refine AWp.rg [] [] ?_ (hr := by conv => lhs; simp [hC, Fn.row, Tm.row, Tm.rows_eq, Cs.rows_eq, h1c, hB, q1, q2])
    cases hg : f.get g with
    | some m =>
      refine AWp.rg [] [] ?_ (hr := by conv => lhs; simp [hC, Fn.row, Tm.row, Tm.rows_eq, Cs.rows_eq, h1c, hB, arD_get, hg, q1, q2])
      refine AWp.rg [] [] ?_ (hr := by conv => lhs; simp [hC, Fn.row, Tm.row, Tm.rows_eq, Cs.rows_eq, h1c, hB, arD_get, hg, q1, q2])
      refine AWp.cy ?_
      refine AWp.rg [] [] ?_ (hr := by conv => lhs; simp [hC, Fn.row, Tm.row, Tm.rows_eq, Cs.rows_eq, h1c, hB, arD_get, hg, q1, q2])
      refine AWp.ret ?_
      rw [if_pos (by simp [hg])] at hE
      rw [if_pos (by omega)] at hwi
      try dsimp only [thenQ, blockQ]
      apply endQ.ret
      · rfl
      · conv => lhs; simp [resAV, Tryd.results16]
      · rw [checkE, if_neg hlen, hwi, if_pos (by omega), hE]; rfl
    | none =>
      refine AWp.rg [] [] ?_ (hr := by conv => lhs; simp [hC, Fn.row, Tm.row, Tm.rows_eq, Cs.rows_eq, h1c, hB, arD_get, hg, q1, q2])
      cases q3 : nameB g with
      | true =>
        rw [q3] at hNm
        cases q4 : twB ps with
        | true =>
          rw [q4] at hTw
          refine AWp.rg [] [.p (fun _ => .d (.bool true)) none, .p (fun _ => .d (.bool true)) none] ?_ (hr := by conv => lhs; simp [hC, Fn.row, Tm.row, Tm.rows_eq, Cs.rows_eq, h1c, hB, arD_get, hg, q3, q4, q1, q2])
          refine AWp.cy ?_
          refine AWp.rg [] [] ?_ (hr := by conv => lhs; simp [hC, Fn.row, Tm.row, Tm.rows_eq, Cs.rows_eq, h1c, hB, arD_get, hg, q3, q4, q1, q2])
          refine AWp.ret ?_
          rw [if_pos (by simp [hg, q3, q4])] at hE
          rw [if_pos (by omega)] at hwi
          try dsimp only [thenQ, blockQ]
          apply endQ.ret
          · rfl
          · conv => lhs; simp [resAV, Tryd.results16]
          · rw [checkE, if_neg hlen, hwi, if_pos (by omega), hE]; rfl
        | false =>
          rw [q4] at hTw
          cases q5 : badB ps with
          | true =>
            rw [q5] at hBd
            refine AWp.rg [] [.p (fun _ => .d (.bool true)) none, .p (fun _ => .d (.bool false)) none, .p (fun _ => .d (.bool true)) none] ?_ (hr := by conv => lhs; simp [hC, Fn.row, Tm.row, Tm.rows_eq, Cs.rows_eq, h1c, hB, arD_get, hg, q3, q4, q5, q1, q2])
            refine AWp.cy ?_
            refine AWp.rg [] [] ?_ (hr := by conv => lhs; simp [hC, Fn.row, Tm.row, Tm.rows_eq, Cs.rows_eq, h1c, hB, arD_get, hg, q3, q4, q5, q1, q2])
            refine AWp.ret ?_
            rw [if_pos (by simp [hg, q3, q4, q5])] at hE
            rw [if_pos (by omega)] at hwi
            try dsimp only [thenQ, blockQ]
            apply endQ.ret
            · rfl
            · conv => lhs; simp [resAV, Tryd.results16]
            · rw [checkE, if_neg hlen, hwi, if_pos (by omega), hE]; rfl
          | false =>
            rw [q5] at hBd
            refine AWp.rg [] [.p (fun _ => .d (.bool true)) none, .p (fun _ => .d (.bool false)) none, .p (fun _ => .d (.bool false)) none] ?_ (hr := by conv => lhs; simp [hC, Fn.row, Tm.row, Tm.rows_eq, Cs.rows_eq, h1c, hB, arD_get, hg, q3, q4, q5, q1, q2])
            refine AWp.cn ?_
            refine AWp.skip ?_
            by_cases q6 : 6 < B
            · refine AWp.rg [] [] ?_ (hr := by conv => lhs; simp [hC, Fn.row, Tm.row, Tm.rows_eq, Cs.rows_eq, h1c, hB, arD_get, hg, q3, q4, q5, q1, q2, q6])
              refine AWp.cy ?_
              refine AWp.rg [] [] ?_ (hr := by conv => lhs; simp [hC, Fn.row, Tm.row, Tm.rows_eq, Cs.rows_eq, h1c, hB, arD_get, hg, q3, q4, q5, q1, q2, q6])
              refine AWp.ret ?_
              rw [if_neg (by simp [hg, q3, q4, q5]), if_pos (show 6 < ps.length by omega)] at hE
              rw [if_pos (by omega)] at hwi
              try dsimp only [thenQ, blockQ]
              apply endQ.ret
              · rfl
              · conv => lhs; simp [resAV, Tryd.results16]
              · rw [checkE, if_neg hlen, hwi, if_pos (by omega), hE]; rfl
            refine AWp.rg [] [] ?_ (hr := by conv => lhs; simp [hC, Fn.row, Tm.row, Tm.rows_eq, Cs.rows_eq, h1c, hB, arD_get, hg, q3, q4, q5, q1, q2, q6])
            refine AWp.cn ?_
            refine AWp.skip ?_
            by_cases q7 : 400 < S
            · refine AWp.rg [] [.p (fun _ => .d (.int S)) none] ?_ (hr := by conv => lhs; simp [hC, Fn.row, Tm.row, Tm.rows_eq, Cs.rows_eq, h1c, hB, arD_get, hg, q3, q4, q5, q1, q2, q6, q7])
              refine AWp.cy ?_
              refine AWp.rg [] [] ?_ (hr := by conv => lhs; simp [hC, Fn.row, Tm.row, Tm.rows_eq, Cs.rows_eq, h1c, hB, arD_get, hg, q3, q4, q5, q1, q2, q6, q7])
              refine AWp.ret ?_
              rw [if_neg (by simp [hg, q3, q4, q5]), if_neg (show ¬ 6 < ps.length by omega), if_pos (show 400 < S by omega)] at hE
              rw [if_pos (by omega)] at hwi
              try dsimp only [thenQ, blockQ]
              apply endQ.ret
              · rfl
              · conv => lhs; simp [resAV, Tryd.results16]
              · rw [checkE, if_neg hlen, hwi, if_pos (by omega), hE]; rfl
            refine AWp.rg [] [.p (fun _ => .d (.int S)) none] ?_ (hr := by conv => lhs; simp [hC, Fn.row, Tm.row, Tm.rows_eq, Cs.rows_eq, h1c, hB, arD_get, hg, q3, q4, q5, q1, q2, q6, q7])
            refine AWp.cn ?_
            refine AWp.skip ?_
            rw [if_neg (by simp [hg, q3, q4, q5]), if_neg (show ¬ 6 < ps.length by omega), if_neg (show ¬ 400 < S by omega)] at hE
            rw [if_neg (show ¬ (E ≠ 0) by omega)] at hwi
            have hput : D.aput (.str g) [.int B] (arD f) = arD ((g, ps.length) :: f) := by rw [← hB]; exact arD_put hg
            refine AWp.rg [] [] ?_ (hr := by conv => lhs; simp [hC, Fn.row, Tm.row, Tm.rows_eq, Cs.rows_eq, h1c, hB, arD_get, hg, q3, q4, q5, hput, q1, q2, q6, q7])
            refine AWp.rg [] [] ?_ (hr := by conv => lhs; simp [hC, Fn.row, Tm.row, Tm.rows_eq, Cs.rows_eq, h1c, hB, arD_get, hg, q3, q4, q5, hput, q1, q2, q6, q7])
            refine ⟨⟨i + 1, hi1, hwi⟩, by simp; omega, ?_⟩
            dsimp only
            rw [hsn]
            exact Le.sub (by simp [hC]) (by simp [nmObj])
      | false =>
        rw [q3] at hNm
        refine AWp.rg [] [.p (fun _ => .d (.bool false)) none] ?_ (hr := by conv => lhs; simp [hC, Fn.row, Tm.row, Tm.rows_eq, Cs.rows_eq, h1c, hB, arD_get, hg, q3, q1, q2])
        refine AWp.cy ?_
        refine AWp.rg [] [] ?_ (hr := by conv => lhs; simp [hC, Fn.row, Tm.row, Tm.rows_eq, Cs.rows_eq, h1c, hB, arD_get, hg, q3, q1, q2])
        refine AWp.ret ?_
        rw [if_pos (by simp [hg, q3])] at hE
        rw [if_pos (by omega)] at hwi
        try dsimp only [thenQ, blockQ]
        apply endQ.ret
        · rfl
        · conv => lhs; simp [resAV, Tryd.results16]
        · rw [checkE, if_neg hlen, hwi, if_pos (by omega), hE]; rfl
  have hi1 : i = l.length := by have := of_decide_eq_false hci; omega
  subst hi1
  clear hci
  rw [List.drop_length] at hwi
  simp only [headsE] at hwi
  rw [List.take_length]
  have hall := heads_zero hwi
  refine AWp.exit ?_
  refine AWp.rg [] [] ?_ (hr := by conv => lhs; simp [hC, Fn.row, Tm.row, Tm.rows_eq, Cs.rows_eq, q1, q2])
  repeat (first | refine AWp.seq ?_ | refine AWp.block ?_)
  refine AWp.loop (σ := fun u : {j : Nat // j ≤ l.length ∧ bodiesE (arOf l) l = bodiesE (arOf l) (l.drop j)} => ⟨81, [(0, fnsAV l), (3, .mp 19), (65, fnsAV l), (66, .d (.int l.length)), (67, .d (.int u.1))], [(19, some (wrObj (arOf l)))]⟩)
    (μ := fun u => l.length - u.1) ⟨0, Nat.zero_le _, rfl⟩ (Le.sub (by simp [hC, nmObj]) (by simp [hC, nmObj])) (fun ⟨j, hi, hwj⟩ => ?_)
  dsimp only
  repeat (first | refine AWp.seq ?_ | refine AWp.block ?_)
  apply AWp.reg [] []
  · conv => lhs; simp
  · trivial
  repeat (first | refine AWp.seq ?_ | refine AWp.block ?_)
  refine AWp.cond rfl (fun hcj => ?_) (fun hcj => ?_)
  · have hi1 : j < l.length := by have := of_decide_eq_true hcj; omega
    have h1c : l[j]? = some l[j] := List.getElem?_eq_getElem hi1
    have hmc : l[j] ∈ l := List.getElem_mem hi1
    have hdc : l.drop j = l[j] :: l.drop (j + 1) := List.drop_eq_getElem_cons hi1
    generalize l[j] = c at h1c hmc hdc
    have hps := (hall _ hmc).2.2.2.1
    obtain ⟨g, ps, bd⟩ := c
    obtain ⟨o1, o2, o3, o4⟩ := hl.all _ hmc
    dsimp only at o1 o2 o3 o4 hps
    rw [hdc] at hwj
    simp only [bodiesE] at hwj
    have hx := cs_Wrong (arOf l) bd ps o4 (by omega)
    obtain ⟨E, hE⟩ : ∃ E, E = bd.wrong (arOf l) ps 0 := ⟨_, rfl⟩
    rw [← hE] at hwj hx
    obtain ⟨xk, xn, xa, xb, xv, xx, xc⟩ := bd
    refine AWp.skip ?_
    refine AWp.rg [] [] ?_ (hr := by conv => lhs; simp [hC, Fn.row, Tm.row, Tm.rows_eq, Cs.rows_eq, h1c, q1, q2])
    refine AWp.rg [] [.c [(1000, 19)] [.mp 1000, tmAV (.mk xk xn xa xb xv xx xc), strsAV ps, .d (.int 0)] [(1000, wrObj (arOf l))] (.d (.int E)) [(1000, wrObj (arOf l))]] ?_ (hr := by conv => lhs; simp [hC, Fn.row, Tm.row, Tm.rows_eq, Cs.rows_eq, h1c, q1, q2])
    by_cases q8 : E = 0
    · refine AWp.rg [] [] ?_ (hr := by conv => lhs; simp [hC, Fn.row, Tm.row, Tm.rows_eq, Cs.rows_eq, h1c, q1, q2, q8])
      refine AWp.cn ?_
      refine AWp.skip ?_
      rw [if_neg (show ¬ (E ≠ 0) by omega)] at hwj
      refine AWp.rg [] [] ?_ (hr := by conv => lhs; simp [hC, Fn.row, Tm.row, Tm.rows_eq, Cs.rows_eq, h1c, q1, q2, q8])
      refine ⟨⟨j + 1, hi1, hwj⟩, by simp; omega, ?_⟩
      dsimp only
      exact Le.sub (by simp [hC]) (by simp [nmObj])
    refine AWp.rg [] [] ?_ (hr := by conv => lhs; simp [hC, Fn.row, Tm.row, Tm.rows_eq, Cs.rows_eq, h1c, q1, q2, q8])
    refine AWp.cy ?_
    refine AWp.rg [] [] ?_ (hr := by conv => lhs; simp [hC, Fn.row, Tm.row, Tm.rows_eq, Cs.rows_eq, h1c, q1, q2, q8])
    refine AWp.ret ?_
    rw [if_pos (by omega)] at hwj
    try dsimp only [thenQ, blockQ]
    apply endQ.ret
    · rfl
    · conv => lhs; simp [resAV, Tryd.results16]
    · rw [checkE, if_neg hlen, hwi, if_neg (by omega), hwj]; rfl
  have hi1 : j = l.length := by have := of_decide_eq_false hcj; omega
  subst hi1
  clear hcj
  rw [List.drop_length] at hwj
  simp only [bodiesE] at hwj
  refine AWp.exit ?_
  refine AWp.rg [] [] ?_ (hr := by conv => lhs; simp [hC, Fn.row, Tm.row, Tm.rows_eq, Cs.rows_eq, q1, q2])
  refine AWp.ret ?_
  try dsimp only [thenQ, blockQ]
  apply endQ.ret
  · rfl
  · conv => lhs; simp [resAV, Tryd.results16]
  · rw [checkE, if_neg hlen, hwi, if_neg (by omega), hwj]; rfl

@[simp] theorem le_maxLen18 : 18 ≤ maxLen := by decide
end Go.Proofs.YtapiiklnnkkdlaaDoor
