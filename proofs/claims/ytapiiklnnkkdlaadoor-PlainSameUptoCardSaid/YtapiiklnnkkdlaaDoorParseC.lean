import Derived.Test.YtapiiklnnkkdlaaDoorParseA
/- xcref1's P: Next, want, name, tag. Printed by a small program. -/
namespace Go.Proofs.YtapiiklnnkkdlaaDoor
open Go.RowKit
attribute [local simp] runD mkRc ldOf stOf stOk ldArg noAny dstOk guardOk opEff opEff0 effOp pureOp callOp zEff evA constAV scalAV Value.oneCell' frGet memGet startAS frOf isGoCall idIn AS.after nextR opnIds objIds AV.ids idsL AObj.ids frNo memNo opnAny isAny mkVal rdCells wrCells fldAddr idxAddr srcRows litRows toD1 toDs setAt sliceAV optI partAV bldAV fillAV binAV binI AV.cells callEff calleeOf frKill memKill AV.kill AObj.kill AV.has AV.hasL Op.operands Call.operands keepF keepM viewIds cChk renOf moGet moWs moQ cEff moLike moHave AV.ren renL AObj.ren AObj.like kept startC moMem AV.frz frz1 frzL frSub memSub frzs AS.frz frFrz memFrz AObj.frz takeMap takeLen bleF Nat.ble_eq memAny objAny mapOp D.keyOk rowAV valRow extOp wrapOp phO
set_option linter.unusedVariables false
set_option linter.unusedSimpArgs false
theorem size_zero {b : ByteArray} (h : b.size = 0) : b = ByteArray.empty := by
  obtain ⟨⟨l⟩⟩ := b
  rcases l with _ | ⟨x, l⟩
  · rfl
  · simp [ByteArray.size] at h
@[simp] theorem mk_size (a : Array UInt8) : (ByteArray.mk a).size = a.size := rfl
@[simp] theorem le_maxLen1 : 1 ≤ maxLen := by decide
@[simp] theorem le_maxLen2 : 2 ≤ maxLen := by decide
@[simp] theorem le_maxLen3 : 3 ≤ maxLen := by decide
@[simp] theorem le_maxLen5 : 5 ≤ maxLen := by decide
theorem sharp_of {w : ByteArray} {c : UInt8} (h : w[0]? = some c) : sharp w = decide ((c.toNat : Int) = 35) := by
  unfold sharp
  have h1 := drop_of h
  rw [List.drop_zero] at h1
  rw [h1, Bool.eq_iff_iff, beq_iff_eq, decide_eq_true_eq]
  omega
set_option maxRecDepth 20000 in
set_option maxHeartbeats 16000000 in
theorem cs_Next (s : ByteArray) (a : Nat) (e : Int) (ha : a ≤ s.size) (hs : s.size ≤ 1500) : CSpec Tryd.prog 135 [.ptr 1000 0] [(1000, pO s a e)] (.d (.str (pkW s a))) [(1000, pO s (nxS s (a, e)).1 (nxS s (a, e)).2)] := by
  have hpk := cs_Peek s a e ha hs
  have hsz := pkW_size ha
  have h1 := pkA_le ha
  have h2 := pkE_le h1.2
  unfold nxS
  dsimp only
  generalize pkW s a = W at *
  generalize pkA s a = A at *
  generalize pkE s A = E2 at *
  have hE3 : (A : Int) + (W.size : Int) = (E2 : Int) := by omega
  unfold pO at *
  refine CSpec.of Tryd.func135 rfl rfl (Nat.le_of_ble_eq_true rfl) ?_
  show AWp _ _ (endC _ Tryd.f135 _ _) (startC 21 _ _)
  refine AWp.rg [] [] ?_
  refine AWp.rg [] [.c [] [.ptr 1000 0] [(1000, .blk 102 [.d (.str s), .d (.int (a : Int)), .d (.int e)])] (.d (.str W)) [(1000, .blk 102 [.d (.str s), .d (.int (A : Int)), .d (.int e)])]] ?_
  by_cases q1 : W = ⟨#[]⟩
  · have q1t := eq_true q1
    refine AWp.rg [] [] ?_ (hr := by conv => lhs; simp [q1t])
    refine AWp.cy ?_
    have hz : W.size = 0 := by rw [q1]; rfl
    have hbd := cs_bad s A e 8
    rw [if_pos hz]
    refine AWp.rg [] [.c [] [.ptr 1000 0, .d (.int 8)] [(1000, .blk 102 [.d (.str s), .d (.int (A : Int)), .d (.int e)])] (.tuple []) [(1000, .blk 102 [.d (.str s), .d (.int (A : Int)), .d (.int (badE e 8))])]] ?_ (hr := by conv => lhs; simp [q1t])
    refine AWp.rg [] [] ?_ (hr := by conv => lhs; simp [hE3, q1t])
    refine AWp.rg [] [] ?_ (hr := by conv => lhs; simp [hE3, q1t])
    refine AWp.ret ?_
    try dsimp only [thenQ, blockQ]
    apply endC.ret
    · rfl
    · conv => lhs; simp [resAV, Tryd.results135]
    · first | rfl | simp
    · simp [moEnd, memGet]
  refine AWp.rg [] [] ?_ (hr := by conv => lhs; simp [q1])
  refine AWp.cn ?_
  refine AWp.skip ?_
  have hz : W.size ≠ 0 := fun h => q1 (size_zero h)
  rw [if_neg hz]
  refine AWp.rg [] [] ?_ (hr := by conv => lhs; simp [hE3, q1])
  refine AWp.rg [] [] ?_ (hr := by conv => lhs; simp [hE3, q1])
  refine AWp.ret ?_
  try dsimp only [thenQ, blockQ]
  apply endC.ret
  · rfl
  · conv => lhs; simp [resAV, Tryd.results135]
  · first | rfl | simp
  · simp [moEnd, memGet]
set_option maxRecDepth 20000 in
set_option maxHeartbeats 16000000 in
theorem cs_want (s w : ByteArray) (a : Nat) (e : Int) (ha : a ≤ s.size) (hs : s.size ≤ 1500) : CSpec Tryd.prog 91 [.ptr 1000 0, .d (.str w)] [(1000, pO s a e)] (.tuple []) [(1000, pO s (wantS s w (a, e)).1 (wantS s w (a, e)).2)] := by
  have hnx := cs_Next s a e ha hs
  have hadv := nxS_adv (s := s) (p := (a, e)) ha
  have hA2 := hadv.sz
  unfold wantS
  dsimp only
  generalize pkW s a = W at *
  generalize nxS s (a, e) = p2 at *
  obtain ⟨A2, e2⟩ := p2
  dsimp only at *
  unfold pO at *
  refine CSpec.of Tryd.func91 rfl rfl (Nat.le_of_ble_eq_true rfl) ?_
  show AWp _ _ (endC _ Tryd.f91 _ _) (startC 10 _ _)
  by_cases q1 : W = w
  · have q1t := eq_true q1
    refine AWp.rg [] [.c [] [.ptr 1000 0] [(1000, .blk 102 [.d (.str s), .d (.int (a : Int)), .d (.int e)])] (.d (.str W)) [(1000, .blk 102 [.d (.str s), .d (.int (A2 : Int)), .d (.int e2)])]] ?_ (hr := by conv => lhs; simp [q1t])
    refine AWp.cn ?_
    refine AWp.skip ?_
    rw [if_pos q1]
    try dsimp only [thenQ, blockQ]
    apply endC.normal
    · rfl
    · conv => lhs; simp [resAV, Tryd.results91]
    · rfl
    · simp [moEnd, memGet]
  refine AWp.rg [] [.c [] [.ptr 1000 0] [(1000, .blk 102 [.d (.str s), .d (.int (a : Int)), .d (.int e)])] (.d (.str W)) [(1000, .blk 102 [.d (.str s), .d (.int (A2 : Int)), .d (.int e2)])]] ?_ (hr := by conv => lhs; simp [q1])
  refine AWp.cy ?_
  have hbd := cs_bad s A2 e2 2
  rw [if_neg q1]
  refine AWp.rg [] [.c [] [.ptr 1000 0, .d (.int 2)] [(1000, .blk 102 [.d (.str s), .d (.int (A2 : Int)), .d (.int e2)])] (.tuple []) [(1000, .blk 102 [.d (.str s), .d (.int (A2 : Int)), .d (.int (badE e2 2))])]] ?_ (hr := by conv => lhs; simp [q1])
  try dsimp only [thenQ, blockQ]
  apply endC.normal
  · rfl
  · conv => lhs; simp [resAV, Tryd.results91]
  · rfl
  · simp [moEnd, memGet]
set_option maxRecDepth 20000 in
set_option maxHeartbeats 16000000 in
theorem cs_pname (s : ByteArray) (a : Nat) (e : Int) (ha : a ≤ s.size) (hs : s.size ≤ 1500) : CSpec Tryd.prog 92 [.ptr 1000 0] [(1000, pO s a e)] (.d (.str (namP s (a, e)).1)) [(1000, pO s (namP s (a, e)).2.1 (namP s (a, e)).2.2)] := by
  have hnx := cs_Next s a e ha hs
  have hadv := nxS_adv (s := s) (p := (a, e)) ha
  have hA2 := hadv.sz
  have hWs := pkW_size ha
  have h1 := pkA_le ha
  have h2 := pkE_le h1.2
  have hWs2 : (pkW s a).size ≤ 1500 := by omega
  clear hWs h1 h2
  unfold namP
  dsimp only
  generalize pkW s a = W at *
  generalize nxS s (a, e) = p2 at *
  obtain ⟨A2, e2⟩ := p2
  dsimp only at *
  unfold pO at *
  refine CSpec.of Tryd.func92 rfl rfl (Nat.le_of_ble_eq_true rfl) ?_
  show AWp _ _ (endC _ Tryd.f92 _ _) (startC 12 _ _)
  refine AWp.rg [] [] ?_
  refine AWp.rg [] [.c [] [.ptr 1000 0] [(1000, .blk 102 [.d (.str s), .d (.int (a : Int)), .d (.int e)])] (.d (.str W)) [(1000, .blk 102 [.d (.str s), .d (.int (A2 : Int)), .d (.int e2)])]] ?_
  have hna := sp_Name W (by omega)
  generalize nameB W = q at *
  cases q with
  | true =>
    refine AWp.rg [] [.p (fun _ => .d (.bool true)) none] ?_
    refine AWp.cn ?_
    refine AWp.skip ?_
    refine AWp.rg [] [] ?_
    refine AWp.ret ?_
    try simp only [if_true, Bool.false_eq_true, if_false]
    try dsimp only [thenQ, blockQ]
    apply endC.ret
    · rfl
    · conv => lhs; simp [resAV, Tryd.results92]
    · first | rfl | simp
    · simp [moEnd, memGet]
  | false =>
    refine AWp.rg [] [.p (fun _ => .d (.bool false)) none] ?_
    refine AWp.cy ?_
    have hbd := cs_bad s A2 e2 7
    refine AWp.rg [] [.c [] [.ptr 1000 0, .d (.int 7)] [(1000, .blk 102 [.d (.str s), .d (.int (A2 : Int)), .d (.int e2)])] (.tuple []) [(1000, .blk 102 [.d (.str s), .d (.int (A2 : Int)), .d (.int (badE e2 7))])]] ?_
    refine AWp.rg [] [] ?_
    refine AWp.ret ?_
    try simp only [if_true, Bool.false_eq_true, if_false]
    try dsimp only [thenQ, blockQ]
    apply endC.ret
    · rfl
    · conv => lhs; simp [resAV, Tryd.results92]
    · first | rfl | simp
    · simp [moEnd, memGet]
set_option maxRecDepth 20000 in
set_option maxHeartbeats 16000000 in
theorem cs_tag (s : ByteArray) (a : Nat) (e : Int) (ha : a ≤ s.size) (hs : s.size ≤ 1500) : CSpec Tryd.prog 139 [.ptr 1000 0] [(1000, pO s a e)] (.d (.int (tagP false s (a, e)).1)) [(1000, pO s (tagP false s (a, e)).2.1 (tagP false s (a, e)).2.2)] := by
  have hnx := cs_Next s a e ha hs
  have hadv := nxS_adv (s := s) (p := (a, e)) ha
  have hA2 := hadv.sz
  have hWs := pkW_size ha
  have h1 := pkA_le ha
  have h2 := pkE_le h1.2
  have hWs2 : (pkW s a).size ≤ 1500 := by omega
  clear hWs h1 h2
  rw [tagP_ref]
  dsimp only
  generalize pkW s a = W at *
  generalize nxS s (a, e) = p2 at *
  obtain ⟨A2, e2⟩ := p2
  dsimp only at *
  unfold pO at *
  refine CSpec.of Tryd.func139 rfl rfl (Nat.le_of_ble_eq_true rfl) ?_
  show AWp _ _ (endC _ Tryd.f139 _ _) (startC 26 _ _)
  refine AWp.rg [] [] ?_
  refine AWp.rg [] [.c [] [.ptr 1000 0] [(1000, .blk 102 [.d (.str s), .d (.int (a : Int)), .d (.int e)])] (.d (.str W)) [(1000, .blk 102 [.d (.str s), .d (.int (A2 : Int)), .d (.int e2)])]] ?_
  obtain ⟨M, hM⟩ : ∃ M : Int, (W.size : Int) = M := ⟨_, rfl⟩
  by_cases hl : 1 < M
  · have h1c : W[0]? = some W[0] := by rw [getElem?_pos]
    generalize W[0] = c at h1c
    rw [sharp_of h1c, show decide (1 < W.size) = true from decide_eq_true (by omega), Bool.true_and]
    obtain ⟨cn, hcn⟩ : ∃ n : Int, (c.toNat : Int) = n := ⟨_, rfl⟩
    rw [hcn]
    by_cases q1 : cn = 35
    · have q1t := eq_true q1
      refine AWp.rg [] [] ?_ (hr := by conv => lhs; simp [hM, h1c, hcn, hl, q1t])
      refine AWp.cy ?_
      rw [show decide (cn = 35) = true from decide_eq_true q1, Bool.true_and]
      have hX0 : (W.extract 1 W.size).size ≤ 1500 := by rw [ByteArray.size_extract]; omega
      have hnu := sp_Number (W.extract 1 W.size) (by omega)
      have hX : W.extract 1 M.toNat = W.extract 1 W.size := by rw [← hM, Int.toNat_natCast]
      generalize W.extract 1 W.size = X at *
      generalize numP X = nq at *
      obtain ⟨n, q⟩ := nq
      dsimp only at hnu ⊢
      refine AWp.rg [] [.p (fun _ => .tuple [.d (.int n), .d (.bool q)]) none] ?_ (hr := by conv => lhs; simp [hM, h1c, hcn, hX, hl, q1t])
      cases q with
      | true =>
        refine AWp.rg [] [] ?_ (hr := by conv => lhs; simp [hM, h1c, hcn, hX, hl, q1t])
        refine AWp.cy ?_
        refine AWp.rg [] [] ?_ (hr := by conv => lhs; simp [hM, h1c, hcn, hX, hl, q1t])
        refine AWp.ret ?_
        try simp only [if_true, Bool.false_eq_true, if_false]
        try dsimp only [thenQ, blockQ]
        apply endC.ret
        · rfl
        · conv => lhs; simp [resAV, Tryd.results139]
        · first | rfl | simp
        · simp [moEnd, memGet]
      | false =>
        refine AWp.rg [] [] ?_ (hr := by conv => lhs; simp [hM, h1c, hcn, hX, hl, q1t])
        refine AWp.cn ?_
        refine AWp.skip ?_
        have hbd := cs_bad s A2 e2 2
        refine AWp.rg [] [.c [] [.ptr 1000 0, .d (.int 2)] [(1000, .blk 102 [.d (.str s), .d (.int (A2 : Int)), .d (.int e2)])] (.tuple []) [(1000, .blk 102 [.d (.str s), .d (.int (A2 : Int)), .d (.int (badE e2 2))])]] ?_ (hr := by conv => lhs; simp [hM, h1c, hcn, hX, hl, q1t])
        refine AWp.rg [] [] ?_ (hr := by conv => lhs; simp [hM, h1c, hcn, hX, hl, q1t])
        refine AWp.ret ?_
        try simp only [if_true, Bool.false_eq_true, if_false]
        try dsimp only [thenQ, blockQ]
        apply endC.ret
        · rfl
        · conv => lhs; simp [resAV, Tryd.results139]
        · first | rfl | simp
        · simp [moEnd, memGet]
    refine AWp.rg [] [] ?_ (hr := by conv => lhs; simp [hM, h1c, hcn, hl, q1])
    refine AWp.cn ?_
    refine AWp.skip ?_
    rw [show decide (cn = 35) = false from decide_eq_false q1, Bool.false_and]
    have hbd := cs_bad s A2 e2 2
    refine AWp.rg [] [.c [] [.ptr 1000 0, .d (.int 2)] [(1000, .blk 102 [.d (.str s), .d (.int (A2 : Int)), .d (.int e2)])] (.tuple []) [(1000, .blk 102 [.d (.str s), .d (.int (A2 : Int)), .d (.int (badE e2 2))])]] ?_ (hr := by conv => lhs; simp [hM, h1c, hcn, hl, q1])
    refine AWp.rg [] [] ?_ (hr := by conv => lhs; simp [hM, h1c, hcn, hl, q1])
    refine AWp.ret ?_
    try simp only [if_true, Bool.false_eq_true, if_false]
    try dsimp only [thenQ, blockQ]
    apply endC.ret
    · rfl
    · conv => lhs; simp [resAV, Tryd.results139]
    · first | rfl | simp
    · simp [moEnd, memGet]
  rw [show decide (1 < W.size) = false from decide_eq_false (by omega), Bool.false_and, Bool.false_and]
  refine AWp.rg [] [] ?_ (hr := by conv => lhs; simp [hM, hl])
  refine AWp.cn ?_
  refine AWp.skip ?_
  have hbd := cs_bad s A2 e2 2
  refine AWp.rg [] [.c [] [.ptr 1000 0, .d (.int 2)] [(1000, .blk 102 [.d (.str s), .d (.int (A2 : Int)), .d (.int e2)])] (.tuple []) [(1000, .blk 102 [.d (.str s), .d (.int (A2 : Int)), .d (.int (badE e2 2))])]] ?_ (hr := by conv => lhs; simp [hM, hl])
  refine AWp.rg [] [] ?_ (hr := by conv => lhs; simp [hM, hl])
  refine AWp.ret ?_
  try simp only [if_true, Bool.false_eq_true, if_false]
  try dsimp only [thenQ, blockQ]
  apply endC.ret
  · rfl
  · conv => lhs; simp [resAV, Tryd.results139]
  · first | rfl | simp
  · simp [moEnd, memGet]

theorem manyP_one {α : Type} {s : ByteArray} {one : PS → α × PS} {m c : Nat} {e : Int} {us : List α} {R : List α × PS} (he : e = 0) (hw : ¬ pkW s c = rbr) : (R = (us ++ (manyP s one (m + 1) (c, e)).1, (manyP s one (m + 1) (c, e)).2)) = (R = (us ++ ((one (pkA s c, e)).1 :: (manyP s one m (one (pkA s c, e)).2).1), (manyP s one m (one (pkA s c, e)).2).2)) := by
  rw [show manyP s one (m + 1) (c, e) = ((one (pkA s c, e)).1 :: (manyP s one m (one (pkA s c, e)).2).1, (manyP s one m (one (pkA s c, e)).2).2) from by rw [manyP, if_pos he, if_neg hw]]
theorem manyP_end {α : Type} {s : ByteArray} {one : PS → α × PS} {m c : Nat} {e : Int} {us : List α} {R : List α × PS} (he : e = 0) (hw : pkW s c = rbr) : (R = (us ++ (manyP s one (m + 1) (c, e)).1, (manyP s one (m + 1) (c, e)).2)) = (R = (us ++ [], wantS s rbr (pkA s c, e))) := by
  rw [show manyP s one (m + 1) (c, e) = ([], wantS s rbr (pkA s c, e)) from by rw [manyP, if_pos he, if_pos hw]]
theorem manyP_err {α : Type} {s : ByteArray} {one : PS → α × PS} {m c : Nat} {e : Int} {us : List α} {R : List α × PS} (he : ¬ e = 0) : (R = (us ++ (manyP s one (m + 1) (c, e)).1, (manyP s one (m + 1) (c, e)).2)) = (R = (us ++ [], wantS s rbr (c, e))) := by
  rw [show manyP s one (m + 1) (c, e) = ([], wantS s rbr (c, e)) from by rw [manyP, if_neg he]]
set_option maxRecDepth 20000 in
set_option maxHeartbeats 16000000 in
theorem cs_manyT (s : ByteArray) (tk tn : Int) (ta : ByteArray) (n : Nat) (dp : Int) (a : Nat) (e : Int) (ha : a ≤ s.size) (hs : s.size ≤ 1500)
    (hF : ∀ (us : List Tm) (a : Nat) (e : Int), us.length ≤ 1600 → a ≤ s.size → CSpec Tryd.prog 138 [.ptr 1001 0, .ptr 1002 0, .ptr 1003 0] [(1000, .blk 102 [.d (.str s), .d (.int (a : Int)), .d (.int e)]), (1001, .blk 34 [.d (.int tk), .d (.int tn), .d (.str ta), .d (.str ByteArray.empty), .lit (.slice none 0 0), .arr 500 0 us.length, .lit (.slice none 0 0)]), (1002, .blk 100 [.ptr 1000 0]), (1003, .blk 3 [.d (.int dp)]), (500, .arr 34 7 (us.map Tm.row))] (.tuple []) [(1000, .blk 102 [.d (.str s), .d (.int (((Tm.ps false s n) (a, e)).2.1 : Int)), .d (.int (((Tm.ps false s n) (a, e)).2.2))]), (1001, .blk 34 [.d (.int tk), .d (.int tn), .d (.str ta), .d (.str ByteArray.empty), .lit (.slice none 0 0), .arr 500 0 ((us ++ [((Tm.ps false s n) (a, e)).1]).length), .lit (.slice none 0 0)]), (1002, .blk 100 [.ptr 1000 0]), (1003, .blk 3 [.d (.int dp)]), (500, .arr 34 7 ((us ++ [((Tm.ps false s n) (a, e)).1]).map Tm.row))]) :
    CSpec Tryd.prog 93 [.ptr 1000 0, .clo 138 [.ptr 1001 0, .ptr 1002 0, .ptr 1003 0]] [(1000, .blk 102 [.d (.str s), .d (.int (a : Int)), .d (.int e)]), (1001, .blk 34 [.d (.int tk), .d (.int tn), .d (.str ta), .d (.str ByteArray.empty), .lit (.slice none 0 0), .arr 500 0 (([] : List Tm).length), .lit (.slice none 0 0)]), (1002, .blk 100 [.ptr 1000 0]), (1003, .blk 3 [.d (.int dp)]), (500, .arr 34 7 (([] : List Tm).map Tm.row))] (.tuple []) [(1000, .blk 102 [.d (.str s), .d (.int ((manyP s (Tm.ps false s n) (s.size + 2) (a, e)).2.1 : Int)), .d (.int ((manyP s (Tm.ps false s n) (s.size + 2) (a, e)).2.2))]), (1001, .blk 34 [.d (.int tk), .d (.int tn), .d (.str ta), .d (.str ByteArray.empty), .lit (.slice none 0 0), .arr 500 0 ((manyP s (Tm.ps false s n) (s.size + 2) (a, e)).1.length), .lit (.slice none 0 0)]), (1002, .blk 100 [.ptr 1000 0]), (1003, .blk 3 [.d (.int dp)]), (500, .arr 34 7 ((manyP s (Tm.ps false s n) (s.size + 2) (a, e)).1.map Tm.row))] := by
  try unfold pO at *
  refine CSpec.of Tryd.func93 rfl rfl (Nat.le_of_ble_eq_true rfl) ?_
  show AWp _ _ (endC _ Tryd.f93 _ _) (startC 18 _ _)
  repeat (first | refine AWp.seq ?_ | refine AWp.block ?_)
  refine AWp.loop (σ := fun u : {u : List Tm × Nat × Int × Nat // (manyP s (Tm.ps false s n) (s.size + 2) (a, e) = (u.1 ++ (manyP s (Tm.ps false s n) u.2.2.2 (u.2.1, u.2.2.1)).1, (manyP s (Tm.ps false s n) u.2.2.2 (u.2.1, u.2.2.1)).2) ∧ u.2.1 ≤ s.size ∧ u.1.length + u.2.2.2 = s.size + 2 ∧ 0 < u.2.2.2 ∧ (u.2.2.1 ≠ 0 ∨ s.size - u.2.1 + 1 < u.2.2.2))} => ⟨18, [(0, .ptr 1000 0), (1, .clo 138 [.ptr 1001 0, .ptr 1002 0, .ptr 1003 0])], [(500, some (.arr 34 7 (u.1.1.map Tm.row))), (1000, some (.blk 102 [.d (.str s), .d (.int (u.1.2.1 : Int)), .d (.int u.1.2.2.1)])), (1001, some (.blk 34 [.d (.int tk), .d (.int tn), .d (.str ta), .d (.str ByteArray.empty), .lit (.slice none 0 0), .arr 500 0 u.1.1.length, .lit (.slice none 0 0)])), (1002, some (.blk 100 [.ptr 1000 0])), (1003, some (.blk 3 [.d (.int dp)]))]⟩)
    (μ := fun u => u.1.2.2.2) ⟨([], a, e, s.size + 2), ⟨by simp, ha, by simp, by dsimp only; omega, .inr (by dsimp only; omega)⟩⟩ (Le.sub (by simp) (by simp)) (fun ⟨(us, c, ee, m), hw⟩ => ?_)
  dsimp only at hw ⊢
  obtain ⟨hmm, hcl, hum, hm0, hon⟩ := hw
  obtain ⟨m, rfl⟩ : ∃ k, m = k + 1 := ⟨m - 1, by omega⟩
  have hpk := cs_Peek s c ee hcl hs
  obtain ⟨W, hW⟩ : ∃ W, W = pkW s c := ⟨_, rfl⟩
  obtain ⟨A, hA⟩ : ∃ A, A = pkA s c := ⟨_, rfl⟩
  have hA1 : c ≤ A := by rw [hA]; exact (pkA_le hcl).1
  have hA2 : A ≤ s.size := by rw [hA]; exact (pkA_le hcl).2
  rw [← hW, ← hA] at hpk
  by_cases q1 : ee = 0
  · have q1t := eq_true q1
    by_cases q2 : W = ⟨#[41]⟩
    · have q2t := eq_true q2
      refine AWp.rg [] [.c [] [.ptr 1000 0] [(1000, .blk 102 [.d (.str s), .d (.int (c : Int)), .d (.int ee)])] (.d (.str W)) [(1000, .blk 102 [.d (.str s), .d (.int (A : Int)), .d (.int ee)])]] ?_ (hr := by conv => lhs; simp [q1t, q2t])
      refine AWp.cn ?_
      refine AWp.exit ?_
      rw [manyP_end q1 (by rw [← hW]; exact q2)] at hmm
      rw [← hA] at hmm
      have hwt := cs_want s rbr A ee hA2 hs
      generalize wantS s rbr (A, ee) = p3 at hmm hwt
      obtain ⟨A3, e3⟩ := p3
      dsimp only at hmm hwt
      rw [List.append_nil] at hmm
      rw [hmm]
      dsimp only
      refine AWp.rg [] [.c [] [.ptr 1000 0, .d (.str (⟨#[41]⟩))] [(1000, .blk 102 [.d (.str s), .d (.int (A : Int)), .d (.int ee)])] (.tuple []) [(1000, .blk 102 [.d (.str s), .d (.int (A3 : Int)), .d (.int e3)])]] ?_ (hr := by conv => lhs; simp [q1t, q2t])
      try dsimp only [thenQ, blockQ]
      apply endC.normal
      · rfl
      · conv => lhs; simp [resAV, Tryd.results93]
      · rfl
      · simp [moEnd, memGet]
    refine AWp.rg [] [.c [] [.ptr 1000 0] [(1000, .blk 102 [.d (.str s), .d (.int (c : Int)), .d (.int ee)])] (.d (.str W)) [(1000, .blk 102 [.d (.str s), .d (.int (A : Int)), .d (.int ee)])]] ?_ (hr := by conv => lhs; simp [q1t, q2])
    refine AWp.cy ?_
    refine AWp.skip ?_
    rw [manyP_one q1 (by rw [← hW]; exact q2)] at hmm
    have hone := ((fun p h => ps_adv n p h) : ∀ p : PS, p.1 ≤ s.size → Adv s p ((Tm.ps false s n) p).2) (A, ee) hA2
    have hcl := hF us A ee (by omega) hA2
    rw [← hA] at hmm
    generalize (Tm.ps false s n) (A, ee) = x at hmm hone hcl
    obtain ⟨x, c2, e2⟩ := x
    have hs2 := hone.sz
    have ho2 := hone.on
    dsimp only at hmm hone hcl hs2 ho2
    obtain ⟨us2, hus2⟩ : ∃ l, l = us ++ [x] := ⟨_, rfl⟩
    have hus2l : us2.length = us.length + 1 := by rw [hus2]; simp
    rw [← hus2] at hcl
    refine AWp.rg [] [.c [] [.ptr 1001 0, .ptr 1002 0, .ptr 1003 0] [(1000, .blk 102 [.d (.str s), .d (.int (A : Int)), .d (.int ee)]), (1001, .blk 34 [.d (.int tk), .d (.int tn), .d (.str ta), .d (.str ByteArray.empty), .lit (.slice none 0 0), .arr 500 0 us.length, .lit (.slice none 0 0)]), (1002, .blk 100 [.ptr 1000 0]), (1003, .blk 3 [.d (.int dp)]), (500, .arr 34 7 (us.map Tm.row))] (.tuple []) [(1000, .blk 102 [.d (.str s), .d (.int (c2 : Int)), .d (.int e2)]), (1001, .blk 34 [.d (.int tk), .d (.int tn), .d (.str ta), .d (.str ByteArray.empty), .lit (.slice none 0 0), .arr 500 0 us2.length, .lit (.slice none 0 0)]), (1002, .blk 100 [.ptr 1000 0]), (1003, .blk 3 [.d (.int dp)]), (500, .arr 34 7 (us2.map Tm.row))]] ?_ (hr := by conv => lhs; simp [q1t, q2])
    refine ⟨⟨(us2, c2, e2, m), ⟨by rw [hmm, hus2]; simp, hs2, by dsimp only; omega, by dsimp only; rcases hon with h | h <;> omega, by dsimp only; rcases ho2 with h | h; exact .inl h; right; rcases hon with h | h <;> omega⟩⟩, by dsimp only; omega, ?_⟩
    dsimp only
    exact Le.sub (by simp) (by simp)
  refine AWp.rg [] [] ?_ (hr := by conv => lhs; simp [q1])
  refine AWp.cn ?_
  refine AWp.exit ?_
  rw [manyP_err q1] at hmm
  have hwt := cs_want s rbr c ee hcl hs
  generalize wantS s rbr (c, ee) = p3 at hmm hwt
  obtain ⟨A3, e3⟩ := p3
  dsimp only at hmm hwt
  rw [List.append_nil] at hmm
  rw [hmm]
  dsimp only
  refine AWp.rg [] [.c [] [.ptr 1000 0, .d (.str (⟨#[41]⟩))] [(1000, .blk 102 [.d (.str s), .d (.int (c : Int)), .d (.int ee)])] (.tuple []) [(1000, .blk 102 [.d (.str s), .d (.int (A3 : Int)), .d (.int e3)])]] ?_ (hr := by conv => lhs; simp [q1])
  try dsimp only [thenQ, blockQ]
  apply endC.normal
  · rfl
  · conv => lhs; simp [resAV, Tryd.results93]
  · rfl
  · simp [moEnd, memGet]
set_option maxRecDepth 20000 in
set_option maxHeartbeats 16000000 in
theorem cs_manyC (s : ByteArray) (tk tn : Int) (ta : ByteArray) (n : Nat) (xs : List Tm) (dp : Int) (a : Nat) (e : Int) (ha : a ≤ s.size) (hs : s.size ≤ 1500)
    (hF : ∀ (us : List Cs) (a : Nat) (e : Int), us.length ≤ 1600 → a ≤ s.size → CSpec Tryd.prog 140 [.ptr 1002 0, .ptr 1003 0, .ptr 1001 0] [(1000, .blk 102 [.d (.str s), .d (.int (a : Int)), .d (.int e)]), (1001, .blk 34 [.d (.int tk), .d (.int tn), .d (.str ta), .d (.str ByteArray.empty), .lit (.slice none 0 0), .arr 500 0 xs.length, .arr 501 0 us.length]), (1002, .blk 100 [.ptr 1000 0]), (1003, .blk 3 [.d (.int dp)]), (500, .arr 34 7 (xs.map Tm.row)), (501, .arr 40 9 (us.map Cs.row))] (.tuple []) [(1000, .blk 102 [.d (.str s), .d (.int (((casP false s (Tm.ps false s n)) (a, e)).2.1 : Int)), .d (.int (((casP false s (Tm.ps false s n)) (a, e)).2.2))]), (1001, .blk 34 [.d (.int tk), .d (.int tn), .d (.str ta), .d (.str ByteArray.empty), .lit (.slice none 0 0), .arr 500 0 xs.length, .arr 501 0 ((us ++ [((casP false s (Tm.ps false s n)) (a, e)).1]).length)]), (1002, .blk 100 [.ptr 1000 0]), (1003, .blk 3 [.d (.int dp)]), (500, .arr 34 7 (xs.map Tm.row)), (501, .arr 40 9 ((us ++ [((casP false s (Tm.ps false s n)) (a, e)).1]).map Cs.row))]) :
    CSpec Tryd.prog 93 [.ptr 1000 0, .clo 140 [.ptr 1002 0, .ptr 1003 0, .ptr 1001 0]] [(1000, .blk 102 [.d (.str s), .d (.int (a : Int)), .d (.int e)]), (1001, .blk 34 [.d (.int tk), .d (.int tn), .d (.str ta), .d (.str ByteArray.empty), .lit (.slice none 0 0), .arr 500 0 xs.length, .arr 501 0 (([] : List Cs).length)]), (1002, .blk 100 [.ptr 1000 0]), (1003, .blk 3 [.d (.int dp)]), (500, .arr 34 7 (xs.map Tm.row)), (501, .arr 40 9 (([] : List Cs).map Cs.row))] (.tuple []) [(1000, .blk 102 [.d (.str s), .d (.int ((manyP s (casP false s (Tm.ps false s n)) (s.size + 2) (a, e)).2.1 : Int)), .d (.int ((manyP s (casP false s (Tm.ps false s n)) (s.size + 2) (a, e)).2.2))]), (1001, .blk 34 [.d (.int tk), .d (.int tn), .d (.str ta), .d (.str ByteArray.empty), .lit (.slice none 0 0), .arr 500 0 xs.length, .arr 501 0 ((manyP s (casP false s (Tm.ps false s n)) (s.size + 2) (a, e)).1.length)]), (1002, .blk 100 [.ptr 1000 0]), (1003, .blk 3 [.d (.int dp)]), (500, .arr 34 7 (xs.map Tm.row)), (501, .arr 40 9 ((manyP s (casP false s (Tm.ps false s n)) (s.size + 2) (a, e)).1.map Cs.row))] := by
  try unfold pO at *
  refine CSpec.of Tryd.func93 rfl rfl (Nat.le_of_ble_eq_true rfl) ?_
  show AWp _ _ (endC _ Tryd.f93 _ _) (startC 18 _ _)
  repeat (first | refine AWp.seq ?_ | refine AWp.block ?_)
  refine AWp.loop (σ := fun u : {u : List Cs × Nat × Int × Nat // (manyP s (casP false s (Tm.ps false s n)) (s.size + 2) (a, e) = (u.1 ++ (manyP s (casP false s (Tm.ps false s n)) u.2.2.2 (u.2.1, u.2.2.1)).1, (manyP s (casP false s (Tm.ps false s n)) u.2.2.2 (u.2.1, u.2.2.1)).2) ∧ u.2.1 ≤ s.size ∧ u.1.length + u.2.2.2 = s.size + 2 ∧ 0 < u.2.2.2 ∧ (u.2.2.1 ≠ 0 ∨ s.size - u.2.1 + 1 < u.2.2.2))} => ⟨18, [(0, .ptr 1000 0), (1, .clo 140 [.ptr 1002 0, .ptr 1003 0, .ptr 1001 0])], [(500, some (.arr 34 7 (xs.map Tm.row))), (501, some (.arr 40 9 (u.1.1.map Cs.row))), (1000, some (.blk 102 [.d (.str s), .d (.int (u.1.2.1 : Int)), .d (.int u.1.2.2.1)])), (1001, some (.blk 34 [.d (.int tk), .d (.int tn), .d (.str ta), .d (.str ByteArray.empty), .lit (.slice none 0 0), .arr 500 0 xs.length, .arr 501 0 u.1.1.length])), (1002, some (.blk 100 [.ptr 1000 0])), (1003, some (.blk 3 [.d (.int dp)]))]⟩)
    (μ := fun u => u.1.2.2.2) ⟨([], a, e, s.size + 2), ⟨by simp, ha, by simp, by dsimp only; omega, .inr (by dsimp only; omega)⟩⟩ (Le.sub (by simp) (by simp)) (fun ⟨(us, c, ee, m), hw⟩ => ?_)
  dsimp only at hw ⊢
  obtain ⟨hmm, hcl, hum, hm0, hon⟩ := hw
  obtain ⟨m, rfl⟩ : ∃ k, m = k + 1 := ⟨m - 1, by omega⟩
  have hpk := cs_Peek s c ee hcl hs
  obtain ⟨W, hW⟩ : ∃ W, W = pkW s c := ⟨_, rfl⟩
  obtain ⟨A, hA⟩ : ∃ A, A = pkA s c := ⟨_, rfl⟩
  have hA1 : c ≤ A := by rw [hA]; exact (pkA_le hcl).1
  have hA2 : A ≤ s.size := by rw [hA]; exact (pkA_le hcl).2
  rw [← hW, ← hA] at hpk
  by_cases q1 : ee = 0
  · have q1t := eq_true q1
    by_cases q2 : W = ⟨#[41]⟩
    · have q2t := eq_true q2
      refine AWp.rg [] [.c [] [.ptr 1000 0] [(1000, .blk 102 [.d (.str s), .d (.int (c : Int)), .d (.int ee)])] (.d (.str W)) [(1000, .blk 102 [.d (.str s), .d (.int (A : Int)), .d (.int ee)])]] ?_ (hr := by conv => lhs; simp [q1t, q2t])
      refine AWp.cn ?_
      refine AWp.exit ?_
      rw [manyP_end q1 (by rw [← hW]; exact q2)] at hmm
      rw [← hA] at hmm
      have hwt := cs_want s rbr A ee hA2 hs
      generalize wantS s rbr (A, ee) = p3 at hmm hwt
      obtain ⟨A3, e3⟩ := p3
      dsimp only at hmm hwt
      rw [List.append_nil] at hmm
      rw [hmm]
      dsimp only
      refine AWp.rg [] [.c [] [.ptr 1000 0, .d (.str (⟨#[41]⟩))] [(1000, .blk 102 [.d (.str s), .d (.int (A : Int)), .d (.int ee)])] (.tuple []) [(1000, .blk 102 [.d (.str s), .d (.int (A3 : Int)), .d (.int e3)])]] ?_ (hr := by conv => lhs; simp [q1t, q2t])
      try dsimp only [thenQ, blockQ]
      apply endC.normal
      · rfl
      · conv => lhs; simp [resAV, Tryd.results93]
      · rfl
      · simp [moEnd, memGet]
    refine AWp.rg [] [.c [] [.ptr 1000 0] [(1000, .blk 102 [.d (.str s), .d (.int (c : Int)), .d (.int ee)])] (.d (.str W)) [(1000, .blk 102 [.d (.str s), .d (.int (A : Int)), .d (.int ee)])]] ?_ (hr := by conv => lhs; simp [q1t, q2])
    refine AWp.cy ?_
    refine AWp.skip ?_
    rw [manyP_one q1 (by rw [← hW]; exact q2)] at hmm
    have hone := ((fun p h => casP_adv (fun p h => ps_adv n p h) h) : ∀ p : PS, p.1 ≤ s.size → Adv s p ((casP false s (Tm.ps false s n)) p).2) (A, ee) hA2
    have hcl := hF us A ee (by omega) hA2
    rw [← hA] at hmm
    generalize (casP false s (Tm.ps false s n)) (A, ee) = x at hmm hone hcl
    obtain ⟨x, c2, e2⟩ := x
    have hs2 := hone.sz
    have ho2 := hone.on
    dsimp only at hmm hone hcl hs2 ho2
    obtain ⟨us2, hus2⟩ : ∃ l, l = us ++ [x] := ⟨_, rfl⟩
    have hus2l : us2.length = us.length + 1 := by rw [hus2]; simp
    rw [← hus2] at hcl
    refine AWp.rg [] [.c [] [.ptr 1002 0, .ptr 1003 0, .ptr 1001 0] [(1000, .blk 102 [.d (.str s), .d (.int (A : Int)), .d (.int ee)]), (1001, .blk 34 [.d (.int tk), .d (.int tn), .d (.str ta), .d (.str ByteArray.empty), .lit (.slice none 0 0), .arr 500 0 xs.length, .arr 501 0 us.length]), (1002, .blk 100 [.ptr 1000 0]), (1003, .blk 3 [.d (.int dp)]), (500, .arr 34 7 (xs.map Tm.row)), (501, .arr 40 9 (us.map Cs.row))] (.tuple []) [(1000, .blk 102 [.d (.str s), .d (.int (c2 : Int)), .d (.int e2)]), (1001, .blk 34 [.d (.int tk), .d (.int tn), .d (.str ta), .d (.str ByteArray.empty), .lit (.slice none 0 0), .arr 500 0 xs.length, .arr 501 0 us2.length]), (1002, .blk 100 [.ptr 1000 0]), (1003, .blk 3 [.d (.int dp)]), (500, .arr 34 7 (xs.map Tm.row)), (501, .arr 40 9 (us2.map Cs.row))]] ?_ (hr := by conv => lhs; simp [q1t, q2])
    refine ⟨⟨(us2, c2, e2, m), ⟨by rw [hmm, hus2]; simp, hs2, by dsimp only; omega, by dsimp only; rcases hon with h | h <;> omega, by dsimp only; rcases ho2 with h | h; exact .inl h; right; rcases hon with h | h <;> omega⟩⟩, by dsimp only; omega, ?_⟩
    dsimp only
    exact Le.sub (by simp) (by simp)
  refine AWp.rg [] [] ?_ (hr := by conv => lhs; simp [q1])
  refine AWp.cn ?_
  refine AWp.exit ?_
  rw [manyP_err q1] at hmm
  have hwt := cs_want s rbr c ee hcl hs
  generalize wantS s rbr (c, ee) = p3 at hmm hwt
  obtain ⟨A3, e3⟩ := p3
  dsimp only at hmm hwt
  rw [List.append_nil] at hmm
  rw [hmm]
  dsimp only
  refine AWp.rg [] [.c [] [.ptr 1000 0, .d (.str (⟨#[41]⟩))] [(1000, .blk 102 [.d (.str s), .d (.int (c : Int)), .d (.int ee)])] (.tuple []) [(1000, .blk 102 [.d (.str s), .d (.int (A3 : Int)), .d (.int e3)])]] ?_ (hr := by conv => lhs; simp [q1])
  try dsimp only [thenQ, blockQ]
  apply endC.normal
  · rfl
  · conv => lhs; simp [resAV, Tryd.results93]
  · rfl
  · simp [moEnd, memGet]
set_option maxRecDepth 20000 in
set_option maxHeartbeats 16000000 in
theorem cs_manyV (s : ByteArray) (tg : Int) (a : Nat) (e : Int) (ha : a ≤ s.size) (hs : s.size ≤ 1500)
    (hF : ∀ (us : List ByteArray) (a : Nat) (e : Int), us.length ≤ 1600 → a ≤ s.size → CSpec Tryd.prog 141 [.ptr 1001 0, .ptr 1002 0] [(1000, .blk 102 [.d (.str s), .d (.int (a : Int)), .d (.int e)]), (1001, .blk 40 [.d (.int tg), .arr 500 0 us.length, .d (.int 0), .d (.int 0), .d (.str ByteArray.empty), .d (.str ByteArray.empty), .lit (.slice none 0 0), .lit (.slice none 0 0), .lit (.slice none 0 0)]), (1002, .blk 100 [.ptr 1000 0]), (500, .arr 9 1 (us.map strR))] (.tuple []) [(1000, .blk 102 [.d (.str s), .d (.int (((namP s) (a, e)).2.1 : Int)), .d (.int (((namP s) (a, e)).2.2))]), (1001, .blk 40 [.d (.int tg), .arr 500 0 ((us ++ [((namP s) (a, e)).1]).length), .d (.int 0), .d (.int 0), .d (.str ByteArray.empty), .d (.str ByteArray.empty), .lit (.slice none 0 0), .lit (.slice none 0 0), .lit (.slice none 0 0)]), (1002, .blk 100 [.ptr 1000 0]), (500, .arr 9 1 ((us ++ [((namP s) (a, e)).1]).map strR))]) :
    CSpec Tryd.prog 93 [.ptr 1000 0, .clo 141 [.ptr 1001 0, .ptr 1002 0]] [(1000, .blk 102 [.d (.str s), .d (.int (a : Int)), .d (.int e)]), (1001, .blk 40 [.d (.int tg), .arr 500 0 (([] : List ByteArray).length), .d (.int 0), .d (.int 0), .d (.str ByteArray.empty), .d (.str ByteArray.empty), .lit (.slice none 0 0), .lit (.slice none 0 0), .lit (.slice none 0 0)]), (1002, .blk 100 [.ptr 1000 0]), (500, .arr 9 1 (([] : List ByteArray).map strR))] (.tuple []) [(1000, .blk 102 [.d (.str s), .d (.int ((manyP s (namP s) (s.size + 2) (a, e)).2.1 : Int)), .d (.int ((manyP s (namP s) (s.size + 2) (a, e)).2.2))]), (1001, .blk 40 [.d (.int tg), .arr 500 0 ((manyP s (namP s) (s.size + 2) (a, e)).1.length), .d (.int 0), .d (.int 0), .d (.str ByteArray.empty), .d (.str ByteArray.empty), .lit (.slice none 0 0), .lit (.slice none 0 0), .lit (.slice none 0 0)]), (1002, .blk 100 [.ptr 1000 0]), (500, .arr 9 1 ((manyP s (namP s) (s.size + 2) (a, e)).1.map strR))] := by
  try unfold pO at *
  refine CSpec.of Tryd.func93 rfl rfl (Nat.le_of_ble_eq_true rfl) ?_
  show AWp _ _ (endC _ Tryd.f93 _ _) (startC 18 _ _)
  repeat (first | refine AWp.seq ?_ | refine AWp.block ?_)
  refine AWp.loop (σ := fun u : {u : List ByteArray × Nat × Int × Nat // (manyP s (namP s) (s.size + 2) (a, e) = (u.1 ++ (manyP s (namP s) u.2.2.2 (u.2.1, u.2.2.1)).1, (manyP s (namP s) u.2.2.2 (u.2.1, u.2.2.1)).2) ∧ u.2.1 ≤ s.size ∧ u.1.length + u.2.2.2 = s.size + 2 ∧ 0 < u.2.2.2 ∧ (u.2.2.1 ≠ 0 ∨ s.size - u.2.1 + 1 < u.2.2.2))} => ⟨18, [(0, .ptr 1000 0), (1, .clo 141 [.ptr 1001 0, .ptr 1002 0])], [(500, some (.arr 9 1 (u.1.1.map strR))), (1000, some (.blk 102 [.d (.str s), .d (.int (u.1.2.1 : Int)), .d (.int u.1.2.2.1)])), (1001, some (.blk 40 [.d (.int tg), .arr 500 0 u.1.1.length, .d (.int 0), .d (.int 0), .d (.str ByteArray.empty), .d (.str ByteArray.empty), .lit (.slice none 0 0), .lit (.slice none 0 0), .lit (.slice none 0 0)])), (1002, some (.blk 100 [.ptr 1000 0]))]⟩)
    (μ := fun u => u.1.2.2.2) ⟨([], a, e, s.size + 2), ⟨by simp, ha, by simp, by dsimp only; omega, .inr (by dsimp only; omega)⟩⟩ (Le.sub (by simp) (by simp)) (fun ⟨(us, c, ee, m), hw⟩ => ?_)
  dsimp only at hw ⊢
  obtain ⟨hmm, hcl, hum, hm0, hon⟩ := hw
  obtain ⟨m, rfl⟩ : ∃ k, m = k + 1 := ⟨m - 1, by omega⟩
  have hpk := cs_Peek s c ee hcl hs
  obtain ⟨W, hW⟩ : ∃ W, W = pkW s c := ⟨_, rfl⟩
  obtain ⟨A, hA⟩ : ∃ A, A = pkA s c := ⟨_, rfl⟩
  have hA1 : c ≤ A := by rw [hA]; exact (pkA_le hcl).1
  have hA2 : A ≤ s.size := by rw [hA]; exact (pkA_le hcl).2
  rw [← hW, ← hA] at hpk
  by_cases q1 : ee = 0
  · have q1t := eq_true q1
    by_cases q2 : W = ⟨#[41]⟩
    · have q2t := eq_true q2
      refine AWp.rg [] [.c [] [.ptr 1000 0] [(1000, .blk 102 [.d (.str s), .d (.int (c : Int)), .d (.int ee)])] (.d (.str W)) [(1000, .blk 102 [.d (.str s), .d (.int (A : Int)), .d (.int ee)])]] ?_ (hr := by conv => lhs; simp [q1t, q2t])
      refine AWp.cn ?_
      refine AWp.exit ?_
      rw [manyP_end q1 (by rw [← hW]; exact q2)] at hmm
      rw [← hA] at hmm
      have hwt := cs_want s rbr A ee hA2 hs
      generalize wantS s rbr (A, ee) = p3 at hmm hwt
      obtain ⟨A3, e3⟩ := p3
      dsimp only at hmm hwt
      rw [List.append_nil] at hmm
      rw [hmm]
      dsimp only
      refine AWp.rg [] [.c [] [.ptr 1000 0, .d (.str (⟨#[41]⟩))] [(1000, .blk 102 [.d (.str s), .d (.int (A : Int)), .d (.int ee)])] (.tuple []) [(1000, .blk 102 [.d (.str s), .d (.int (A3 : Int)), .d (.int e3)])]] ?_ (hr := by conv => lhs; simp [q1t, q2t])
      try dsimp only [thenQ, blockQ]
      apply endC.normal
      · rfl
      · conv => lhs; simp [resAV, Tryd.results93]
      · rfl
      · simp [moEnd, memGet]
    refine AWp.rg [] [.c [] [.ptr 1000 0] [(1000, .blk 102 [.d (.str s), .d (.int (c : Int)), .d (.int ee)])] (.d (.str W)) [(1000, .blk 102 [.d (.str s), .d (.int (A : Int)), .d (.int ee)])]] ?_ (hr := by conv => lhs; simp [q1t, q2])
    refine AWp.cy ?_
    refine AWp.skip ?_
    rw [manyP_one q1 (by rw [← hW]; exact q2)] at hmm
    have hone := ((fun p h => namP_adv h) : ∀ p : PS, p.1 ≤ s.size → Adv s p ((namP s) p).2) (A, ee) hA2
    have hcl := hF us A ee (by omega) hA2
    rw [← hA] at hmm
    generalize (namP s) (A, ee) = x at hmm hone hcl
    obtain ⟨x, c2, e2⟩ := x
    have hs2 := hone.sz
    have ho2 := hone.on
    dsimp only at hmm hone hcl hs2 ho2
    obtain ⟨us2, hus2⟩ : ∃ l, l = us ++ [x] := ⟨_, rfl⟩
    have hus2l : us2.length = us.length + 1 := by rw [hus2]; simp
    rw [← hus2] at hcl
    refine AWp.rg [] [.c [] [.ptr 1001 0, .ptr 1002 0] [(1000, .blk 102 [.d (.str s), .d (.int (A : Int)), .d (.int ee)]), (1001, .blk 40 [.d (.int tg), .arr 500 0 us.length, .d (.int 0), .d (.int 0), .d (.str ByteArray.empty), .d (.str ByteArray.empty), .lit (.slice none 0 0), .lit (.slice none 0 0), .lit (.slice none 0 0)]), (1002, .blk 100 [.ptr 1000 0]), (500, .arr 9 1 (us.map strR))] (.tuple []) [(1000, .blk 102 [.d (.str s), .d (.int (c2 : Int)), .d (.int e2)]), (1001, .blk 40 [.d (.int tg), .arr 500 0 us2.length, .d (.int 0), .d (.int 0), .d (.str ByteArray.empty), .d (.str ByteArray.empty), .lit (.slice none 0 0), .lit (.slice none 0 0), .lit (.slice none 0 0)]), (1002, .blk 100 [.ptr 1000 0]), (500, .arr 9 1 (us2.map strR))]] ?_ (hr := by conv => lhs; simp [q1t, q2])
    refine ⟨⟨(us2, c2, e2, m), ⟨by rw [hmm, hus2]; simp, hs2, by dsimp only; omega, by dsimp only; rcases hon with h | h <;> omega, by dsimp only; rcases ho2 with h | h; exact .inl h; right; rcases hon with h | h <;> omega⟩⟩, by dsimp only; omega, ?_⟩
    dsimp only
    exact Le.sub (by simp) (by simp)
  refine AWp.rg [] [] ?_ (hr := by conv => lhs; simp [q1])
  refine AWp.cn ?_
  refine AWp.exit ?_
  rw [manyP_err q1] at hmm
  have hwt := cs_want s rbr c ee hcl hs
  generalize wantS s rbr (c, ee) = p3 at hmm hwt
  obtain ⟨A3, e3⟩ := p3
  dsimp only at hmm hwt
  rw [List.append_nil] at hmm
  rw [hmm]
  dsimp only
  refine AWp.rg [] [.c [] [.ptr 1000 0, .d (.str (⟨#[41]⟩))] [(1000, .blk 102 [.d (.str s), .d (.int (c : Int)), .d (.int ee)])] (.tuple []) [(1000, .blk 102 [.d (.str s), .d (.int (A3 : Int)), .d (.int e3)])]] ?_ (hr := by conv => lhs; simp [q1])
  try dsimp only [thenQ, blockQ]
  apply endC.normal
  · rfl
  · conv => lhs; simp [resAV, Tryd.results93]
  · rfl
  · simp [moEnd, memGet]
set_option maxRecDepth 20000 in
set_option maxHeartbeats 16000000 in
theorem cs_manyP (s : ByteArray) (fg : ByteArray) (a : Nat) (e : Int) (ha : a ≤ s.size) (hs : s.size ≤ 1500)
    (hF : ∀ (us : List ByteArray) (a : Nat) (e : Int), us.length ≤ 1600 → a ≤ s.size → CSpec Tryd.prog 94 [.ptr 1001 0, .ptr 1002 0] [(1000, .blk 102 [.d (.str s), .d (.int (a : Int)), .d (.int e)]), (1001, .blk 36 [.d (.str fg), .arr 500 0 us.length, .d (.int 0), .d (.int 0), .d (.str ByteArray.empty), .d (.str ByteArray.empty), .lit (.slice none 0 0), .lit (.slice none 0 0), .lit (.slice none 0 0)]), (1002, .blk 100 [.ptr 1000 0]), (500, .arr 9 1 (us.map strR))] (.tuple []) [(1000, .blk 102 [.d (.str s), .d (.int (((namP s) (a, e)).2.1 : Int)), .d (.int (((namP s) (a, e)).2.2))]), (1001, .blk 36 [.d (.str fg), .arr 500 0 ((us ++ [((namP s) (a, e)).1]).length), .d (.int 0), .d (.int 0), .d (.str ByteArray.empty), .d (.str ByteArray.empty), .lit (.slice none 0 0), .lit (.slice none 0 0), .lit (.slice none 0 0)]), (1002, .blk 100 [.ptr 1000 0]), (500, .arr 9 1 ((us ++ [((namP s) (a, e)).1]).map strR))]) :
    CSpec Tryd.prog 93 [.ptr 1000 0, .clo 94 [.ptr 1001 0, .ptr 1002 0]] [(1000, .blk 102 [.d (.str s), .d (.int (a : Int)), .d (.int e)]), (1001, .blk 36 [.d (.str fg), .arr 500 0 (([] : List ByteArray).length), .d (.int 0), .d (.int 0), .d (.str ByteArray.empty), .d (.str ByteArray.empty), .lit (.slice none 0 0), .lit (.slice none 0 0), .lit (.slice none 0 0)]), (1002, .blk 100 [.ptr 1000 0]), (500, .arr 9 1 (([] : List ByteArray).map strR))] (.tuple []) [(1000, .blk 102 [.d (.str s), .d (.int ((manyP s (namP s) (s.size + 2) (a, e)).2.1 : Int)), .d (.int ((manyP s (namP s) (s.size + 2) (a, e)).2.2))]), (1001, .blk 36 [.d (.str fg), .arr 500 0 ((manyP s (namP s) (s.size + 2) (a, e)).1.length), .d (.int 0), .d (.int 0), .d (.str ByteArray.empty), .d (.str ByteArray.empty), .lit (.slice none 0 0), .lit (.slice none 0 0), .lit (.slice none 0 0)]), (1002, .blk 100 [.ptr 1000 0]), (500, .arr 9 1 ((manyP s (namP s) (s.size + 2) (a, e)).1.map strR))] := by
  try unfold pO at *
  refine CSpec.of Tryd.func93 rfl rfl (Nat.le_of_ble_eq_true rfl) ?_
  show AWp _ _ (endC _ Tryd.f93 _ _) (startC 18 _ _)
  repeat (first | refine AWp.seq ?_ | refine AWp.block ?_)
  refine AWp.loop (σ := fun u : {u : List ByteArray × Nat × Int × Nat // (manyP s (namP s) (s.size + 2) (a, e) = (u.1 ++ (manyP s (namP s) u.2.2.2 (u.2.1, u.2.2.1)).1, (manyP s (namP s) u.2.2.2 (u.2.1, u.2.2.1)).2) ∧ u.2.1 ≤ s.size ∧ u.1.length + u.2.2.2 = s.size + 2 ∧ 0 < u.2.2.2 ∧ (u.2.2.1 ≠ 0 ∨ s.size - u.2.1 + 1 < u.2.2.2))} => ⟨18, [(0, .ptr 1000 0), (1, .clo 94 [.ptr 1001 0, .ptr 1002 0])], [(500, some (.arr 9 1 (u.1.1.map strR))), (1000, some (.blk 102 [.d (.str s), .d (.int (u.1.2.1 : Int)), .d (.int u.1.2.2.1)])), (1001, some (.blk 36 [.d (.str fg), .arr 500 0 u.1.1.length, .d (.int 0), .d (.int 0), .d (.str ByteArray.empty), .d (.str ByteArray.empty), .lit (.slice none 0 0), .lit (.slice none 0 0), .lit (.slice none 0 0)])), (1002, some (.blk 100 [.ptr 1000 0]))]⟩)
    (μ := fun u => u.1.2.2.2) ⟨([], a, e, s.size + 2), ⟨by simp, ha, by simp, by dsimp only; omega, .inr (by dsimp only; omega)⟩⟩ (Le.sub (by simp) (by simp)) (fun ⟨(us, c, ee, m), hw⟩ => ?_)
  dsimp only at hw ⊢
  obtain ⟨hmm, hcl, hum, hm0, hon⟩ := hw
  obtain ⟨m, rfl⟩ : ∃ k, m = k + 1 := ⟨m - 1, by omega⟩
  have hpk := cs_Peek s c ee hcl hs
  obtain ⟨W, hW⟩ : ∃ W, W = pkW s c := ⟨_, rfl⟩
  obtain ⟨A, hA⟩ : ∃ A, A = pkA s c := ⟨_, rfl⟩
  have hA1 : c ≤ A := by rw [hA]; exact (pkA_le hcl).1
  have hA2 : A ≤ s.size := by rw [hA]; exact (pkA_le hcl).2
  rw [← hW, ← hA] at hpk
  by_cases q1 : ee = 0
  · have q1t := eq_true q1
    by_cases q2 : W = ⟨#[41]⟩
    · have q2t := eq_true q2
      refine AWp.rg [] [.c [] [.ptr 1000 0] [(1000, .blk 102 [.d (.str s), .d (.int (c : Int)), .d (.int ee)])] (.d (.str W)) [(1000, .blk 102 [.d (.str s), .d (.int (A : Int)), .d (.int ee)])]] ?_ (hr := by conv => lhs; simp [q1t, q2t])
      refine AWp.cn ?_
      refine AWp.exit ?_
      rw [manyP_end q1 (by rw [← hW]; exact q2)] at hmm
      rw [← hA] at hmm
      have hwt := cs_want s rbr A ee hA2 hs
      generalize wantS s rbr (A, ee) = p3 at hmm hwt
      obtain ⟨A3, e3⟩ := p3
      dsimp only at hmm hwt
      rw [List.append_nil] at hmm
      rw [hmm]
      dsimp only
      refine AWp.rg [] [.c [] [.ptr 1000 0, .d (.str (⟨#[41]⟩))] [(1000, .blk 102 [.d (.str s), .d (.int (A : Int)), .d (.int ee)])] (.tuple []) [(1000, .blk 102 [.d (.str s), .d (.int (A3 : Int)), .d (.int e3)])]] ?_ (hr := by conv => lhs; simp [q1t, q2t])
      try dsimp only [thenQ, blockQ]
      apply endC.normal
      · rfl
      · conv => lhs; simp [resAV, Tryd.results93]
      · rfl
      · simp [moEnd, memGet]
    refine AWp.rg [] [.c [] [.ptr 1000 0] [(1000, .blk 102 [.d (.str s), .d (.int (c : Int)), .d (.int ee)])] (.d (.str W)) [(1000, .blk 102 [.d (.str s), .d (.int (A : Int)), .d (.int ee)])]] ?_ (hr := by conv => lhs; simp [q1t, q2])
    refine AWp.cy ?_
    refine AWp.skip ?_
    rw [manyP_one q1 (by rw [← hW]; exact q2)] at hmm
    have hone := ((fun p h => namP_adv h) : ∀ p : PS, p.1 ≤ s.size → Adv s p ((namP s) p).2) (A, ee) hA2
    have hcl := hF us A ee (by omega) hA2
    rw [← hA] at hmm
    generalize (namP s) (A, ee) = x at hmm hone hcl
    obtain ⟨x, c2, e2⟩ := x
    have hs2 := hone.sz
    have ho2 := hone.on
    dsimp only at hmm hone hcl hs2 ho2
    obtain ⟨us2, hus2⟩ : ∃ l, l = us ++ [x] := ⟨_, rfl⟩
    have hus2l : us2.length = us.length + 1 := by rw [hus2]; simp
    rw [← hus2] at hcl
    refine AWp.rg [] [.c [] [.ptr 1001 0, .ptr 1002 0] [(1000, .blk 102 [.d (.str s), .d (.int (A : Int)), .d (.int ee)]), (1001, .blk 36 [.d (.str fg), .arr 500 0 us.length, .d (.int 0), .d (.int 0), .d (.str ByteArray.empty), .d (.str ByteArray.empty), .lit (.slice none 0 0), .lit (.slice none 0 0), .lit (.slice none 0 0)]), (1002, .blk 100 [.ptr 1000 0]), (500, .arr 9 1 (us.map strR))] (.tuple []) [(1000, .blk 102 [.d (.str s), .d (.int (c2 : Int)), .d (.int e2)]), (1001, .blk 36 [.d (.str fg), .arr 500 0 us2.length, .d (.int 0), .d (.int 0), .d (.str ByteArray.empty), .d (.str ByteArray.empty), .lit (.slice none 0 0), .lit (.slice none 0 0), .lit (.slice none 0 0)]), (1002, .blk 100 [.ptr 1000 0]), (500, .arr 9 1 (us2.map strR))]] ?_ (hr := by conv => lhs; simp [q1t, q2])
    refine ⟨⟨(us2, c2, e2, m), ⟨by rw [hmm, hus2]; simp, hs2, by dsimp only; omega, by dsimp only; rcases hon with h | h <;> omega, by dsimp only; rcases ho2 with h | h; exact .inl h; right; rcases hon with h | h <;> omega⟩⟩, by dsimp only; omega, ?_⟩
    dsimp only
    exact Le.sub (by simp) (by simp)
  refine AWp.rg [] [] ?_ (hr := by conv => lhs; simp [q1])
  refine AWp.cn ?_
  refine AWp.exit ?_
  rw [manyP_err q1] at hmm
  have hwt := cs_want s rbr c ee hcl hs
  generalize wantS s rbr (c, ee) = p3 at hmm hwt
  obtain ⟨A3, e3⟩ := p3
  dsimp only at hmm hwt
  rw [List.append_nil] at hmm
  rw [hmm]
  dsimp only
  refine AWp.rg [] [.c [] [.ptr 1000 0, .d (.str (⟨#[41]⟩))] [(1000, .blk 102 [.d (.str s), .d (.int (c : Int)), .d (.int ee)])] (.tuple []) [(1000, .blk 102 [.d (.str s), .d (.int (A3 : Int)), .d (.int e3)])]] ?_ (hr := by conv => lhs; simp [q1])
  try dsimp only [thenQ, blockQ]
  apply endC.normal
  · rfl
  · conv => lhs; simp [resAV, Tryd.results93]
  · rfl
  · simp [moEnd, memGet]
end Go.Proofs.YtapiiklnnkkdlaaDoor
