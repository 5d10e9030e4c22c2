import Derived.Test.YtapiiklnnkkdlaaDoorTextC
/- text's reader: tag, names, terms, cases. Printed by a small program. -/
namespace Go.Proofs.YtapiiklnnkkdlaaDoor
open Go.RowKit
attribute [local simp] runD mkRc ldOf stOf stOk ldArg noAny dstOk guardOk opEff opEff0 effOp pureOp callOp zEff evA constAV scalAV Value.oneCell' frGet memGet startAS frOf isGoCall idIn AS.after nextR opnIds objIds AV.ids idsL AObj.ids frNo memNo opnAny isAny mkVal rdCells wrCells fldAddr idxAddr srcRows litRows toD1 toDs setAt sliceAV optI partAV bldAV fillAV binAV binI AV.cells callEff calleeOf frKill memKill AV.kill AObj.kill AV.has AV.hasL Op.operands Call.operands keepF keepM viewIds cChk renOf moGet moWs moQ cEff moLike moHave AV.ren renL AObj.ren AObj.like kept startC moMem AV.frz frz1 frzL frSub memSub frzs AS.frz frFrz memFrz AObj.frz takeMap takeLen bleF Nat.ble_eq memAny objAny mapOp D.keyOk rowAV valRow extOp wrapOp phO frLow memLow memLow1 objLow memEmpty Low LowL
set_option linter.unusedVariables false
set_option linter.unusedSimpArgs false
set_option maxRecDepth 20000 in
set_option maxHeartbeats 16000000 in
theorem cs_ttag (l : List ByteArray) (e : Int) (hl : Lok l) : CSpec Tryd.prog 131 [.ptr 1000 0] [(1000, rO l e)] (.d (.int (tagT (l, e)).1)) [(1000, rO (tagT (l, e)).2.1 (tagT (l, e)).2.2)] := by
  unfold tagT badT
  dsimp only
  have htk := cs_take l e hl.len
  have hWs := hl.hd
  generalize nxT (l, e) = p2 at htk ⊢
  obtain ⟨l2, e2⟩ := p2
  generalize hdT l = W at htk hWs ⊢
  dsimp only at htk
  unfold rO at *
  refine CSpec.of Tryd.func131 rfl rfl (Nat.le_of_ble_eq_true rfl) ?_
  show AWp _ _ (endC _ Tryd.f131 _ _) (startC 29 _ _)
  refine AWp.rg [] [] ?_
  refine AWp.rg [] [.c [] [.ptr 1000 0] [(1000, .blk 95 [.d (strsD l), .d (.int e)])] (.d (.str W)) [(1000, .blk 95 [.d (strsD l2), .d (.int e2)])]] ?_
  obtain ⟨M, hM⟩ : ∃ M : Int, (W.size : Int) = M := ⟨_, rfl⟩
  by_cases hl2 : M < 2
  · rw [show decide (1 < W.size) = false from decide_eq_false (by omega), Bool.false_and, if_neg (by decide)]
    refine AWp.rg [] [] ?_ (hr := by conv => lhs; simp [hM, hl2])
    refine AWp.cy ?_
    have hf := cs_tfail l2 e2 2
    unfold rO at hf
    refine AWp.rg [] [.c [] [.ptr 1000 0, .d (.int 2)] [(1000, .blk 95 [.d (strsD l2), .d (.int e2)])] (.tuple []) [(1000, .blk 95 [.d (strsD l2), .d (.int (badE e2 2))])]] ?_ (hr := by conv => lhs; simp [hM, hl2])
    refine AWp.rg [] [] ?_ (hr := by conv => lhs; simp [hM, hl2])
    refine AWp.ret ?_
    try simp only [if_true, Bool.false_eq_true, if_false]
    try dsimp only [thenQ, blockQ]
    apply endC.ret
    · rfl
    · conv => lhs; simp [resAV, Tryd.results131]
    · first | rfl | simp
    · simp [moEnd, memGet]
  have h1c : W[0]? = some W[0] := by rw [getElem?_pos]
  generalize W[0] = c at h1c
  rw [sharp_of h1c, show decide (1 < W.size) = true from decide_eq_true (by omega), Bool.true_and]
  obtain ⟨cn, hcn⟩ : ∃ n : Int, (c.toNat : Int) = n := ⟨_, rfl⟩
  rw [hcn]
  by_cases q1 : cn = 35
  · have q1t := eq_true q1
    refine AWp.rg [] [] ?_ (hr := by conv => lhs; simp [hM, h1c, hcn, hl2, q1t])
    refine AWp.cn ?_
    refine AWp.skip ?_
    rw [show decide (cn = 35) = true from decide_eq_true q1, if_pos rfl]
    have hX0 : (W.extract 1 W.size).size ≤ 1600 := by rw [ByteArray.size_extract]; omega
    have hnu := sp_number (W.extract 1 W.size) (by omega)
    have hX : W.extract 1 M.toNat = W.extract 1 W.size := by rw [← hM, Int.toNat_natCast]
    generalize W.extract 1 W.size = X at *
    generalize numP X = nq at *
    obtain ⟨n, q⟩ := nq
    dsimp only at hnu ⊢
    refine AWp.rg [] [.p (fun _ => .tuple [.d (.int n), .d (.bool q)]) none] ?_ (hr := by conv => lhs; simp [hM, h1c, hcn, hX, hl2, q1t])
    cases q with
    | true =>
      refine AWp.rg [] [] ?_ (hr := by conv => lhs; simp [hM, h1c, hcn, hX, hl2, q1t])
      refine AWp.cn ?_
      refine AWp.skip ?_
      refine AWp.rg [] [] ?_ (hr := by conv => lhs; simp [hM, h1c, hcn, hX, hl2, q1t])
      refine AWp.ret ?_
      try simp only [if_true, Bool.false_eq_true, if_false]
      try dsimp only [thenQ, blockQ]
      apply endC.ret
      · rfl
      · conv => lhs; simp [resAV, Tryd.results131]
      · first | rfl | simp
      · simp [moEnd, memGet]
    | false =>
      refine AWp.rg [] [] ?_ (hr := by conv => lhs; simp [hM, h1c, hcn, hX, hl2, q1t])
      refine AWp.cy ?_
      have hf := cs_tfail l2 e2 2
      unfold rO at hf
      refine AWp.rg [] [.c [] [.ptr 1000 0, .d (.int 2)] [(1000, .blk 95 [.d (strsD l2), .d (.int e2)])] (.tuple []) [(1000, .blk 95 [.d (strsD l2), .d (.int (badE e2 2))])]] ?_ (hr := by conv => lhs; simp [hM, h1c, hcn, hX, hl2, q1t])
      refine AWp.rg [] [] ?_ (hr := by conv => lhs; simp [hM, h1c, hcn, hX, hl2, q1t])
      refine AWp.ret ?_
      try simp only [if_true, Bool.false_eq_true, if_false]
      try dsimp only [thenQ, blockQ]
      apply endC.ret
      · rfl
      · conv => lhs; simp [resAV, Tryd.results131]
      · first | rfl | simp
      · simp [moEnd, memGet]
  refine AWp.rg [] [] ?_ (hr := by conv => lhs; simp [hM, h1c, hcn, hl2, q1])
  refine AWp.cy ?_
  rw [show decide (cn = 35) = false from decide_eq_false q1, if_neg (by decide)]
  have hf := cs_tfail l2 e2 2
  unfold rO at hf
  refine AWp.rg [] [.c [] [.ptr 1000 0, .d (.int 2)] [(1000, .blk 95 [.d (strsD l2), .d (.int e2)])] (.tuple []) [(1000, .blk 95 [.d (strsD l2), .d (.int (badE e2 2))])]] ?_ (hr := by conv => lhs; simp [hM, h1c, hcn, hl2, q1])
  refine AWp.rg [] [] ?_ (hr := by conv => lhs; simp [hM, h1c, hcn, hl2, q1])
  refine AWp.ret ?_
  try simp only [if_true, Bool.false_eq_true, if_false]
  try dsimp only [thenQ, blockQ]
  apply endC.ret
  · rfl
  · conv => lhs; simp [resAV, Tryd.results131]
  · first | rfl | simp
  · simp [moEnd, memGet]
set_option maxRecDepth 20000 in
set_option maxHeartbeats 16000000 in
theorem cs_names (l : List ByteArray) (e : Int) (N : Nat) (hN : l.length + 1 < N) (hNm : N ≤ 1600) (hl : Lok l) : CSpec Tryd.prog 88 [.ptr 1000 0] [(1000, rO l e)] (.d (strsD (manyT namT N (l, e)).1)) [(1000, rO (manyT namT N (l, e)).2.1 (manyT namT N (l, e)).2.2)] := by
  unfold rO at *
  refine CSpec.of Tryd.func88 rfl rfl (Nat.le_of_ble_eq_true rfl) ?_
  show AWp _ _ (endC _ Tryd.f88 _ _) (startC 22 _ _)
  refine AWp.rg [] [] ?_
  refine AWp.rg [] [] ?_
  repeat (first | refine AWp.seq ?_ | refine AWp.block ?_)
  refine AWp.le (Le.low [400] [] (fr := [(0, .ptr 1000 0), (3, .arr 400 0 ([] : List ByteArray).length)]) (mem := [(400, some (.arr 9 1 (([] : List ByteArray).map strR))), (1000, some (.blk 95 [.d (strsD (l : List ByteArray)), .d (.int (e : Int))]))]) rfl (by simp) (by simp)) ?_
  refine AWp.loop (σ := fun u : {u : List ByteArray × List ByteArray × Int × Nat // (manyT namT N (l, e) = (u.1 ++ (manyT namT u.2.2.2 (u.2.1, u.2.2.1)).1, (manyT namT u.2.2.2 (u.2.1, u.2.2.1)).2) ∧ Lok u.2.1 ∧ u.1.length + u.2.2.2 = N ∧ 0 < u.2.2.2 ∧ (u.2.2.1 ≠ 0 ∨ u.2.1.length + 1 < u.2.2.2))} => ⟨22, [(0, .ptr 1000 0), (3, .arr 400 0 u.1.1.length)], [(400, some (.arr 9 1 (u.1.1.map strR))), (1000, some (.blk 95 [.d (strsD u.1.2.1), .d (.int u.1.2.2.1)]))]⟩)
    (μ := fun u => u.1.2.2.2) ⟨([], l, e, N), ⟨by simp, hl, by simp, by dsimp only; omega, .inr (by dsimp only; omega)⟩⟩ (Le.sub (by simp) (by simp)) (fun ⟨(us, c, ee, m), hw⟩ => ?_)
  dsimp only at hw ⊢
  obtain ⟨hmm, hck, hum, hm0, hon⟩ := hw
  obtain ⟨m, rfl⟩ : ∃ k, m = k + 1 := ⟨m - 1, by omega⟩
  have hnx := cs_tnext c ee hck.len
  obtain ⟨W, hW⟩ : ∃ W, W = hdT c := ⟨_, rfl⟩
  rw [← hW] at hnx
  by_cases q1 : ee = 0
  · have q1t := eq_true q1
    by_cases q2 : W = ⟨#[41]⟩
    · have q2t := eq_true q2
      refine AWp.rg [] [.c [] [.ptr 1000 0] [(1000, .blk 95 [.d (strsD c), .d (.int ee)])] (.d (.str W)) [(1000, .blk 95 [.d (strsD c), .d (.int ee)])]] ?_ (hr := by conv => lhs; simp [q1t, q2t])
      refine AWp.cn ?_
      refine AWp.exit ?_
      rw [manyT_end q1 (by rw [← hW]; exact q2)] at hmm
      have hwt := cs_must c rbr ee hck.len
      generalize wantT rbr (c, ee) = p3 at hmm hwt
      obtain ⟨l3, e3⟩ := p3
      dsimp only at hmm hwt
      rw [List.append_nil] at hmm
      rw [hmm]
      dsimp only
      refine AWp.rg [] [.c [] [.ptr 1000 0, .d (.str (⟨#[41]⟩))] [(1000, .blk 95 [.d (strsD c), .d (.int ee)])] (.tuple []) [(1000, .blk 95 [.d (strsD l3), .d (.int e3)])]] ?_ (hr := by conv => lhs; simp [q1t, q2t])
      refine AWp.rg [] [] ?_ (hr := by conv => lhs; simp [q1t, q2t])
      refine AWp.ret ?_
      try dsimp only [thenQ, blockQ]
      apply endC.retF [400]
      · rfl
      · conv => lhs; simp
      · conv => lhs; simp [resAV, Tryd.results88]
      · first | rfl | simp
      · simp [moEnd, memGet]
    refine AWp.rg [] [.c [] [.ptr 1000 0] [(1000, .blk 95 [.d (strsD c), .d (.int ee)])] (.d (.str W)) [(1000, .blk 95 [.d (strsD c), .d (.int ee)])]] ?_ (hr := by conv => lhs; simp [q1t, q2])
    refine AWp.cy ?_
    refine AWp.skip ?_
    rw [manyT_one q1 (by rw [← hW]; exact q2)] at hmm
    have hav := namT_av (c, ee)
    have hck2 : Lok (namT (c, ee)).2.1 := Lok.of (p := (c, ee)) hck hav.toTst
    have hcl := cs_tname c ee hck.len (fun s hs => sp_tName s (by omega)) hck.hd
    generalize namT (c, ee) = x at hmm hav hcl hck2
    obtain ⟨x, c2, e2⟩ := x
    dsimp only at hmm hav hcl hck2
    have hlen := hav.le
    have hon2 := hav.on
    dsimp only at hlen hon2
    obtain ⟨us2, hus2⟩ : ∃ z, z = us ++ [x] := ⟨_, rfl⟩
    have hus2l : us.length + 1 = us2.length := by rw [hus2]; simp
    have hmx : us2.length ≤ maxLen := by unfold maxLen; omega
    have hmu : List.map strR us ++ [[D.str x]] = List.map strR us2 := by rw [hus2]; simp
    refine AWp.rg [3] [.c [] [.ptr 1000 0] [(1000, .blk 95 [.d (strsD c), .d (.int ee)])] (.d (.str x)) [(1000, .blk 95 [.d (strsD c2), .d (.int e2)])]] ?_ (hr := by conv => lhs; simp [hmu, hus2l, q1t, q2])
    refine ⟨⟨(us2, c2, e2, m), ⟨by rw [hmm, hus2]; simp, hck2, by dsimp only; omega, by dsimp only; rcases hon with h | h <;> omega, by dsimp only; rcases hon2 with h | h; exact .inl h; right; rcases hon with h | h <;> omega⟩⟩, by dsimp only; omega, ?_⟩
    dsimp only
    exact Le.sub (by simp) (by simp)
  refine AWp.rg [] [] ?_ (hr := by conv => lhs; simp [q1])
  refine AWp.cn ?_
  refine AWp.exit ?_
  rw [manyT_err q1] at hmm
  have hwt := cs_must c rbr ee hck.len
  generalize wantT rbr (c, ee) = p3 at hmm hwt
  obtain ⟨l3, e3⟩ := p3
  dsimp only at hmm hwt
  rw [List.append_nil] at hmm
  rw [hmm]
  dsimp only
  refine AWp.rg [] [.c [] [.ptr 1000 0, .d (.str (⟨#[41]⟩))] [(1000, .blk 95 [.d (strsD c), .d (.int ee)])] (.tuple []) [(1000, .blk 95 [.d (strsD l3), .d (.int e3)])]] ?_ (hr := by conv => lhs; simp [q1])
  refine AWp.rg [] [] ?_ (hr := by conv => lhs; simp [q1])
  refine AWp.ret ?_
  try dsimp only [thenQ, blockQ]
  apply endC.retF [400]
  · rfl
  · conv => lhs; simp
  · conv => lhs; simp [resAV, Tryd.results88]
  · first | rfl | simp
  · simp [moEnd, memGet]
def TermT (N n : Nat) : Prop := ∀ (l : List ByteArray) (e : Int), l.length + 1 < N → Lok l → CSpec Tryd.prog 89 [.ptr 1000 0, .d (.int (25 - (n : Int)))] [(1000, rO l e)] (tmAV (Tm.ts N n (l, e)).1) [(1000, rO (Tm.ts N n (l, e)).2.1 (Tm.ts N n (l, e)).2.2)]
set_option maxRecDepth 20000 in
set_option maxHeartbeats 16000000 in
theorem cs_terms (l : List ByteArray) (e : Int) (N n : Nat) (hT : TermT N n) (hN : l.length + 1 < N) (hNm : N ≤ 1600) (hl : Lok l) : CSpec Tryd.prog 132 [.ptr 1000 0, .d (.int (25 - (n : Int)))] [(1000, rO l e)] (tmsAV (manyT (Tm.ts N n) N (l, e)).1) [(1000, rO (manyT (Tm.ts N n) N (l, e)).2.1 (manyT (Tm.ts N n) N (l, e)).2.2)] := by
  unfold TermT at hT
  generalize 25 - (n : Int) = D at hT ⊢
  unfold rO at *
  refine CSpec.of Tryd.func132 rfl rfl (Nat.le_of_ble_eq_true rfl) ?_
  show AWp _ _ (endC _ Tryd.f132 _ _) (startC 25 _ _)
  refine AWp.rg [] [] ?_ (hr := by conv => lhs; simp [Tm.row, Tm.rows_eq, Cs.rows_eq])
  refine AWp.rg [] [] ?_ (hr := by conv => lhs; simp [Tm.row, Tm.rows_eq, Cs.rows_eq])
  repeat (first | refine AWp.seq ?_ | refine AWp.block ?_)
  refine AWp.le (Le.low [400] [] (fr := [(0, .ptr 1000 0), (1, .d (.int D)), (5, .arr 400 0 ([] : List Tm).length)]) (mem := [(400, some (.arr 34 7 (([] : List Tm).map Tm.row))), (1000, some (.blk 95 [.d (strsD (l : List ByteArray)), .d (.int (e : Int))]))]) rfl (by simp) (by simp)) ?_
  refine AWp.loop (σ := fun u : {u : List Tm × List ByteArray × Int × Nat // (manyT (Tm.ts N n) N (l, e) = (u.1 ++ (manyT (Tm.ts N n) u.2.2.2 (u.2.1, u.2.2.1)).1, (manyT (Tm.ts N n) u.2.2.2 (u.2.1, u.2.2.1)).2) ∧ Lok u.2.1 ∧ u.1.length + u.2.2.2 = N ∧ 0 < u.2.2.2 ∧ (u.2.2.1 ≠ 0 ∨ u.2.1.length + 1 < u.2.2.2))} => ⟨25, [(0, .ptr 1000 0), (1, .d (.int D)), (5, .arr 400 0 u.1.1.length)], [(400, some (.arr 34 7 (u.1.1.map Tm.row))), (1000, some (.blk 95 [.d (strsD u.1.2.1), .d (.int u.1.2.2.1)]))]⟩)
    (μ := fun u => u.1.2.2.2) ⟨([], l, e, N), ⟨by simp, hl, by simp, by dsimp only; omega, .inr (by dsimp only; omega)⟩⟩ (Le.sub (by simp) (by simp)) (fun ⟨(us, c, ee, m), hw⟩ => ?_)
  dsimp only at hw ⊢
  obtain ⟨hmm, hck, hum, hm0, hon⟩ := hw
  obtain ⟨m, rfl⟩ : ∃ k, m = k + 1 := ⟨m - 1, by omega⟩
  have hnx := cs_tnext c ee hck.len
  obtain ⟨W, hW⟩ : ∃ W, W = hdT c := ⟨_, rfl⟩
  rw [← hW] at hnx
  by_cases q1 : ee = 0
  · have q1t := eq_true q1
    by_cases q2 : W = ⟨#[41]⟩
    · have q2t := eq_true q2
      refine AWp.rg [] [.c [] [.ptr 1000 0] [(1000, .blk 95 [.d (strsD c), .d (.int ee)])] (.d (.str W)) [(1000, .blk 95 [.d (strsD c), .d (.int ee)])]] ?_ (hr := by conv => lhs; simp [Tm.row, Tm.rows_eq, Cs.rows_eq, q1t, q2t])
      refine AWp.cn ?_
      refine AWp.exit ?_
      rw [manyT_end q1 (by rw [← hW]; exact q2)] at hmm
      have hwt := cs_must c rbr ee hck.len
      generalize wantT rbr (c, ee) = p3 at hmm hwt
      obtain ⟨l3, e3⟩ := p3
      dsimp only at hmm hwt
      rw [List.append_nil] at hmm
      rw [hmm]
      dsimp only
      refine AWp.rg [] [.c [] [.ptr 1000 0, .d (.str (⟨#[41]⟩))] [(1000, .blk 95 [.d (strsD c), .d (.int ee)])] (.tuple []) [(1000, .blk 95 [.d (strsD l3), .d (.int e3)])]] ?_ (hr := by conv => lhs; simp [Tm.row, Tm.rows_eq, Cs.rows_eq, q1t, q2t])
      refine AWp.rg [] [] ?_ (hr := by conv => lhs; simp [Tm.row, Tm.rows_eq, Cs.rows_eq, q1t, q2t])
      refine AWp.ret ?_
      try dsimp only [thenQ, blockQ]
      apply endC.retF [400]
      · rfl
      · conv => lhs; simp
      · conv => lhs; simp [resAV, Tryd.results132]
      · first | rfl | simp
      · simp [moEnd, memGet]
    refine AWp.rg [] [.c [] [.ptr 1000 0] [(1000, .blk 95 [.d (strsD c), .d (.int ee)])] (.d (.str W)) [(1000, .blk 95 [.d (strsD c), .d (.int ee)])]] ?_ (hr := by conv => lhs; simp [Tm.row, Tm.rows_eq, Cs.rows_eq, q1t, q2])
    refine AWp.cy ?_
    refine AWp.skip ?_
    rw [manyT_one q1 (by rw [← hW]; exact q2)] at hmm
    have hav := (ts_av N n) (c, ee)
    have hck2 : Lok ((Tm.ts N n) (c, ee)).2.1 := Lok.of (p := (c, ee)) hck hav.toTst
    have hcl := hT c ee (by omega) hck
    generalize (Tm.ts N n) (c, ee) = x at hmm hav hcl hck2
    obtain ⟨x, c2, e2⟩ := x
    dsimp only at hmm hav hcl hck2
    have hlen := hav.le
    have hon2 := hav.on
    dsimp only at hlen hon2
    obtain ⟨us2, hus2⟩ : ∃ z, z = us ++ [x] := ⟨_, rfl⟩
    have hus2l : us.length + 1 = us2.length := by rw [hus2]; simp
    have hmx : us2.length ≤ maxLen := by unfold maxLen; omega
    obtain ⟨xk, xn, xa, xb, xvs, xxs, xcs⟩ := x
    dsimp only [tmAV] at hcl
    have hmu : List.map Tm.row us ++ [[.int xk, .int xn, .str xa, .str xb, strsD xvs, .sl (xxs.map Tm.row), .sl (xcs.map Cs.row)]] = List.map Tm.row us2 := by rw [hus2]; simp [Tm.row, Tm.rows_eq, Cs.rows_eq]
    refine AWp.rg [4] [.c [] [.ptr 1000 0, .d (.int D)] [(1000, .blk 95 [.d (strsD c), .d (.int ee)])] (.agg [.d (.int xk), .d (.int xn), .d (.str xa), .d (.str xb), .d (strsD xvs), .d (.sl (xxs.map Tm.row)), .d (.sl (xcs.map Cs.row))]) [(1000, .blk 95 [.d (strsD c2), .d (.int e2)])]] ?_ (hr := by conv => lhs; simp [Tm.row, Tm.rows_eq, Cs.rows_eq, hmu, hus2l, q1t, q2])
    refine ⟨⟨(us2, c2, e2, m), ⟨by rw [hmm, hus2]; simp, hck2, by dsimp only; omega, by dsimp only; rcases hon with h | h <;> omega, by dsimp only; rcases hon2 with h | h; exact .inl h; right; rcases hon with h | h <;> omega⟩⟩, by dsimp only; omega, ?_⟩
    dsimp only
    exact Le.sub (by simp) (by simp)
  refine AWp.rg [] [] ?_ (hr := by conv => lhs; simp [Tm.row, Tm.rows_eq, Cs.rows_eq, q1])
  refine AWp.cn ?_
  refine AWp.exit ?_
  rw [manyT_err q1] at hmm
  have hwt := cs_must c rbr ee hck.len
  generalize wantT rbr (c, ee) = p3 at hmm hwt
  obtain ⟨l3, e3⟩ := p3
  dsimp only at hmm hwt
  rw [List.append_nil] at hmm
  rw [hmm]
  dsimp only
  refine AWp.rg [] [.c [] [.ptr 1000 0, .d (.str (⟨#[41]⟩))] [(1000, .blk 95 [.d (strsD c), .d (.int ee)])] (.tuple []) [(1000, .blk 95 [.d (strsD l3), .d (.int e3)])]] ?_ (hr := by conv => lhs; simp [Tm.row, Tm.rows_eq, Cs.rows_eq, q1])
  refine AWp.rg [] [] ?_ (hr := by conv => lhs; simp [Tm.row, Tm.rows_eq, Cs.rows_eq, q1])
  refine AWp.ret ?_
  try dsimp only [thenQ, blockQ]
  apply endC.retF [400]
  · rfl
  · conv => lhs; simp
  · conv => lhs; simp [resAV, Tryd.results132]
  · first | rfl | simp
  · simp [moEnd, memGet]
set_option maxRecDepth 20000 in
set_option maxHeartbeats 16000000 in
theorem cs_cases (l : List ByteArray) (e : Int) (N n : Nat) (hT : TermT N n) (hN : l.length + 1 < N) (hNm : N ≤ 1600) (hl : Lok l) : CSpec Tryd.prog 133 [.ptr 1000 0, .d (.int (25 - (n : Int)))] [(1000, rO l e)] (.d (.sl ((manyT (casT N (Tm.ts N n)) N (l, e)).1.map Cs.row))) [(1000, rO (manyT (casT N (Tm.ts N n)) N (l, e)).2.1 (manyT (casT N (Tm.ts N n)) N (l, e)).2.2)] := by
  unfold TermT at hT
  generalize 25 - (n : Int) = D at hT ⊢
  unfold rO at *
  refine CSpec.of Tryd.func133 rfl rfl (Nat.le_of_ble_eq_true rfl) ?_
  show AWp _ _ (endC _ Tryd.f133 _ _) (startC 40 _ _)
  refine AWp.rg [] [] ?_ (hr := by conv => lhs; simp [Tm.row, Tm.rows_eq, Cs.rows_eq])
  refine AWp.rg [] [] ?_ (hr := by conv => lhs; simp [Tm.row, Tm.rows_eq, Cs.rows_eq])
  repeat (first | refine AWp.seq ?_ | refine AWp.block ?_)
  refine AWp.le (Le.low [400] [] (fr := [(0, .ptr 1000 0), (1, .d (.int D)), (5, .arr 400 0 ([] : List Cs).length)]) (mem := [(400, some (.arr 40 9 (([] : List Cs).map Cs.row))), (1000, some (.blk 95 [.d (strsD (l : List ByteArray)), .d (.int (e : Int))]))]) rfl (by simp) (by simp)) ?_
  refine AWp.loop (σ := fun u : {u : List Cs × List ByteArray × Int × Nat // (manyT (casT N (Tm.ts N n)) N (l, e) = (u.1 ++ (manyT (casT N (Tm.ts N n)) u.2.2.2 (u.2.1, u.2.2.1)).1, (manyT (casT N (Tm.ts N n)) u.2.2.2 (u.2.1, u.2.2.1)).2) ∧ Lok u.2.1 ∧ u.1.length + u.2.2.2 = N ∧ 0 < u.2.2.2 ∧ (u.2.2.1 ≠ 0 ∨ u.2.1.length + 1 < u.2.2.2))} => ⟨40, [(0, .ptr 1000 0), (1, .d (.int D)), (5, .arr 400 0 u.1.1.length)], [(400, some (.arr 40 9 (u.1.1.map Cs.row))), (1000, some (.blk 95 [.d (strsD u.1.2.1), .d (.int u.1.2.2.1)]))]⟩)
    (μ := fun u => u.1.2.2.2) ⟨([], l, e, N), ⟨by simp, hl, by simp, by dsimp only; omega, .inr (by dsimp only; omega)⟩⟩ (Le.sub (by simp) (by simp)) (fun ⟨(us, c, ee, m), hw⟩ => ?_)
  dsimp only at hw ⊢
  obtain ⟨hmm, hck, hum, hm0, hon⟩ := hw
  obtain ⟨m, rfl⟩ : ∃ k, m = k + 1 := ⟨m - 1, by omega⟩
  have hnx := cs_tnext c ee hck.len
  obtain ⟨W, hW⟩ : ∃ W, W = hdT c := ⟨_, rfl⟩
  rw [← hW] at hnx
  by_cases q1 : ee = 0
  · have q1t := eq_true q1
    by_cases q2 : W = ⟨#[41]⟩
    · have q2t := eq_true q2
      refine AWp.rg [] [.c [] [.ptr 1000 0] [(1000, .blk 95 [.d (strsD c), .d (.int ee)])] (.d (.str W)) [(1000, .blk 95 [.d (strsD c), .d (.int ee)])]] ?_ (hr := by conv => lhs; simp [Tm.row, Tm.rows_eq, Cs.rows_eq, q1t, q2t])
      refine AWp.cn ?_
      refine AWp.exit ?_
      rw [manyT_end q1 (by rw [← hW]; exact q2)] at hmm
      have hwt := cs_must c rbr ee hck.len
      generalize wantT rbr (c, ee) = p3 at hmm hwt
      obtain ⟨l3, e3⟩ := p3
      dsimp only at hmm hwt
      rw [List.append_nil] at hmm
      rw [hmm]
      dsimp only
      refine AWp.rg [] [.c [] [.ptr 1000 0, .d (.str (⟨#[41]⟩))] [(1000, .blk 95 [.d (strsD c), .d (.int ee)])] (.tuple []) [(1000, .blk 95 [.d (strsD l3), .d (.int e3)])]] ?_ (hr := by conv => lhs; simp [Tm.row, Tm.rows_eq, Cs.rows_eq, q1t, q2t])
      refine AWp.rg [] [] ?_ (hr := by conv => lhs; simp [Tm.row, Tm.rows_eq, Cs.rows_eq, q1t, q2t])
      refine AWp.ret ?_
      try dsimp only [thenQ, blockQ]
      apply endC.retF [400]
      · rfl
      · conv => lhs; simp
      · conv => lhs; simp [resAV, Tryd.results133]
      · first | rfl | simp
      · simp [moEnd, memGet]
    refine AWp.rg [] [.c [] [.ptr 1000 0] [(1000, .blk 95 [.d (strsD c), .d (.int ee)])] (.d (.str W)) [(1000, .blk 95 [.d (strsD c), .d (.int ee)])]] ?_ (hr := by conv => lhs; simp [Tm.row, Tm.rows_eq, Cs.rows_eq, q1t, q2])
    refine AWp.cy ?_
    refine AWp.skip ?_
    rw [manyT_one q1 (by rw [← hW]; exact q2)] at hmm
    have hav := (casT_av (N := N) (ts_av N n)) (c, ee)
    have hck2 : Lok ((casT N (Tm.ts N n)) (c, ee)).2.1 := Lok.of (p := (c, ee)) hck hav.toTst
    obtain ⟨⟨l1, g1⟩, h1⟩ : ∃ P, P = wantT lbr (c, ee) := ⟨_, rfl⟩
    obtain ⟨⟨tg, l2, g2⟩, h2⟩ : ∃ P, P = tagT (l1, g1) := ⟨_, rfl⟩
    obtain ⟨⟨l6, g6⟩, h3⟩ : ∃ P, P = wantT lbr (l2, g2) := ⟨_, rfl⟩
    obtain ⟨⟨ws, l4, g4⟩, h4⟩ : ∃ P, P = manyT namT N (l6, g6) := ⟨_, rfl⟩
    obtain ⟨⟨y, l5, g5⟩, h5⟩ : ∃ P, P = Tm.ts N n (l4, g4) := ⟨_, rfl⟩
    obtain ⟨⟨c2, e2⟩, h6⟩ : ∃ P, P = wantT rbr (l5, g5) := ⟨_, rfl⟩
    have hcas : casT N (Tm.ts N n) (c, ee) = (.mk tg ws y, (c2, e2)) := by unfold casT; rw [← h1, ← h2, ← h3, ← h4, ← h5, ← h6]
    rw [hcas] at hmm hav hck2
    have k1 : Tst (c, ee) (l1, g1) := h1 ▸ (wantT_av lbr (c, ee)).toTst
    have k2 : Tst (l1, g1) (l2, g2) := (show (l2, g2) = (tagT (l1, g1)).2 by rw [← h2]) ▸ (tagT_av (l1, g1)).toTst
    have k3 : Tst (l2, g2) (l6, g6) := h3 ▸ (wantT_av lbr (l2, g2)).toTst
    have k4 : Tst (l6, g6) (l4, g4) := (show (l4, g4) = (manyT namT N (l6, g6)).2 by rw [← h4]) ▸ (manyT_st namT_av N (l6, g6))
    have k5 : Tst (l4, g4) (l5, g5) := (show (l5, g5) = (Tm.ts N n (l4, g4)).2 by rw [← h5]) ▸ (ts_av N n (l4, g4)).toTst
    have o1 : Lok l1 := Lok.of (p := (c, ee)) hck k1
    have o2 : Lok l2 := Lok.of (p := (l1, g1)) o1 k2
    have o6 : Lok l6 := Lok.of (p := (l2, g2)) o2 k3
    have o4 : Lok l4 := Lok.of (p := (l6, g6)) o6 k4
    have o5 : Lok l5 := Lok.of (p := (l4, g4)) o4 k5
    have n1 := k1.le
    have n2 := k2.le
    have n3 := k3.le
    have n4 := k4.le
    dsimp only at n1 n2 n3 n4
    have m1 := cs_must c lbr ee hck.len
    rw [← h1] at m1
    have m2 := cs_ttag l1 g1 o1
    rw [← h2] at m2
    have m3 := cs_must l2 lbr g2 o2.len
    rw [← h3] at m3
    have m4 := cs_names l6 g6 N (by omega) hNm o6
    rw [← h4] at m4
    have m5 := hT l4 g4 (by omega) o4
    rw [← h5] at m5
    have m6 := cs_must l5 rbr g5 o5.len
    rw [← h6] at m6
    obtain ⟨x, hx⟩ : ∃ x, x = Cs.mk tg ws y := ⟨_, rfl⟩
    rw [← hx] at hmm
    obtain ⟨yk, yn, ya, yb, yvs, yxs, ycs⟩ := y
    dsimp only [tmAV] at m1 m2 m3 m4 m5 m6 hmm hav hck2
    clear h1 h2 h3 h4 h5 h6 hcas k1 k2 k3 k4 k5
    have hlen := hav.le
    have hon2 := hav.on
    dsimp only at hlen hon2
    obtain ⟨us2, hus2⟩ : ∃ z, z = us ++ [x] := ⟨_, rfl⟩
    have hus2l : us.length + 1 = us2.length := by rw [hus2]; simp
    have hmx : us2.length ≤ maxLen := by unfold maxLen; omega
    have hmu : List.map Cs.row us ++ [[.int tg, strsD ws, .int yk, .int yn, .str ya, .str yb, strsD yvs, .sl (yxs.map Tm.row), .sl (ycs.map Cs.row)]] = List.map Cs.row us2 := by rw [hus2, hx]; simp [Cs.row, Tm.row, Tm.rows_eq, Cs.rows_eq]
    refine AWp.rg [] [.c [] [.ptr 1000 0, .d (.str (⟨#[40]⟩))] [(1000, .blk 95 [.d (strsD c), .d (.int ee)])] (.tuple []) [(1000, .blk 95 [.d (strsD l1), .d (.int g1)])]] ?_ (hr := by conv => lhs; simp [Tm.row, Tm.rows_eq, Cs.rows_eq, q1t, q2])
    refine AWp.rg [] [.c [] [.ptr 1000 0] [(1000, .blk 95 [.d (strsD l1), .d (.int g1)])] (.d (.int tg)) [(1000, .blk 95 [.d (strsD l2), .d (.int g2)])]] ?_ (hr := by conv => lhs; simp [Tm.row, Tm.rows_eq, Cs.rows_eq, q1t, q2])
    refine AWp.rg [] [.c [] [.ptr 1000 0, .d (.str (⟨#[40]⟩))] [(1000, .blk 95 [.d (strsD l2), .d (.int g2)])] (.tuple []) [(1000, .blk 95 [.d (strsD l6), .d (.int g6)])]] ?_ (hr := by conv => lhs; simp [Tm.row, Tm.rows_eq, Cs.rows_eq, q1t, q2])
    refine AWp.rg [] [.c [] [.ptr 1000 0] [(1000, .blk 95 [.d (strsD l6), .d (.int g6)])] (.d (strsD ws)) [(1000, .blk 95 [.d (strsD l4), .d (.int g4)])]] ?_ (hr := by conv => lhs; simp [Tm.row, Tm.rows_eq, Cs.rows_eq, q1t, q2])
    refine AWp.rg [] [.c [] [.ptr 1000 0, .d (.int D)] [(1000, .blk 95 [.d (strsD l4), .d (.int g4)])] (.agg [.d (.int yk), .d (.int yn), .d (.str ya), .d (.str yb), .d (strsD yvs), .d (.sl (yxs.map Tm.row)), .d (.sl (ycs.map Cs.row))]) [(1000, .blk 95 [.d (strsD l5), .d (.int g5)])]] ?_ (hr := by conv => lhs; simp [Tm.row, Tm.rows_eq, Cs.rows_eq, q1t, q2])
    refine AWp.rg [] [.c [] [.ptr 1000 0, .d (.str (⟨#[41]⟩))] [(1000, .blk 95 [.d (strsD l5), .d (.int g5)])] (.tuple []) [(1000, .blk 95 [.d (strsD c2), .d (.int e2)])]] ?_ (hr := by conv => lhs; simp [Tm.row, Tm.rows_eq, Cs.rows_eq, q1t, q2])
    refine AWp.rg [2] [] ?_ (hr := by conv => lhs; simp [Tm.row, Tm.rows_eq, Cs.rows_eq, hmu, hus2l, q1t, q2])
    refine ⟨⟨(us2, c2, e2, m), ⟨by rw [hmm, hus2]; simp, hck2, by dsimp only; omega, by dsimp only; rcases hon with h | h <;> omega, by dsimp only; rcases hon2 with h | h; exact .inl h; right; rcases hon with h | h <;> omega⟩⟩, by dsimp only; omega, ?_⟩
    dsimp only
    exact Le.sub (by simp) (by simp)
  refine AWp.rg [] [] ?_ (hr := by conv => lhs; simp [Tm.row, Tm.rows_eq, Cs.rows_eq, q1])
  refine AWp.cn ?_
  refine AWp.exit ?_
  rw [manyT_err q1] at hmm
  have hwt := cs_must c rbr ee hck.len
  generalize wantT rbr (c, ee) = p3 at hmm hwt
  obtain ⟨l3, e3⟩ := p3
  dsimp only at hmm hwt
  rw [List.append_nil] at hmm
  rw [hmm]
  dsimp only
  refine AWp.rg [] [.c [] [.ptr 1000 0, .d (.str (⟨#[41]⟩))] [(1000, .blk 95 [.d (strsD c), .d (.int ee)])] (.tuple []) [(1000, .blk 95 [.d (strsD l3), .d (.int e3)])]] ?_ (hr := by conv => lhs; simp [Tm.row, Tm.rows_eq, Cs.rows_eq, q1])
  refine AWp.rg [] [] ?_ (hr := by conv => lhs; simp [Tm.row, Tm.rows_eq, Cs.rows_eq, q1])
  refine AWp.ret ?_
  try dsimp only [thenQ, blockQ]
  apply endC.retF [400]
  · rfl
  · conv => lhs; simp
  · conv => lhs; simp [resAV, Tryd.results133]
  · first | rfl | simp
  · simp [moEnd, memGet]
end Go.Proofs.YtapiiklnnkkdlaaDoor
