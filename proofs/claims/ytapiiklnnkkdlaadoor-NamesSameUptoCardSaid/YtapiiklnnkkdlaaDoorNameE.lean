import Derived.Test.YtapiiklnnkkdlaaDoorNameB
/- names.changer: bind with each of its functions; these functions. Printed by a small program. -/
namespace Go.Proofs.YtapiiklnnkkdlaaDoor
open Go.RowKit
attribute [local simp] runD mkRc ldOf stOf stOk ldArg noAny dstOk guardOk opEff opEff0 effOp pureOp callOp zEff evA constAV scalAV Value.oneCell' frGet memGet startAS frOf isGoCall idIn AS.after nextR opnIds objIds AV.ids idsL AObj.ids frNo memNo opnAny isAny mkVal rdCells wrCells fldAddr idxAddr srcRows litRows toD1 toDs setAt sliceAV optI partAV bldAV fillAV binAV binI AV.cells callEff calleeOf frKill memKill AV.kill AObj.kill AV.has AV.hasL Op.operands Call.operands keepF keepM viewIds cChk renOf moGet moWs moQ cEff moLike moHave AV.ren renL AObj.ren AObj.like kept startC moMem AV.frz frz1 frzL frSub memSub frzs AS.frz frFrz memFrz AObj.frz takeMap takeLen bleF Nat.ble_eq memAny objAny mapOp D.keyOk rowAV valRow extOp wrapOp phO frLow memLow memLow1 objLow memEmpty Low LowL
set_option linter.unusedVariables false
set_option linter.unusedSimpArgs false
theorem map_frR (ps : Ps) (ws us : List ByteArray) (h : us.length = ws.length) : List.map frR ps ++ List.map strR ws = List.map frR (ps ++ ws.zip us) := by
  rw [List.map_append]
  congr 1
  induction ws generalizing us with
  | nil => rfl
  | cons w r ih =>
    rcases us with _ | ⟨u, us⟩
    · cases h
    · simp only [List.map_cons, List.zip_cons_cons]
      rw [ih us (by simpa using h)]
      rfl
theorem map_toR (ps : Ps) (ws us : List ByteArray) (h : us.length = ws.length) : List.map toR ps ++ List.map strR us = List.map toR (ps ++ ws.zip us) := by
  rw [List.map_append]
  congr 1
  induction ws generalizing us with
  | nil => rcases us with _ | ⟨u, us⟩ <;> first | rfl | cases h
  | cons w r ih =>
    rcases us with _ | ⟨u, us⟩
    · cases h
    · simp only [List.map_cons, List.zip_cons_cons]
      rw [← ih us (by simpa using h)]
      rfl
set_option maxRecDepth 20000 in
set_option maxHeartbeats 16000000 in
theorem cs_bind1 (ps qs : Ps) (ws : List ByteArray) (c c2 : Int) (tk tn : Int) (ta ta2 tb : ByteArray) (tvs : List ByteArray) (tcs : List Cs) (R R2 : List (List D)) (hRl : R.length = 2) (hR2l : R2.length = 2) (hw6 : ws.length ≤ 6) (hps : ps.length + ws.length ≤ 1000) (hqd : qs = ps ++ ws.zip (freshL ws c))
    (hcl : CSpec Tryd.prog 151 [strsAV (freshL ws c), .ptr 1001 0, .ptr 1002 0] [(1000, .blk 113 [.arr 500 0 qs.length, .arr 501 0 qs.length, .d (.int (freshC ws c))]), (500, .arr 9 1 (qs.map frR)), (501, .arr 9 1 (qs.map toR)), (1001, .blk 34 [.d (.int tk), .d (.int tn), .d (.str ta), .d (.str tb), .d (strsD tvs), .arr 1003 0 2, .arr 1004 0 tcs.length]), (1002, .blk 111 [.ptr 1000 0]), (1003, .arr 34 7 R), (1004, .arr 40 9 (tcs.map Cs.row))] (.tuple []) [(1000, .blk 113 [.arr 500 0 qs.length, .arr 501 0 qs.length, .d (.int c2)]), (500, .arr 9 1 (qs.map frR)), (501, .arr 9 1 (qs.map toR)), (1001, .blk 34 [.d (.int tk), .d (.int tn), .d (.str ta2), .d (.str tb), .d (strsD tvs), .arr 1003 0 2, .arr 1004 0 tcs.length]), (1002, .blk 111 [.ptr 1000 0]), (1003, .arr 34 7 R2), (1004, .arr 40 9 (tcs.map Cs.row))]) :
    CSpec Tryd.prog 104 [.ptr 1000 0, strsAV ws, .clo 151 [.ptr 1001 0, .ptr 1002 0]] [(1000, .blk 113 [.arr 500 0 ps.length, .arr 501 0 ps.length, .d (.int c)]), (500, .arr 9 1 (ps.map frR)), (501, .arr 9 1 (ps.map toR)), (1001, .blk 34 [.d (.int tk), .d (.int tn), .d (.str ta), .d (.str tb), .d (strsD tvs), .arr 1003 0 2, .arr 1004 0 tcs.length]), (1002, .blk 111 [.ptr 1000 0]), (1003, .arr 34 7 R), (1004, .arr 40 9 (tcs.map Cs.row))] (.tuple []) [(1000, .blk 113 [.arr 500 0 ps.length, .arr 501 0 ps.length, .d (.int c2)]), (500, .arr 9 1 (ps.map frR)), (501, .arr 9 1 (ps.map toR)), (1001, .blk 34 [.d (.int tk), .d (.int tn), .d (.str ta2), .d (.str tb), .d (strsD tvs), .arr 1003 0 2, .arr 1004 0 tcs.length]), (1002, .blk 111 [.ptr 1000 0]), (1003, .arr 34 7 R2), (1004, .arr 40 9 (tcs.map Cs.row))] := by
  refine CSpec.of Tryd.func104 rfl rfl (Nat.le_of_ble_eq_true rfl) ?_
  show AWp _ _ (endC _ Tryd.f104 _ _) (startC 62 _ _)
  refine AWp.rg [] [] ?_
  refine AWp.rg [] [] ?_
  refine AWp.rg [] [] ?_
  repeat (first | refine AWp.seq ?_ | refine AWp.block ?_)
  refine AWp.le (Le.low [400] [] (fr := [(0, .ptr 1000 0), (1, .d (strsD ws)), (2, .clo 151 [.ptr 1001 0, .ptr 1002 0]), (6, .d (.int ps.length)), (7, .arr 400 0 ([] : List ByteArray).length), (14, .d (.int (ws.length : Int))), (15, .d (.int (0 : Int)))]) (mem := [(400, some (.arr 9 1 (([] : List ByteArray).map strR))), (500, some (.arr 9 1 (ps.map frR))), (501, some (.arr 9 1 (ps.map toR))), (1000, some (.blk 113 [.arr 500 0 ps.length, .arr 501 0 ps.length, .d (.int (c : Int))])), (1001, some (.blk 34 [.d (.int tk), .d (.int tn), .d (.str ta), .d (.str tb), .d (strsD tvs), .arr 1003 0 2, .arr 1004 0 tcs.length])), (1002, some (.blk 111 [.ptr 1000 0])), (1003, some (.arr 34 7 R)), (1004, some (.arr 40 9 (tcs.map Cs.row)))]) rfl (by simp) (by simp)) ?_
  refine AWp.loop (σ := fun u : {u : Nat × List ByteArray × Int // u.1 ≤ ws.length ∧ (freshL ws c = u.2.1 ++ freshL (ws.drop u.1) u.2.2 ∧ freshC ws c = freshC (ws.drop u.1) u.2.2 ∧ u.2.1.length = u.1)} => ⟨62, [(0, .ptr 1000 0), (1, .d (strsD ws)), (2, .clo 151 [.ptr 1001 0, .ptr 1002 0]), (6, .d (.int ps.length)), (7, .arr 400 0 u.1.2.1.length), (14, .d (.int (ws.length : Int))), (15, .d (.int (u.1.1 : Int)))], [(400, some (.arr 9 1 (u.1.2.1.map strR))), (500, some (.arr 9 1 (ps.map frR))), (501, some (.arr 9 1 (ps.map toR))), (1000, some (.blk 113 [.arr 500 0 ps.length, .arr 501 0 ps.length, .d (.int u.1.2.2)])), (1001, some (.blk 34 [.d (.int tk), .d (.int tn), .d (.str ta), .d (.str tb), .d (strsD tvs), .arr 1003 0 2, .arr 1004 0 tcs.length])), (1002, some (.blk 111 [.ptr 1000 0])), (1003, some (.arr 34 7 R)), (1004, some (.arr 40 9 (tcs.map Cs.row)))]⟩)
    (μ := fun u => ws.length - u.1.1) ⟨(0, [], c), ⟨Nat.zero_le _, ⟨by simp, by simp, rfl⟩⟩⟩ (Le.sub (by simp) (by simp)) (fun ⟨(i, us, k), ⟨hi3, hw⟩⟩ => ?_)
  dsimp only at hi3 hw ⊢
  refine AWp.rg [] [] ?_
  repeat (first | refine AWp.seq ?_ | refine AWp.block ?_)
  refine AWp.cond rfl (fun hc => ?_) (fun hc => ?_)
  · have hi1 : i < ws.length := by have := of_decide_eq_true hc; omega
    clear hc
    have h1x : ws[i]? = some ws[i] := List.getElem?_eq_getElem hi1
    have hmx : ws[i] ∈ ws := List.getElem_mem hi1
    have hdx : ws.drop i = ws[i] :: ws.drop (i + 1) := List.drop_eq_getElem_cons hi1
    generalize ws[i] = x at h1x hmx hdx
    obtain ⟨hfr, hfc, hul⟩ := hw
    obtain ⟨e, he⟩ : ∃ e : Int, wr (k + 1) = e := ⟨_, rfl⟩
    have hfs := cs_chFresh ps k
    rw [he] at hfs
    refine AWp.skip ?_
    refine AWp.rg [] [.c [] [.ptr 1000 0] [(1000, .blk 113 [.arr 500 0 ps.length, .arr 501 0 ps.length, .d (.int k)]), (500, .arr 9 1 (ps.map frR)), (501, .arr 9 1 (ps.map toR))] (.d (.str (vNm e))) [(1000, .blk 113 [.arr 500 0 ps.length, .arr 501 0 ps.length, .d (.int e)]), (500, .arr 9 1 (ps.map frR)), (501, .arr 9 1 (ps.map toR))]] ?_ (hr := by conv => lhs; simp [h1x])
    refine AWp.rg [] [] ?_ (hr := by conv => lhs; simp [h1x])
    refine ⟨⟨(i + 1, us ++ [vNm e], e), hi1, ⟨by rw [hfr, hdx, freshL, he]; simp, by rw [hfc, hdx, freshC, he], by simp [hul]⟩⟩, by simp; omega, ?_⟩
    dsimp only
    exact Le.sub (by simp) (by simp)
  have hi1 : i = ws.length := by have := of_decide_eq_false hc; omega
  subst hi1
  clear hc
  obtain ⟨hfr, hfc, hul⟩ := hw
  rw [List.drop_length, freshL, List.append_nil] at hfr
  rw [List.drop_length, freshC] at hfc
  rw [hfr, hfc] at hcl
  have hmf := map_frR ps ws us hul
  have hmt := map_toR ps ws us hul
  have hq1 : ps.length + ws.length = (ps ++ ws.zip us).length := by rw [List.length_append, List.length_zip]; omega
  have hq2 : ps.length + us.length = (ps ++ ws.zip us).length := by rw [List.length_append, List.length_zip]; omega
  have hqk : (ps ++ ws.zip us).take ps.length = ps := by simp
  rw [hfr] at hqd
  rw [← hqd] at hmf hmt hq1 hq2 hqk
  refine AWp.exit ?_
  apply AWp.frzs [400]
  · conv => lhs; simp
  refine AWp.dw [] [] mixed ?_ (hr := by conv => lhs; simp [hmf, hmt, hq1, hq2])
  refine AWp.rg [] [.c [] [.d (strsD us), .ptr 1001 0, .ptr 1002 0] [(1000, .blk 113 [.arr 500 0 qs.length, .arr 501 0 qs.length, .d (.int k)]), (500, .arr 9 1 (qs.map frR)), (501, .arr 9 1 (qs.map toR)), (1001, .blk 34 [.d (.int tk), .d (.int tn), .d (.str ta), .d (.str tb), .d (strsD tvs), .arr 1003 0 2, .arr 1004 0 tcs.length]), (1002, .blk 111 [.ptr 1000 0]), (1003, .arr 34 7 R), (1004, .arr 40 9 (tcs.map Cs.row))] (.tuple []) [(1000, .blk 113 [.arr 500 0 qs.length, .arr 501 0 qs.length, .d (.int c2)]), (500, .arr 9 1 (qs.map frR)), (501, .arr 9 1 (qs.map toR)), (1001, .blk 34 [.d (.int tk), .d (.int tn), .d (.str ta2), .d (.str tb), .d (strsD tvs), .arr 1003 0 2, .arr 1004 0 tcs.length]), (1002, .blk 111 [.ptr 1000 0]), (1003, .arr 34 7 R2), (1004, .arr 40 9 (tcs.map Cs.row))]] ?_
  refine AWp.dw [] [] mixed ?_
  try dsimp only [thenQ, blockQ]
  apply endC.le (Le.low [] [] (fr := []) (mem := [(1001, some (.blk 34 [.d (.int tk), .d (.int tn), .d (.str ta2), .d (.str tb), .d (strsD tvs), .arr 1003 0 2, .arr 1004 0 tcs.length])), (1002, some (.blk 111 [.ptr 1000 0])), (1003, some (.arr 34 7 R2)), (1004, some (.arr 40 9 (tcs.map Cs.row))), (1000, some (.blk 113 [.arr 500 0 ps.length, .arr 501 0 ps.length, .d (.int c2)])), (500, some (.arr 9 1 (qs.map frR))), (501, some (.arr 9 1 (qs.map toR)))]) rfl (by simp) (by simp))
  apply endC.le (Le.cut 500 ps.length rfl (by rw [← List.map_take, hqk]) (by rw [List.length_map]; omega) (by simp [frInK, AV.inK, AV.inKL]) (by simp [memInK, AV.inK, AV.inKL]))
  apply endC.le (Le.cut 501 ps.length rfl (by rw [← List.map_take, hqk]) (by rw [List.length_map]; omega) (by simp [frInK, AV.inK, AV.inKL]) (by simp [memInK, AV.inK, AV.inKL]))
  try dsimp only [thenQ, blockQ]
  apply endC.normal
  · rfl
  · conv => lhs; simp [resAV, Tryd.results104]
  · rfl
  · simp [moEnd, memGet]
set_option maxRecDepth 20000 in
set_option maxHeartbeats 16000000 in
theorem cs_bind2 (ps qs : Ps) (ws : List ByteArray) (c c2 : Int) (j : Nat) (R R2 : List (List D)) (hRl : R2.length = R.length) (hw6 : ws.length ≤ 6) (hps : ps.length + ws.length ≤ 1000) (hqd : qs = ps ++ ws.zip (freshL ws c))
    (hcl : CSpec Tryd.prog 152 [strsAV (freshL ws c), .ptr 1001 0, .ptr 1002 0] [(1000, .blk 113 [.arr 500 0 qs.length, .arr 501 0 qs.length, .d (.int (freshC ws c))]), (500, .arr 9 1 (qs.map frR)), (501, .arr 9 1 (qs.map toR)), (1001, .blk 153 [.eptr 1003 j 0]), (1002, .blk 111 [.ptr 1000 0]), (1003, .arr 40 9 R)] (.tuple []) [(1000, .blk 113 [.arr 500 0 qs.length, .arr 501 0 qs.length, .d (.int c2)]), (500, .arr 9 1 (qs.map frR)), (501, .arr 9 1 (qs.map toR)), (1001, .blk 153 [.eptr 1003 j 0]), (1002, .blk 111 [.ptr 1000 0]), (1003, .arr 40 9 R2)]) :
    CSpec Tryd.prog 104 [.ptr 1000 0, strsAV ws, .clo 152 [.ptr 1001 0, .ptr 1002 0]] [(1000, .blk 113 [.arr 500 0 ps.length, .arr 501 0 ps.length, .d (.int c)]), (500, .arr 9 1 (ps.map frR)), (501, .arr 9 1 (ps.map toR)), (1001, .blk 153 [.eptr 1003 j 0]), (1002, .blk 111 [.ptr 1000 0]), (1003, .arr 40 9 R)] (.tuple []) [(1000, .blk 113 [.arr 500 0 ps.length, .arr 501 0 ps.length, .d (.int c2)]), (500, .arr 9 1 (ps.map frR)), (501, .arr 9 1 (ps.map toR)), (1001, .blk 153 [.eptr 1003 j 0]), (1002, .blk 111 [.ptr 1000 0]), (1003, .arr 40 9 R2)] := by
  refine CSpec.of Tryd.func104 rfl rfl (Nat.le_of_ble_eq_true rfl) ?_
  show AWp _ _ (endC _ Tryd.f104 _ _) (startC 62 _ _)
  refine AWp.rg [] [] ?_
  refine AWp.rg [] [] ?_
  refine AWp.rg [] [] ?_
  repeat (first | refine AWp.seq ?_ | refine AWp.block ?_)
  refine AWp.le (Le.low [400] [] (fr := [(0, .ptr 1000 0), (1, .d (strsD ws)), (2, .clo 152 [.ptr 1001 0, .ptr 1002 0]), (6, .d (.int ps.length)), (7, .arr 400 0 ([] : List ByteArray).length), (14, .d (.int (ws.length : Int))), (15, .d (.int (0 : Int)))]) (mem := [(400, some (.arr 9 1 (([] : List ByteArray).map strR))), (500, some (.arr 9 1 (ps.map frR))), (501, some (.arr 9 1 (ps.map toR))), (1000, some (.blk 113 [.arr 500 0 ps.length, .arr 501 0 ps.length, .d (.int (c : Int))])), (1001, some (.blk 153 [.eptr 1003 j 0])), (1002, some (.blk 111 [.ptr 1000 0])), (1003, some (.arr 40 9 R))]) rfl (by simp) (by simp)) ?_
  refine AWp.loop (σ := fun u : {u : Nat × List ByteArray × Int // u.1 ≤ ws.length ∧ (freshL ws c = u.2.1 ++ freshL (ws.drop u.1) u.2.2 ∧ freshC ws c = freshC (ws.drop u.1) u.2.2 ∧ u.2.1.length = u.1)} => ⟨62, [(0, .ptr 1000 0), (1, .d (strsD ws)), (2, .clo 152 [.ptr 1001 0, .ptr 1002 0]), (6, .d (.int ps.length)), (7, .arr 400 0 u.1.2.1.length), (14, .d (.int (ws.length : Int))), (15, .d (.int (u.1.1 : Int)))], [(400, some (.arr 9 1 (u.1.2.1.map strR))), (500, some (.arr 9 1 (ps.map frR))), (501, some (.arr 9 1 (ps.map toR))), (1000, some (.blk 113 [.arr 500 0 ps.length, .arr 501 0 ps.length, .d (.int u.1.2.2)])), (1001, some (.blk 153 [.eptr 1003 j 0])), (1002, some (.blk 111 [.ptr 1000 0])), (1003, some (.arr 40 9 R))]⟩)
    (μ := fun u => ws.length - u.1.1) ⟨(0, [], c), ⟨Nat.zero_le _, ⟨by simp, by simp, rfl⟩⟩⟩ (Le.sub (by simp) (by simp)) (fun ⟨(i, us, k), ⟨hi3, hw⟩⟩ => ?_)
  dsimp only at hi3 hw ⊢
  refine AWp.rg [] [] ?_
  repeat (first | refine AWp.seq ?_ | refine AWp.block ?_)
  refine AWp.cond rfl (fun hc => ?_) (fun hc => ?_)
  · have hi1 : i < ws.length := by have := of_decide_eq_true hc; omega
    clear hc
    have h1x : ws[i]? = some ws[i] := List.getElem?_eq_getElem hi1
    have hmx : ws[i] ∈ ws := List.getElem_mem hi1
    have hdx : ws.drop i = ws[i] :: ws.drop (i + 1) := List.drop_eq_getElem_cons hi1
    generalize ws[i] = x at h1x hmx hdx
    obtain ⟨hfr, hfc, hul⟩ := hw
    obtain ⟨e, he⟩ : ∃ e : Int, wr (k + 1) = e := ⟨_, rfl⟩
    have hfs := cs_chFresh ps k
    rw [he] at hfs
    refine AWp.skip ?_
    refine AWp.rg [] [.c [] [.ptr 1000 0] [(1000, .blk 113 [.arr 500 0 ps.length, .arr 501 0 ps.length, .d (.int k)]), (500, .arr 9 1 (ps.map frR)), (501, .arr 9 1 (ps.map toR))] (.d (.str (vNm e))) [(1000, .blk 113 [.arr 500 0 ps.length, .arr 501 0 ps.length, .d (.int e)]), (500, .arr 9 1 (ps.map frR)), (501, .arr 9 1 (ps.map toR))]] ?_ (hr := by conv => lhs; simp [h1x])
    refine AWp.rg [] [] ?_ (hr := by conv => lhs; simp [h1x])
    refine ⟨⟨(i + 1, us ++ [vNm e], e), hi1, ⟨by rw [hfr, hdx, freshL, he]; simp, by rw [hfc, hdx, freshC, he], by simp [hul]⟩⟩, by simp; omega, ?_⟩
    dsimp only
    exact Le.sub (by simp) (by simp)
  have hi1 : i = ws.length := by have := of_decide_eq_false hc; omega
  subst hi1
  clear hc
  obtain ⟨hfr, hfc, hul⟩ := hw
  rw [List.drop_length, freshL, List.append_nil] at hfr
  rw [List.drop_length, freshC] at hfc
  rw [hfr, hfc] at hcl
  have hmf := map_frR ps ws us hul
  have hmt := map_toR ps ws us hul
  have hq1 : ps.length + ws.length = (ps ++ ws.zip us).length := by rw [List.length_append, List.length_zip]; omega
  have hq2 : ps.length + us.length = (ps ++ ws.zip us).length := by rw [List.length_append, List.length_zip]; omega
  have hqk : (ps ++ ws.zip us).take ps.length = ps := by simp
  rw [hfr] at hqd
  rw [← hqd] at hmf hmt hq1 hq2 hqk
  refine AWp.exit ?_
  apply AWp.frzs [400]
  · conv => lhs; simp
  refine AWp.dw [] [] mixed ?_ (hr := by conv => lhs; simp [hmf, hmt, hq1, hq2])
  refine AWp.rg [] [.c [] [.d (strsD us), .ptr 1001 0, .ptr 1002 0] [(1000, .blk 113 [.arr 500 0 qs.length, .arr 501 0 qs.length, .d (.int k)]), (500, .arr 9 1 (qs.map frR)), (501, .arr 9 1 (qs.map toR)), (1001, .blk 153 [.eptr 1003 j 0]), (1002, .blk 111 [.ptr 1000 0]), (1003, .arr 40 9 R)] (.tuple []) [(1000, .blk 113 [.arr 500 0 qs.length, .arr 501 0 qs.length, .d (.int c2)]), (500, .arr 9 1 (qs.map frR)), (501, .arr 9 1 (qs.map toR)), (1001, .blk 153 [.eptr 1003 j 0]), (1002, .blk 111 [.ptr 1000 0]), (1003, .arr 40 9 R2)]] ?_
  refine AWp.dw [] [] mixed ?_
  try dsimp only [thenQ, blockQ]
  apply endC.le (Le.low [] [] (fr := []) (mem := [(1001, some (.blk 153 [.eptr 1003 j 0])), (1002, some (.blk 111 [.ptr 1000 0])), (1003, some (.arr 40 9 R2)), (1000, some (.blk 113 [.arr 500 0 ps.length, .arr 501 0 ps.length, .d (.int c2)])), (500, some (.arr 9 1 (qs.map frR))), (501, some (.arr 9 1 (qs.map toR)))]) rfl (by simp) (by simp))
  apply endC.le (Le.cut 500 ps.length rfl (by rw [← List.map_take, hqk]) (by rw [List.length_map]; omega) (by simp [frInK, AV.inK, AV.inKL]) (by simp [memInK, AV.inK, AV.inKL]))
  apply endC.le (Le.cut 501 ps.length rfl (by rw [← List.map_take, hqk]) (by rw [List.length_map]; omega) (by simp [frInK, AV.inK, AV.inKL]) (by simp [memInK, AV.inK, AV.inKL]))
  try dsimp only [thenQ, blockQ]
  apply endC.normal
  · rfl
  · conv => lhs; simp [resAV, Tryd.results104]
  · rfl
  · simp [moEnd, memGet]
set_option maxRecDepth 20000 in
set_option maxHeartbeats 16000000 in
theorem cs_bind0 (ps qs : Ps) (ws : List ByteArray) (c c2 : Int) (fg : ByteArray) (fps us2 : List ByteArray) (fk fn zk zn : Int) (fa fb za zb : ByteArray) (fvs zvs : List ByteArray) (fxs zxs : List Tm) (fcs zcs : List Cs)  (hw6 : ws.length ≤ 6) (hps : ps.length + ws.length ≤ 1000) (hqd : qs = ps ++ ws.zip (freshL ws c))
    (hcl : CSpec Tryd.prog 105 [strsAV (freshL ws c), .ptr 1001 0, .ptr 1002 0, .ptr 1003 0] [(1000, .blk 113 [.arr 500 0 qs.length, .arr 501 0 qs.length, .d (.int (freshC ws c))]), (500, .arr 9 1 (qs.map frR)), (501, .arr 9 1 (qs.map toR)), (1001, .blk 36 [.d (.str fg), .lit (.slice none 0 0), .d (.int 0), .d (.int 0), .d (.str ByteArray.empty), .d (.str ByteArray.empty), .lit (.slice none 0 0), .lit (.slice none 0 0), .lit (.slice none 0 0)]), (1002, .blk 111 [.ptr 1000 0]), (1003, .blk 36 [.d (.str fg), .d (strsD fps), .d (.int fk), .d (.int fn), .d (.str fa), .d (.str fb), .d (strsD fvs), .d (.sl (fxs.map Tm.row)), .d (.sl (fcs.map Cs.row))])] (.tuple []) [(1000, .blk 113 [.arr 500 0 qs.length, .arr 501 0 qs.length, .d (.int c2)]), (500, .arr 9 1 (qs.map frR)), (501, .arr 9 1 (qs.map toR)), (1001, .blk 36 [.d (.str fg), .d (strsD us2), .d (.int zk), .d (.int zn), .d (.str za), .d (.str zb), .d (strsD zvs), .d (.sl (zxs.map Tm.row)), .d (.sl (zcs.map Cs.row))]), (1002, .blk 111 [.ptr 1000 0]), (1003, .blk 36 [.d (.str fg), .d (strsD fps), .d (.int fk), .d (.int fn), .d (.str fa), .d (.str fb), .d (strsD fvs), .d (.sl (fxs.map Tm.row)), .d (.sl (fcs.map Cs.row))])]) :
    CSpec Tryd.prog 104 [.ptr 1000 0, strsAV ws, .clo 105 [.ptr 1001 0, .ptr 1002 0, .ptr 1003 0]] [(1000, .blk 113 [.arr 500 0 ps.length, .arr 501 0 ps.length, .d (.int c)]), (500, .arr 9 1 (ps.map frR)), (501, .arr 9 1 (ps.map toR)), (1001, .blk 36 [.d (.str fg), .lit (.slice none 0 0), .d (.int 0), .d (.int 0), .d (.str ByteArray.empty), .d (.str ByteArray.empty), .lit (.slice none 0 0), .lit (.slice none 0 0), .lit (.slice none 0 0)]), (1002, .blk 111 [.ptr 1000 0]), (1003, .blk 36 [.d (.str fg), .d (strsD fps), .d (.int fk), .d (.int fn), .d (.str fa), .d (.str fb), .d (strsD fvs), .d (.sl (fxs.map Tm.row)), .d (.sl (fcs.map Cs.row))])] (.tuple []) [(1000, .blk 113 [.arr 500 0 ps.length, .arr 501 0 ps.length, .d (.int c2)]), (500, .arr 9 1 (ps.map frR)), (501, .arr 9 1 (ps.map toR)), (1001, .blk 36 [.d (.str fg), .d (strsD us2), .d (.int zk), .d (.int zn), .d (.str za), .d (.str zb), .d (strsD zvs), .d (.sl (zxs.map Tm.row)), .d (.sl (zcs.map Cs.row))]), (1002, .blk 111 [.ptr 1000 0]), (1003, .blk 36 [.d (.str fg), .d (strsD fps), .d (.int fk), .d (.int fn), .d (.str fa), .d (.str fb), .d (strsD fvs), .d (.sl (fxs.map Tm.row)), .d (.sl (fcs.map Cs.row))])] := by
  refine CSpec.of Tryd.func104 rfl rfl (Nat.le_of_ble_eq_true rfl) ?_
  show AWp _ _ (endC _ Tryd.f104 _ _) (startC 62 _ _)
  refine AWp.rg [] [] ?_
  refine AWp.rg [] [] ?_
  refine AWp.rg [] [] ?_
  repeat (first | refine AWp.seq ?_ | refine AWp.block ?_)
  refine AWp.le (Le.low [400] [] (fr := [(0, .ptr 1000 0), (1, .d (strsD ws)), (2, .clo 105 [.ptr 1001 0, .ptr 1002 0, .ptr 1003 0]), (6, .d (.int ps.length)), (7, .arr 400 0 ([] : List ByteArray).length), (14, .d (.int (ws.length : Int))), (15, .d (.int (0 : Int)))]) (mem := [(400, some (.arr 9 1 (([] : List ByteArray).map strR))), (500, some (.arr 9 1 (ps.map frR))), (501, some (.arr 9 1 (ps.map toR))), (1000, some (.blk 113 [.arr 500 0 ps.length, .arr 501 0 ps.length, .d (.int (c : Int))])), (1001, some (.blk 36 [.d (.str fg), .lit (.slice none 0 0), .d (.int 0), .d (.int 0), .d (.str ByteArray.empty), .d (.str ByteArray.empty), .lit (.slice none 0 0), .lit (.slice none 0 0), .lit (.slice none 0 0)])), (1002, some (.blk 111 [.ptr 1000 0])), (1003, some (.blk 36 [.d (.str fg), .d (strsD fps), .d (.int fk), .d (.int fn), .d (.str fa), .d (.str fb), .d (strsD fvs), .d (.sl (fxs.map Tm.row)), .d (.sl (fcs.map Cs.row))]))]) rfl (by simp) (by simp)) ?_
  refine AWp.loop (σ := fun u : {u : Nat × List ByteArray × Int // u.1 ≤ ws.length ∧ (freshL ws c = u.2.1 ++ freshL (ws.drop u.1) u.2.2 ∧ freshC ws c = freshC (ws.drop u.1) u.2.2 ∧ u.2.1.length = u.1)} => ⟨62, [(0, .ptr 1000 0), (1, .d (strsD ws)), (2, .clo 105 [.ptr 1001 0, .ptr 1002 0, .ptr 1003 0]), (6, .d (.int ps.length)), (7, .arr 400 0 u.1.2.1.length), (14, .d (.int (ws.length : Int))), (15, .d (.int (u.1.1 : Int)))], [(400, some (.arr 9 1 (u.1.2.1.map strR))), (500, some (.arr 9 1 (ps.map frR))), (501, some (.arr 9 1 (ps.map toR))), (1000, some (.blk 113 [.arr 500 0 ps.length, .arr 501 0 ps.length, .d (.int u.1.2.2)])), (1001, some (.blk 36 [.d (.str fg), .lit (.slice none 0 0), .d (.int 0), .d (.int 0), .d (.str ByteArray.empty), .d (.str ByteArray.empty), .lit (.slice none 0 0), .lit (.slice none 0 0), .lit (.slice none 0 0)])), (1002, some (.blk 111 [.ptr 1000 0])), (1003, some (.blk 36 [.d (.str fg), .d (strsD fps), .d (.int fk), .d (.int fn), .d (.str fa), .d (.str fb), .d (strsD fvs), .d (.sl (fxs.map Tm.row)), .d (.sl (fcs.map Cs.row))]))]⟩)
    (μ := fun u => ws.length - u.1.1) ⟨(0, [], c), ⟨Nat.zero_le _, ⟨by simp, by simp, rfl⟩⟩⟩ (Le.sub (by simp) (by simp)) (fun ⟨(i, us, k), ⟨hi3, hw⟩⟩ => ?_)
  dsimp only at hi3 hw ⊢
  refine AWp.rg [] [] ?_
  repeat (first | refine AWp.seq ?_ | refine AWp.block ?_)
  refine AWp.cond rfl (fun hc => ?_) (fun hc => ?_)
  · have hi1 : i < ws.length := by have := of_decide_eq_true hc; omega
    clear hc
    have h1x : ws[i]? = some ws[i] := List.getElem?_eq_getElem hi1
    have hmx : ws[i] ∈ ws := List.getElem_mem hi1
    have hdx : ws.drop i = ws[i] :: ws.drop (i + 1) := List.drop_eq_getElem_cons hi1
    generalize ws[i] = x at h1x hmx hdx
    obtain ⟨hfr, hfc, hul⟩ := hw
    obtain ⟨e, he⟩ : ∃ e : Int, wr (k + 1) = e := ⟨_, rfl⟩
    have hfs := cs_chFresh ps k
    rw [he] at hfs
    refine AWp.skip ?_
    refine AWp.rg [] [.c [] [.ptr 1000 0] [(1000, .blk 113 [.arr 500 0 ps.length, .arr 501 0 ps.length, .d (.int k)]), (500, .arr 9 1 (ps.map frR)), (501, .arr 9 1 (ps.map toR))] (.d (.str (vNm e))) [(1000, .blk 113 [.arr 500 0 ps.length, .arr 501 0 ps.length, .d (.int e)]), (500, .arr 9 1 (ps.map frR)), (501, .arr 9 1 (ps.map toR))]] ?_ (hr := by conv => lhs; simp [h1x])
    refine AWp.rg [] [] ?_ (hr := by conv => lhs; simp [h1x])
    refine ⟨⟨(i + 1, us ++ [vNm e], e), hi1, ⟨by rw [hfr, hdx, freshL, he]; simp, by rw [hfc, hdx, freshC, he], by simp [hul]⟩⟩, by simp; omega, ?_⟩
    dsimp only
    exact Le.sub (by simp) (by simp)
  have hi1 : i = ws.length := by have := of_decide_eq_false hc; omega
  subst hi1
  clear hc
  obtain ⟨hfr, hfc, hul⟩ := hw
  rw [List.drop_length, freshL, List.append_nil] at hfr
  rw [List.drop_length, freshC] at hfc
  rw [hfr, hfc] at hcl
  have hmf := map_frR ps ws us hul
  have hmt := map_toR ps ws us hul
  have hq1 : ps.length + ws.length = (ps ++ ws.zip us).length := by rw [List.length_append, List.length_zip]; omega
  have hq2 : ps.length + us.length = (ps ++ ws.zip us).length := by rw [List.length_append, List.length_zip]; omega
  have hqk : (ps ++ ws.zip us).take ps.length = ps := by simp
  rw [hfr] at hqd
  rw [← hqd] at hmf hmt hq1 hq2 hqk
  refine AWp.exit ?_
  apply AWp.frzs [400]
  · conv => lhs; simp
  refine AWp.dw [] [] mixed ?_ (hr := by conv => lhs; simp [hmf, hmt, hq1, hq2])
  refine AWp.rg [] [.c [] [.d (strsD us), .ptr 1001 0, .ptr 1002 0, .ptr 1003 0] [(1000, .blk 113 [.arr 500 0 qs.length, .arr 501 0 qs.length, .d (.int k)]), (500, .arr 9 1 (qs.map frR)), (501, .arr 9 1 (qs.map toR)), (1001, .blk 36 [.d (.str fg), .lit (.slice none 0 0), .d (.int 0), .d (.int 0), .d (.str ByteArray.empty), .d (.str ByteArray.empty), .lit (.slice none 0 0), .lit (.slice none 0 0), .lit (.slice none 0 0)]), (1002, .blk 111 [.ptr 1000 0]), (1003, .blk 36 [.d (.str fg), .d (strsD fps), .d (.int fk), .d (.int fn), .d (.str fa), .d (.str fb), .d (strsD fvs), .d (.sl (fxs.map Tm.row)), .d (.sl (fcs.map Cs.row))])] (.tuple []) [(1000, .blk 113 [.arr 500 0 qs.length, .arr 501 0 qs.length, .d (.int c2)]), (500, .arr 9 1 (qs.map frR)), (501, .arr 9 1 (qs.map toR)), (1001, .blk 36 [.d (.str fg), .d (strsD us2), .d (.int zk), .d (.int zn), .d (.str za), .d (.str zb), .d (strsD zvs), .d (.sl (zxs.map Tm.row)), .d (.sl (zcs.map Cs.row))]), (1002, .blk 111 [.ptr 1000 0]), (1003, .blk 36 [.d (.str fg), .d (strsD fps), .d (.int fk), .d (.int fn), .d (.str fa), .d (.str fb), .d (strsD fvs), .d (.sl (fxs.map Tm.row)), .d (.sl (fcs.map Cs.row))])]] ?_
  refine AWp.dw [] [] mixed ?_
  try dsimp only [thenQ, blockQ]
  apply endC.le (Le.low [] [] (fr := []) (mem := [(1001, some (.blk 36 [.d (.str fg), .d (strsD us2), .d (.int zk), .d (.int zn), .d (.str za), .d (.str zb), .d (strsD zvs), .d (.sl (zxs.map Tm.row)), .d (.sl (zcs.map Cs.row))])), (1002, some (.blk 111 [.ptr 1000 0])), (1003, some (.blk 36 [.d (.str fg), .d (strsD fps), .d (.int fk), .d (.int fn), .d (.str fa), .d (.str fb), .d (strsD fvs), .d (.sl (fxs.map Tm.row)), .d (.sl (fcs.map Cs.row))])), (1000, some (.blk 113 [.arr 500 0 ps.length, .arr 501 0 ps.length, .d (.int c2)])), (500, some (.arr 9 1 (qs.map frR))), (501, some (.arr 9 1 (qs.map toR)))]) rfl (by simp) (by simp))
  apply endC.le (Le.cut 500 ps.length rfl (by rw [← List.map_take, hqk]) (by rw [List.length_map]; omega) (by simp [frInK, AV.inK, AV.inKL]) (by simp [memInK, AV.inK, AV.inKL]))
  apply endC.le (Le.cut 501 ps.length rfl (by rw [← List.map_take, hqk]) (by rw [List.length_map]; omega) (by simp [frInK, AV.inK, AV.inKL]) (by simp [memInK, AV.inK, AV.inKL]))
  try dsimp only [thenQ, blockQ]
  apply endC.normal
  · rfl
  · conv => lhs; simp [resAV, Tryd.results104]
  · rfl
  · simp [moEnd, memGet]
end Go.Proofs.YtapiiklnnkkdlaaDoor

namespace Go.Proofs.YtapiiklnnkkdlaaDoor
open Go.RowKit
attribute [local simp] runD mkRc ldOf stOf stOk ldArg noAny dstOk guardOk opEff opEff0 effOp pureOp callOp zEff evA constAV scalAV Value.oneCell' frGet memGet startAS frOf isGoCall idIn AS.after nextR opnIds objIds AV.ids idsL AObj.ids frNo memNo opnAny isAny mkVal rdCells wrCells fldAddr idxAddr srcRows litRows toD1 toDs setAt sliceAV optI partAV bldAV fillAV binAV binI AV.cells callEff calleeOf frKill memKill AV.kill AObj.kill AV.has AV.hasL Op.operands Call.operands keepF keepM viewIds cChk renOf moGet moWs moQ cEff moLike moHave AV.ren renL AObj.ren AObj.like kept startC moMem AV.frz frz1 frzL frSub memSub frzs AS.frz frFrz memFrz AObj.frz takeMap takeLen bleF Nat.ble_eq memAny objAny mapOp D.keyOk rowAV valRow extOp wrapOp phO
set_option linter.unusedVariables false
set_option linter.unusedSimpArgs false
def TermN (N : Nat) : Prop := ∀ (t : Tm) (ps : Ps) (c : Int), t.Rt N → t.Ok → ps.length + 6 * N ≤ 1000 →
  CSpec Tryd.prog 106 [.ptr 1000 0, tmAV t] [(1000, chO ps.length c), (500, frO ps), (501, toO ps)] (tmAV (t.rn ps c).1) [(1000, chO ps.length (t.rn ps c).2), (500, frO ps), (501, toO ps)]
set_option maxRecDepth 20000 in
set_option maxHeartbeats 16000000 in
theorem cs_term1 (ps : Ps) (c c2 : Int) (v : ByteArray) (tk tn : Int) (ta tb : ByteArray) (tvs : List ByteArray) (tcs : List Cs) (r0 : List D) (yk yn zk zn : Int) (ya yb za zb : ByteArray) (yvs zvs : List ByteArray) (yxs zxs : List Tm) (ycs zcs : List Cs)
    (hx : CSpec Tryd.prog 106 [.ptr 1000 0, tmAV (.mk yk yn ya yb yvs yxs ycs)] [(1000, chO ps.length c), (500, frO ps), (501, toO ps)] (tmAV (.mk zk zn za zb zvs zxs zcs)) [(1000, chO ps.length c2), (500, frO ps), (501, toO ps)]) :
    CSpec Tryd.prog 151 [.d (.sl [[.str v]]), .ptr 1001 0, .ptr 1002 0] [(1000, .blk 113 [.arr 500 0 ps.length, .arr 501 0 ps.length, .d (.int c)]), (500, .arr 9 1 (ps.map frR)), (501, .arr 9 1 (ps.map toR)), (1001, .blk 34 [.d (.int tk), .d (.int tn), .d (.str ta), .d (.str tb), .d (strsD tvs), .arr 1003 0 2, .arr 1004 0 tcs.length]), (1002, .blk 111 [.ptr 1000 0]), (1003, .arr 34 7 ([r0, Tm.row (.mk yk yn ya yb yvs yxs ycs)])), (1004, .arr 40 9 (tcs.map Cs.row))] (.tuple []) [(1000, .blk 113 [.arr 500 0 ps.length, .arr 501 0 ps.length, .d (.int c2)]), (500, .arr 9 1 (ps.map frR)), (501, .arr 9 1 (ps.map toR)), (1001, .blk 34 [.d (.int tk), .d (.int tn), .d (.str v), .d (.str tb), .d (strsD tvs), .arr 1003 0 2, .arr 1004 0 tcs.length]), (1002, .blk 111 [.ptr 1000 0]), (1003, .arr 34 7 ([r0, Tm.row (.mk zk zn za zb zvs zxs zcs)])), (1004, .arr 40 9 (tcs.map Cs.row))] := by
  refine CSpec.of Tryd.func151 rfl rfl (Nat.le_of_ble_eq_true rfl) ?_
  show AWp _ _ (endC _ Tryd.f151 _ _) (startC 17 _ _)
  refine AWp.rg [] [] ?_ (hr := by conv => lhs; simp [Tm.row, Tm.rows_eq, Cs.rows_eq])
  refine AWp.dw [] [.c [] [.ptr 1000 0, .agg [.d (.int yk), .d (.int yn), .d (.str ya), .d (.str yb), .d (strsD yvs), .d (.sl (yxs.map Tm.row)), .d (.sl (ycs.map Cs.row))]] [(1000, .blk 113 [.arr 500 0 ps.length, .arr 501 0 ps.length, .d (.int c)]), (500, .arr 9 1 (ps.map frR)), (501, .arr 9 1 (ps.map toR))] (.agg [.d (.int zk), .d (.int zn), .d (.str za), .d (.str zb), .d (strsD zvs), .d (.sl (zxs.map Tm.row)), .d (.sl (zcs.map Cs.row))]) [(1000, .blk 113 [.arr 500 0 ps.length, .arr 501 0 ps.length, .d (.int c2)]), (500, .arr 9 1 (ps.map frR)), (501, .arr 9 1 (ps.map toR))]] mixed ?_ (hr := by conv => lhs; simp [Tm.row, Tm.rows_eq, Cs.rows_eq])
  try dsimp only [thenQ, blockQ]
  apply endC.normal
  · rfl
  · conv => lhs; simp [resAV, Tryd.results151]
  · rfl
  · simp [moEnd, memGet, Tm.row, Tm.rows_eq, Cs.rows_eq]
set_option maxRecDepth 20000 in
set_option maxHeartbeats 16000000 in
theorem cs_term2 (ps : Ps) (c c2 : Int) (us dws : List ByteArray) (dt : Int) (j : Nat) (R R1 R2 : List (List D)) (yk yn zk zn : Int) (ya yb za zb : ByteArray) (yvs zvs : List ByteArray) (yxs zxs : List Tm) (ycs zcs : List Cs)
    (hR0 : R[j]? = some [.int dt, strsD dws, .int yk, .int yn, .str ya, .str yb, strsD yvs, .sl (yxs.map Tm.row), .sl (ycs.map Cs.row)]) (hR1 : R.set j [.int dt, strsD us, .int yk, .int yn, .str ya, .str yb, strsD yvs, .sl (yxs.map Tm.row), .sl (ycs.map Cs.row)] = R1) (hR1g : R1[j]? = some [.int dt, strsD us, .int yk, .int yn, .str ya, .str yb, strsD yvs, .sl (yxs.map Tm.row), .sl (ycs.map Cs.row)]) (hR2 : R1.set j [.int dt, strsD us, .int zk, .int zn, .str za, .str zb, strsD zvs, .sl (zxs.map Tm.row), .sl (zcs.map Cs.row)] = R2)
    (hx : CSpec Tryd.prog 106 [.ptr 1000 0, tmAV (.mk yk yn ya yb yvs yxs ycs)] [(1000, chO ps.length c), (500, frO ps), (501, toO ps)] (tmAV (.mk zk zn za zb zvs zxs zcs)) [(1000, chO ps.length c2), (500, frO ps), (501, toO ps)]) :
    CSpec Tryd.prog 152 [strsAV us, .ptr 1001 0, .ptr 1002 0] [(1000, .blk 113 [.arr 500 0 ps.length, .arr 501 0 ps.length, .d (.int c)]), (500, .arr 9 1 (ps.map frR)), (501, .arr 9 1 (ps.map toR)), (1001, .blk 153 [.eptr 1003 j 0]), (1002, .blk 111 [.ptr 1000 0]), (1003, .arr 40 9 R)] (.tuple []) [(1000, .blk 113 [.arr 500 0 ps.length, .arr 501 0 ps.length, .d (.int c2)]), (500, .arr 9 1 (ps.map frR)), (501, .arr 9 1 (ps.map toR)), (1001, .blk 153 [.eptr 1003 j 0]), (1002, .blk 111 [.ptr 1000 0]), (1003, .arr 40 9 R2)] := by
  refine CSpec.of Tryd.func152 rfl rfl (Nat.le_of_ble_eq_true rfl) ?_
  show AWp _ _ (endC _ Tryd.f152 _ _) (startC 17 _ _)
  refine AWp.rg [] [] ?_ (hr := by conv => lhs; simp [Tm.row, Tm.rows_eq, Cs.rows_eq, hR0, hR1])
  refine AWp.dw [] [.c [] [.ptr 1000 0, .agg [.d (.int yk), .d (.int yn), .d (.str ya), .d (.str yb), .d (strsD yvs), .d (.sl (yxs.map Tm.row)), .d (.sl (ycs.map Cs.row))]] [(1000, .blk 113 [.arr 500 0 ps.length, .arr 501 0 ps.length, .d (.int c)]), (500, .arr 9 1 (ps.map frR)), (501, .arr 9 1 (ps.map toR))] (.agg [.d (.int zk), .d (.int zn), .d (.str za), .d (.str zb), .d (strsD zvs), .d (.sl (zxs.map Tm.row)), .d (.sl (zcs.map Cs.row))]) [(1000, .blk 113 [.arr 500 0 ps.length, .arr 501 0 ps.length, .d (.int c2)]), (500, .arr 9 1 (ps.map frR)), (501, .arr 9 1 (ps.map toR))]] mixed ?_ (hr := by conv => lhs; simp [Tm.row, Tm.rows_eq, Cs.rows_eq, hR1g, hR2])
  try dsimp only [thenQ, blockQ]
  apply endC.normal
  · rfl
  · conv => lhs; simp [resAV, Tryd.results152]
  · rfl
  · simp [moEnd, memGet]

set_option maxRecDepth 20000 in
set_option maxHeartbeats 16000000 in
theorem term_step (N : Nat) (ih : TermN N) : TermN (N + 1) := by
  intro t ps c hRt hO hps
  obtain ⟨R, hR⟩ : ∃ R, R = t.rn ps c := ⟨_, rfl⟩
  rw [← hR]
  obtain ⟨tk, tn, ta, tb, tvs, txs, tcs⟩ := t
  obtain ⟨hkk, hmany, h6, hxR, hcR⟩ := hRt
  have hxO : ∀ x ∈ txs, x.Ok := fun x hx => Tm.Oks_iff.1 hO.2.2.1 x hx
  have hown := cs_Own (.mk tk tn ta tb tvs txs tcs) hO
  dsimp only at hown
  refine CSpec.of Tryd.func106 rfl rfl (Nat.le_of_ble_eq_true rfl) ?_
  show AWp _ _ (endC _ Tryd.f106 _ _) (startC 75 _ _)
  refine AWp.rg [] [] ?_ (hr := by conv => lhs; simp [Tm.row, Tm.rows_eq, Cs.rows_eq])
  refine AWp.rg [] [.n [(500, 400), (501, 401)] [.agg [.d (.int tk), .d (.int tn), .d (.str ta), .d (.str tb), .d (strsD tvs), .d (.sl (txs.map Tm.row)), .d (.sl (tcs.map Cs.row))]] [] (.agg [.d (.int tk), .d (.int tn), .d (.str ta), .d (.str tb), .d (strsD tvs), .arr 500 0 txs.length, .arr 501 0 tcs.length]) [(500, .arr 34 7 (txs.map Tm.row)), (501, .arr 40 9 (tcs.map Cs.row))] [500, 501]] ?_ (hr := by conv => lhs; simp [Tm.row, Tm.rows_eq, Cs.rows_eq])
  refine AWp.rg [] [] ?_ (hr := by conv => lhs; simp [Tm.row, Tm.rows_eq, Cs.rows_eq])
  by_cases q1 : tk = 1
  · refine AWp.rg [] [] ?_ (hr := by conv => lhs; simp [Tm.row, Tm.rows_eq, Cs.rows_eq, q1])
    refine AWp.cy ?_
    subst q1
    obtain rfl : R = (.mk 1 tn (nowP ps ta) tb tvs [] [], c) := by rw [hR, Tm.rn, if_pos rfl]
    have hx0 : txs = [] ∧ tcs = [] := by
      unfold manyB at hmany
      simp at hmany
      exact hmany
    obtain ⟨rfl, rfl⟩ := hx0
    have hnow := cs_now ps ta c (by omega)
    generalize nowP ps ta = nw at hnow ⊢
    refine AWp.rg [] [.c [] [.ptr 1000 0, .d (.str ta)] [(1000, .blk 113 [.arr 500 0 ps.length, .arr 501 0 ps.length, .d (.int c)]), (500, .arr 9 1 (ps.map frR)), (501, .arr 9 1 (ps.map toR))] (.d (.str nw)) [(1000, .blk 113 [.arr 500 0 ps.length, .arr 501 0 ps.length, .d (.int c)]), (500, .arr 9 1 (ps.map frR)), (501, .arr 9 1 (ps.map toR))]] ?_ (hr := by conv => lhs; simp [Tm.row, Tm.rows_eq, Cs.rows_eq])
    refine AWp.rg [] [] ?_ (hr := by conv => lhs; simp [Tm.row, Tm.rows_eq, Cs.rows_eq])
    refine AWp.ret ?_
    try dsimp only [thenQ, blockQ]
    apply endC.retF [400, 401]
    · rfl
    · conv => lhs; simp
    · conv => lhs; simp [resAV, Tryd.results106]
    · first | rfl | simp [resVal, tmAV, Tm.row, Tm.rows_eq, Cs.rows_eq]
    · simp [moEnd, memGet]
  refine AWp.rg [] [] ?_ (hr := by conv => lhs; simp [Tm.row, Tm.rows_eq, Cs.rows_eq, q1])
  refine AWp.cn ?_
  by_cases q2 : tk = 6
  · refine AWp.rg [] [] ?_ (hr := by conv => lhs; simp [Tm.row, Tm.rows_eq, Cs.rows_eq, q1, q2])
    refine AWp.cy ?_
    subst q2
    have hx2 : txs.length = 2 ∧ tcs = [] := by
      unfold manyB at hmany
      simp at hmany
      exact hmany
    obtain ⟨hx2, rfl⟩ := hx2
    obtain ⟨x, y, rfl⟩ : ∃ x y, txs = [x, y] := by
      rcases txs with _ | ⟨x, _ | ⟨y, _ | ⟨z, l⟩⟩⟩
      · cases hx2
      · cases hx2
      · exact ⟨x, y, rfl⟩
      · simp at hx2
    have hxx := ih x ps c (hxR x (by simp)) (hxO x (by simp)) (by omega)
    rw [Tm.rn, if_neg (by omega), Tm.rns, if_neg (fun h => absurd h.2 (by omega)), Tm.rns, if_pos ⟨rfl, rfl⟩, Tm.rns, Cs.rnL] at hR
    dsimp only at hR
    generalize x.rn ps c = o at hxx hR
    obtain ⟨z, c2⟩ := o
    dsimp only at hxx hR
    obtain ⟨v, hv⟩ : ∃ v, v = vNm (wr (c2 + 1)) := ⟨_, rfl⟩
    obtain ⟨e, he⟩ : ∃ e, e = wr (c2 + 1) := ⟨_, rfl⟩
    rw [← hv, ← he] at hR
    obtain ⟨qs, hqs⟩ : ∃ qs, qs = ps ++ [(ta, v)] := ⟨_, rfl⟩
    rw [← hqs] at hR
    have hyy := ih y qs e (hxR y (by simp)) (hxO y (by simp)) (by rw [hqs, List.length_append, List.length_singleton]; omega)
    generalize y.rn qs e = o at hyy hR
    obtain ⟨u, c3⟩ := o
    dsimp only at hyy hR
    subst hR
    obtain ⟨xk, xn, xa, xb, xvs, xxs, xcs⟩ := x
    obtain ⟨yk, yn, ya, yb, yvs, yxs, ycs⟩ := y
    obtain ⟨zk, zn, za, zb, zvs, zxs, zcs⟩ := z
    obtain ⟨uk, un, ua, ub, uvs, uxs, ucs⟩ := u
    have hb := cs_bind1 ps qs [ta] c2 c3 6 tn ta v tb tvs [] [Tm.row (.mk zk zn za zb zvs zxs zcs), Tm.row (.mk yk yn ya yb yvs yxs ycs)] [Tm.row (.mk zk zn za zb zvs zxs zcs), Tm.row (.mk uk un ua ub uvs uxs ucs)] rfl rfl (by simp) (by simp; omega) (by rw [hqs, hv]; rfl)
      (by
        have h := cs_term1 qs e c3 v 6 tn ta tb tvs [] (Tm.row (.mk zk zn za zb zvs zxs zcs)) yk yn uk un ya yb ua ub yvs uvs yxs uxs ycs ucs hyy
        rw [show freshL [ta] c2 = [v] from by rw [hv]; rfl, show freshC [ta] c2 = e from by rw [he]; rfl]
        exact h)
    rw [show strsAV [ta] = .d (.sl [[.str ta]]) from rfl] at hb
    simp only [List.length_nil, List.map_nil, Tm.row, Tm.rows_eq, Cs.rows_eq, chO, frO, toO] at hb
    refine AWp.dw [] [.c [] [.ptr 1000 0, .agg [.d (.int xk), .d (.int xn), .d (.str xa), .d (.str xb), .d (strsD xvs), .d (.sl (xxs.map Tm.row)), .d (.sl (xcs.map Cs.row))]] [(1000, .blk 113 [.arr 500 0 ps.length, .arr 501 0 ps.length, .d (.int c)]), (500, .arr 9 1 (ps.map frR)), (501, .arr 9 1 (ps.map toR))] (.agg [.d (.int zk), .d (.int zn), .d (.str za), .d (.str zb), .d (strsD zvs), .d (.sl (zxs.map Tm.row)), .d (.sl (zcs.map Cs.row))]) [(1000, .blk 113 [.arr 500 0 ps.length, .arr 501 0 ps.length, .d (.int c2)]), (500, .arr 9 1 (ps.map frR)), (501, .arr 9 1 (ps.map toR))]] mixed ?_ (hr := by conv => lhs; simp [Tm.row, Tm.rows_eq, Cs.rows_eq, q1])
    refine AWp.rg [3] [.c [(1001, 3), (1002, 2), (1003, 400), (1004, 401)] [.ptr 1000 0, .d (.sl [[.str ta]]), .clo 151 [.ptr 1001 0, .ptr 1002 0]] [(1000, .blk 113 [.arr 500 0 ps.length, .arr 501 0 ps.length, .d (.int c2)]), (500, .arr 9 1 (ps.map frR)), (501, .arr 9 1 (ps.map toR)), (1001, .blk 34 [.d (.int 6), .d (.int tn), .d (.str ta), .d (.str tb), .d (strsD tvs), .arr 1003 0 2, .arr 1004 0 0]), (1002, .blk 111 [.ptr 1000 0]), (1003, .arr 34 7 ([Tm.row (.mk zk zn za zb zvs zxs zcs), Tm.row (.mk yk yn ya yb yvs yxs ycs)])), (1004, .arr 40 9 ([]))] (.tuple []) [(1000, .blk 113 [.arr 500 0 ps.length, .arr 501 0 ps.length, .d (.int c3)]), (500, .arr 9 1 (ps.map frR)), (501, .arr 9 1 (ps.map toR)), (1001, .blk 34 [.d (.int 6), .d (.int tn), .d (.str v), .d (.str tb), .d (strsD tvs), .arr 1003 0 2, .arr 1004 0 0]), (1002, .blk 111 [.ptr 1000 0]), (1003, .arr 34 7 ([Tm.row (.mk zk zn za zb zvs zxs zcs), Tm.row (.mk uk un ua ub uvs uxs ucs)])), (1004, .arr 40 9 ([]))]] ?_ (hr := by conv => lhs; simp [Tm.row, Tm.rows_eq, Cs.rows_eq, q1])
    refine AWp.rg [] [] ?_ (hr := by conv => lhs; simp [Tm.row, Tm.rows_eq, Cs.rows_eq, q1])
    refine AWp.ret ?_
    try dsimp only [thenQ, blockQ]
    apply endC.retF [400, 401]
    · rfl
    · conv => lhs; simp
    · conv => lhs; simp [resAV, Tryd.results106]
    · first | rfl | simp [resVal, tmAV, Tm.row, Tm.rows_eq, Cs.rows_eq]
    · simp [moEnd, memGet]
  refine AWp.rg [] [] ?_ (hr := by conv => lhs; simp [Tm.row, Tm.rows_eq, Cs.rows_eq, q1, q2])
  refine AWp.cn ?_
  refine AWp.skip ?_
  rw [Tm.rn, if_neg q1] at hR
  refine AWp.rg [] [] ?_ (hr := by conv => lhs; simp [Tm.row, Tm.rows_eq, Cs.rows_eq, q1, q2])
  repeat (first | refine AWp.seq ?_ | refine AWp.block ?_)
  refine AWp.loop (σ := fun u : {u : Nat × List Tm × Int × List (List D) // u.1 ≤ txs.length ∧ (Tm.rns tk ta ps 0 txs ta c = (u.2.1 ++ (Tm.rns tk ta ps u.1 (txs.drop u.1) ta u.2.2.1).1, (Tm.rns tk ta ps u.1 (txs.drop u.1) ta u.2.2.1).2) ∧ u.2.1.length = u.1 ∧ u.2.2.2 = (u.2.1 ++ txs.drop u.1).map Tm.row)} => ⟨75, [(2, .ptr 2 0), (3, .ptr 3 0), (4, .ptr 4 0), (40, .d (.int txs.length)), (41, .d (.int (u.1.1 : Int)))], [(2, some (.blk 111 [.ptr 1000 0])), (3, some (.blk 34 [.d (.int tk), .d (.int tn), .d (.str ta), .d (.str tb), .d (strsD tvs), .arr 400 0 txs.length, .arr 401 0 tcs.length])), (4, some (.blk 34 [.d (.int 0), .d (.int 0), .d (.str ByteArray.empty), .d (.str ByteArray.empty), .lit (.slice none 0 0), .lit (.slice none 0 0), .lit (.slice none 0 0)])), (400, some (.arr 34 7 u.1.2.2.2)), (401, some (.arr 40 9 (tcs.map Cs.row))), (500, some (.arr 9 1 (ps.map frR))), (501, some (.arr 9 1 (ps.map toR))), (1000, some (.blk 113 [.arr 500 0 ps.length, .arr 501 0 ps.length, .d (.int u.1.2.2.1)]))]⟩)
    (μ := fun u => txs.length - u.1.1) ⟨(0, [], c, txs.map Tm.row), ⟨Nat.zero_le _, ⟨by simp, rfl, by simp⟩⟩⟩ (Le.sub (by simp) (by simp)) (fun ⟨(i, ys, c1, RS), ⟨hi11, hw⟩⟩ => ?_)
  dsimp only at hi11 hw ⊢
  refine AWp.rg [] [] ?_ (hr := by conv => lhs; simp [Tm.row, Tm.rows_eq, Cs.rows_eq, q1, q2])
  repeat (first | refine AWp.seq ?_ | refine AWp.block ?_)
  refine AWp.cond rfl (fun hc => ?_) (fun hc => ?_)
  · have hi1 : i < txs.length := by have := of_decide_eq_true hc; omega
    clear hc
    have h1y : txs[i]? = some txs[i] := List.getElem?_eq_getElem hi1
    have hmy : txs[i] ∈ txs := List.getElem_mem hi1
    have hdy : txs.drop i = txs[i] :: txs.drop (i + 1) := List.drop_eq_getElem_cons hi1
    generalize txs[i] = y at h1y hmy hdy
    obtain ⟨hap, hyl, hRS⟩ := hw
    have hyR := hxR y hmy
    rw [hdy, Tm.rns, if_neg (fun h => q2 h.1)] at hap
    have hx := ih y ps c1 hyR (hxO y hmy) (by omega)
    generalize y.rn ps c1 = o at hx hap
    obtain ⟨z, c2⟩ := o
    dsimp only at hx hap
    rw [hdy] at hRS
    obtain ⟨yk, yn, ya, yb, yvs, yxs, ycs⟩ := y
    obtain ⟨zk, zn, za, zb, zvs, zxs, zcs⟩ := z
    have hRS0 : RS[i]? = some (Tm.row (.mk yk yn ya yb yvs yxs ycs)) := by rw [hRS, List.getElem?_map, List.getElem?_append_right (by omega), hyl, Nat.sub_self]; rfl
    obtain ⟨RS1, hRS1⟩ : ∃ R, R = RS.set i (Tm.row (.mk zk zn za zb zvs zxs zcs)) := ⟨_, rfl⟩
    have hRS2 : RS1 = ((ys ++ [Tm.mk zk zn za zb zvs zxs zcs]) ++ txs.drop (i + 1)).map Tm.row := by
      rw [hRS1, hRS, ← List.map_set, List.set_append_right _ _ (by omega), hyl, Nat.sub_self]
      simp
    have hRSl : RS.length = txs.length := by rw [hRS, List.length_map, List.length_append, List.length_cons, List.length_drop]; omega
    simp only [Tm.row, Tm.rows_eq, Cs.rows_eq] at hRS0 hRS1
    replace hRS1 := hRS1.symm
    refine AWp.skip ?_
    refine AWp.rg [] [] ?_ (hr := by conv => lhs; simp [Tm.row, Tm.rows_eq, Cs.rows_eq, h1y, hRS0, hRS1, q1, q2])
    refine AWp.dw [] [.c [] [.ptr 1000 0, .agg [.d (.int yk), .d (.int yn), .d (.str ya), .d (.str yb), .d (strsD yvs), .d (.sl (yxs.map Tm.row)), .d (.sl (ycs.map Cs.row))]] [(1000, .blk 113 [.arr 500 0 ps.length, .arr 501 0 ps.length, .d (.int c1)]), (500, .arr 9 1 (ps.map frR)), (501, .arr 9 1 (ps.map toR))] (.agg [.d (.int zk), .d (.int zn), .d (.str za), .d (.str zb), .d (strsD zvs), .d (.sl (zxs.map Tm.row)), .d (.sl (zcs.map Cs.row))]) [(1000, .blk 113 [.arr 500 0 ps.length, .arr 501 0 ps.length, .d (.int c2)]), (500, .arr 9 1 (ps.map frR)), (501, .arr 9 1 (ps.map toR))]] mixed ?_ (hr := by conv => lhs; simp [Tm.row, Tm.rows_eq, Cs.rows_eq, h1y, hRS0, hRS1, q1, q2])
    refine AWp.rg [] [] ?_ (hr := by conv => lhs; simp [Tm.row, Tm.rows_eq, Cs.rows_eq, h1y, hRS0, hRS1, q1, q2])
    refine ⟨⟨(i + 1, ys ++ [.mk zk zn za zb zvs zxs zcs], c2, RS1), hi1, ⟨by rw [hap]; simp, by simp [hyl], hRS2⟩⟩, by simp; omega, ?_⟩
    dsimp only
    exact Le.sub (by simp) (by simp)
  have hi1 : i = txs.length := by have := of_decide_eq_false hc; omega
  subst hi1
  clear hc
  obtain ⟨hap, hyl, hRS⟩ := hw
  rw [List.drop_length, Tm.rns] at hap
  rw [List.drop_length, List.append_nil] at hRS
  simp only [List.append_nil] at hap
  rw [hap] at hR
  dsimp only at hR
  clear hap
  subst hRS
  refine AWp.exit ?_
  refine AWp.rg [] [] ?_ (hr := by conv => lhs; simp [Tm.row, Tm.rows_eq, Cs.rows_eq, q1, q2])
  repeat (first | refine AWp.seq ?_ | refine AWp.block ?_)
  refine AWp.loop (σ := fun u : {u : Nat × List Cs × Int × List (List D) // u.1 ≤ tcs.length ∧ (Cs.rnL tcs ps c1 = (u.2.1 ++ (Cs.rnL (tcs.drop u.1) ps u.2.2.1).1, (Cs.rnL (tcs.drop u.1) ps u.2.2.1).2) ∧ u.2.1.length = u.1 ∧ u.2.2.2 = (u.2.1 ++ tcs.drop u.1).map Cs.row)} => ⟨75, [(2, .ptr 2 0), (3, .ptr 3 0), (4, .ptr 4 0), (58, .d (.int tcs.length)), (59, .d (.int (u.1.1 : Int)))], [(2, some (.blk 111 [.ptr 1000 0])), (3, some (.blk 34 [.d (.int tk), .d (.int tn), .d (.str ta), .d (.str tb), .d (strsD tvs), .arr 400 0 txs.length, .arr 401 0 tcs.length])), (4, some (.blk 34 [.d (.int 0), .d (.int 0), .d (.str ByteArray.empty), .d (.str ByteArray.empty), .lit (.slice none 0 0), .lit (.slice none 0 0), .lit (.slice none 0 0)])), (400, some (.arr 34 7 (ys.map Tm.row))), (401, some (.arr 40 9 u.1.2.2.2)), (500, some (.arr 9 1 (ps.map frR))), (501, some (.arr 9 1 (ps.map toR))), (1000, some (.blk 113 [.arr 500 0 ps.length, .arr 501 0 ps.length, .d (.int u.1.2.2.1)]))]⟩)
    (μ := fun u => tcs.length - u.1.1) ⟨(0, [], c1, tcs.map Cs.row), ⟨Nat.zero_le _, ⟨by simp, rfl, by simp⟩⟩⟩ (Le.sub (by simp) (by simp)) (fun ⟨(i, ds, c3, RS), ⟨hi16, hw2⟩⟩ => ?_)
  dsimp only at hi16 hw2 ⊢
  refine AWp.rg [] [] ?_ (hr := by conv => lhs; simp [Tm.row, Tm.rows_eq, Cs.rows_eq, q1, q2])
  repeat (first | refine AWp.seq ?_ | refine AWp.block ?_)
  refine AWp.cond rfl (fun hc => ?_) (fun hc => ?_)
  · have hi1 : i < tcs.length := by have := of_decide_eq_true hc; omega
    clear hc
    have h1d : tcs[i]? = some tcs[i] := List.getElem?_eq_getElem hi1
    have hmd : tcs[i] ∈ tcs := List.getElem_mem hi1
    have hdd : tcs.drop i = tcs[i] :: tcs.drop (i + 1) := List.drop_eq_getElem_cons hi1
    generalize tcs[i] = d at h1d hmd hdd
    obtain ⟨hap, hdl, hRS⟩ := hw2
    have hdR := hcR d hmd
    rw [hdd, Cs.rnL] at hap
    rw [hdd] at hRS
    obtain ⟨dt, dws, y⟩ := d
    obtain ⟨hw6, hyR⟩ := hdR
    dsimp only at hw6 hyR
    rw [Cs.rn] at hap
    obtain ⟨e, he⟩ : ∃ e, e = freshC dws c3 := ⟨_, rfl⟩
    obtain ⟨us, hus⟩ : ∃ us, us = freshL dws c3 := ⟨_, rfl⟩
    have hul := freshL_len dws c3
    rw [← hus, ← he] at hap
    rw [← hus] at hul
    obtain ⟨qs, hqs⟩ : ∃ qs, qs = ps ++ dws.zip us := ⟨_, rfl⟩
    rw [← hqs] at hap
    have hx := ih y qs e hyR (Cs.Oks_iff.1 hO.2.2.2 _ hmd).2.2 (by rw [hqs, List.length_append, List.length_zip]; omega)
    generalize y.rn qs e = o at hx hap
    obtain ⟨z, c2⟩ := o
    dsimp only at hx hap
    obtain ⟨yk, yn, ya, yb, yvs, yxs, ycs⟩ := y
    obtain ⟨zk, zn, za, zb, zvs, zxs, zcs⟩ := z
    have hRSl : RS.length = tcs.length := by rw [hRS, List.length_map, List.length_append, List.length_cons, List.length_drop]; omega
    have hR0 : RS[i]? = some [.int dt, strsD dws, .int yk, .int yn, .str ya, .str yb, strsD yvs, .sl (yxs.map Tm.row), .sl (ycs.map Cs.row)] := by rw [hRS, List.getElem?_map, List.getElem?_append_right (by omega), hdl, Nat.sub_self]; simp [Cs.row, Tm.row, Tm.rows_eq, Cs.rows_eq]
    obtain ⟨R1, hR1⟩ : ∃ R1, RS.set i [.int dt, strsD us, .int yk, .int yn, .str ya, .str yb, strsD yvs, .sl (yxs.map Tm.row), .sl (ycs.map Cs.row)] = R1 := ⟨_, rfl⟩
    obtain ⟨R2, hR2⟩ : ∃ R2, R1.set i [.int dt, strsD us, .int zk, .int zn, .str za, .str zb, strsD zvs, .sl (zxs.map Tm.row), .sl (zcs.map Cs.row)] = R2 := ⟨_, rfl⟩
    have hR1g : R1[i]? = some [.int dt, strsD us, .int yk, .int yn, .str ya, .str yb, strsD yvs, .sl (yxs.map Tm.row), .sl (ycs.map Cs.row)] := by rw [← hR1]; exact List.getElem?_set_self (by omega)
    have hRS2 : R2 = ((ds ++ [Cs.mk dt us (Tm.mk zk zn za zb zvs zxs zcs)]) ++ tcs.drop (i + 1)).map Cs.row := by
      rw [← hR2, ← hR1, List.set_set, show ([.int dt, strsD us, .int zk, .int zn, .str za, .str zb, strsD zvs, .sl (zxs.map Tm.row), .sl (zcs.map Cs.row)] : List D) = Cs.row (Cs.mk dt us (Tm.mk zk zn za zb zvs zxs zcs)) from by simp [Cs.row, Tm.row, Tm.rows_eq, Cs.rows_eq], hRS, ← List.map_set, List.set_append_right _ _ (by omega), hdl, Nat.sub_self]
      simp
    have hR2l : R2.length = RS.length := by rw [← hR2, ← hR1]; simp
    have hb := cs_bind2 ps qs dws c3 c2 i RS R2 (by rw [← hR2, ← hR1]; simp) hw6 (by omega) (by rw [hqs, hus]) (by
      rw [← hus, ← he]
      exact cs_term2 qs e c2 us dws dt i RS R1 R2 yk yn zk zn ya yb za zb yvs zvs yxs zxs ycs zcs hR0 hR1 hR1g hR2 hx)
    refine AWp.skip ?_
    refine AWp.rg [] [] ?_ (hr := by conv => lhs; simp [Tm.row, Tm.rows_eq, Cs.rows_eq, h1d, Cs.row, hR0, q1, q2])
    refine AWp.rg [] [] ?_ (hr := by conv => lhs; simp [Tm.row, Tm.rows_eq, Cs.rows_eq, h1d, Cs.row, hR0, q1, q2])
    refine AWp.dw [] [.c [(1001, 7), (1002, 2), (1003, 401)] [.ptr 1000 0, .d (strsD dws), .clo 152 [.ptr 1001 0, .ptr 1002 0]] [(1000, .blk 113 [.arr 500 0 ps.length, .arr 501 0 ps.length, .d (.int c3)]), (500, .arr 9 1 (ps.map frR)), (501, .arr 9 1 (ps.map toR)), (1001, .blk 153 [.eptr 1003 i 0]), (1002, .blk 111 [.ptr 1000 0]), (1003, .arr 40 9 RS)] (.tuple []) [(1000, .blk 113 [.arr 500 0 ps.length, .arr 501 0 ps.length, .d (.int c2)]), (500, .arr 9 1 (ps.map frR)), (501, .arr 9 1 (ps.map toR)), (1001, .blk 153 [.eptr 1003 i 0]), (1002, .blk 111 [.ptr 1000 0]), (1003, .arr 40 9 R2)]] mixed ?_ (hr := by conv => lhs; simp [Tm.row, Tm.rows_eq, Cs.rows_eq, h1d, Cs.row, hR0, q1, q2])
    refine AWp.rg [] [] ?_ (hr := by conv => lhs; simp [Tm.row, Tm.rows_eq, Cs.rows_eq, h1d, Cs.row, hR0, q1, q2])
    refine ⟨⟨(i + 1, ds ++ [.mk dt us (.mk zk zn za zb zvs zxs zcs)], c2, R2), hi1, ⟨by rw [hap]; simp, by simp [hdl], hRS2⟩⟩, by simp; omega, ?_⟩
    dsimp only
    exact Le.sub (by simp) (by simp)
  have hi1 : i = tcs.length := by have := of_decide_eq_false hc; omega
  subst hi1
  clear hc
  obtain ⟨hap, hdl, hRS⟩ := hw2
  rw [List.drop_length, Cs.rnL] at hap
  rw [List.drop_length, List.append_nil] at hRS
  simp only [List.append_nil] at hap
  rw [hap] at hR
  dsimp only at hR
  subst hR
  subst hRS
  refine AWp.exit ?_
  refine AWp.rg [] [] ?_ (hr := by conv => lhs; simp [Tm.row, Tm.rows_eq, Cs.rows_eq, q1, q2])
  refine AWp.ret ?_
  have htk1 : List.take txs.length (List.map Tm.row ys) = List.map Tm.row ys := List.take_of_length_le (by simp; omega)
  have htk2 : List.take tcs.length (List.map Cs.row ds) = List.map Cs.row ds := List.take_of_length_le (by simp; omega)
  try dsimp only [thenQ, blockQ]
  apply endC.retF [400, 401]
  · rfl
  · conv => lhs; simp [htk1, htk2]
  · conv => lhs; simp [resAV, Tryd.results106, htk1, htk2]
  · first | rfl | simp [resVal, tmAV, Tm.row, Tm.rows_eq, Cs.rows_eq, htk1, htk2]
  · simp [moEnd, memGet]
theorem term_all : ∀ N, TermN N
  | 0 => fun _ _ _ h => h.elim
  | N + 1 => term_step N (term_all N)
end Go.Proofs.YtapiiklnnkkdlaaDoor
