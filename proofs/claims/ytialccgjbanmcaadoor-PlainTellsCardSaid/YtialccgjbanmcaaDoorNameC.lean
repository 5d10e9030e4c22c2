/- names.changer: bind with each of its functions; these functions. Printed by a small program. -/
import Derived.Test.YtialccgjbanmcaaDoorNameB
namespace Go.Proofs.YtialccgjbanmcaaDoor
open Go.RowKit
attribute [local simp] runD mkRc ldOf ldArg noAny dstOk guardOk opEff opEff0 effOp pureOp callOp zEff evA constAV frGet memGet startAS frOf isGoCall idIn AS.after nextR opnIds objIds AV.ids idsL AObj.ids frNo memNo opnAny isAny mkVal rdCells wrCells fldAddr idxAddr srcRows litRows toD1 toDs setAt sliceAV optI partAV bldAV fillAV binAV binI AV.cells callEff calleeOf frKill memKill AV.kill AObj.kill AV.has AV.hasL Op.operands Call.operands keepF keepM viewIds cChk renOf moGet moWs moQ cEff moLike moHave AV.ren renL AObj.ren AObj.like kept startC moMem AV.frz frz1 frzL frSub memSub frzs AS.frz frFrz memFrz AObj.frz takeMap takeLen bleF Nat.ble_eq memAny objAny mapOp D.keyOk rowAV valRow extOp wrapOp phO frLow memLow memLow1 objLow memEmpty Low LowL
set_option linter.unusedVariables false
set_option linter.unusedSimpArgs false


theorem map_frR (ps : Ps) (ws us : List ByteArray) (h : us.length = ws.length) : List.map frR ps ++ List.map strR ws = List.map frR (ps ++ ws.zip us) := by
  rw [List.map_append]
  congr 1
  induction ws generalizing us with
  | nil => rfl
  | cons w r ih =>
    rcases us with _ | ⟨u, us⟩
    · cases h
    · simp only [List.map_cons, List.zip_cons_cons]
      rw [ih us (by simpa using h)]
      rfl
theorem map_toR (ps : Ps) (ws us : List ByteArray) (h : us.length = ws.length) : List.map toR ps ++ List.map strR us = List.map toR (ps ++ ws.zip us) := by
  rw [List.map_append]
  congr 1
  induction ws generalizing us with
  | nil => rcases us with _ | ⟨u, us⟩ <;> first | rfl | cases h
  | cons w r ih =>
    rcases us with _ | ⟨u, us⟩
    · cases h
    · simp only [List.map_cons, List.zip_cons_cons]
      rw [← ih us (by simpa using h)]
      rfl
set_option maxRecDepth 20000 in
set_option maxHeartbeats 16000000 in
theorem cs_bind1 (ps qs : Ps) (ws : List ByteArray) (c c2 : Int) (tk tn : Int) (ta ta2 tb : ByteArray) (tvs : List ByteArray) (tcs : List Cs) (R R2 : List (List D)) (hRl : R.length = 2) (hR2l : R2.length = 2) (hw6 : ws.length ≤ 6) (hps : ps.length + ws.length ≤ 1000) (hqd : qs = ps ++ ws.zip (freshL ws c))
    (hcl : CSpec Tryd.prog 92 [strsAV (freshL ws c), .ptr 1001 0, .ptr 1002 0] [(1000, .blk 76 [.arr 500 0 qs.length, .arr 501 0 qs.length, .d (.int (freshC ws c))]), (500, .arr 9 1 (qs.map frR)), (501, .arr 9 1 (qs.map toR)), (1001, .blk 32 [.d (.int tk), .d (.int tn), .d (.str ta), .d (.str tb), .d (strsD tvs), .arr 1003 0 2, .arr 1004 0 tcs.length]), (1002, .blk 74 [.ptr 1000 0]), (1003, .arr 32 7 R), (1004, .arr 50 9 (tcs.map Cs.row))] (.tuple []) [(1000, .blk 76 [.arr 500 0 qs.length, .arr 501 0 qs.length, .d (.int c2)]), (500, .arr 9 1 (qs.map frR)), (501, .arr 9 1 (qs.map toR)), (1001, .blk 32 [.d (.int tk), .d (.int tn), .d (.str ta2), .d (.str tb), .d (strsD tvs), .arr 1003 0 2, .arr 1004 0 tcs.length]), (1002, .blk 74 [.ptr 1000 0]), (1003, .arr 32 7 R2), (1004, .arr 50 9 (tcs.map Cs.row))]) :
    CSpec Tryd.prog 62 [.ptr 1000 0, strsAV ws, .clo 92 [.ptr 1001 0, .ptr 1002 0]] [(1000, .blk 76 [.arr 500 0 ps.length, .arr 501 0 ps.length, .d (.int c)]), (500, .arr 9 1 (ps.map frR)), (501, .arr 9 1 (ps.map toR)), (1001, .blk 32 [.d (.int tk), .d (.int tn), .d (.str ta), .d (.str tb), .d (strsD tvs), .arr 1003 0 2, .arr 1004 0 tcs.length]), (1002, .blk 74 [.ptr 1000 0]), (1003, .arr 32 7 R), (1004, .arr 50 9 (tcs.map Cs.row))] (.tuple []) [(1000, .blk 76 [.arr 500 0 ps.length, .arr 501 0 ps.length, .d (.int c2)]), (500, .arr 9 1 (ps.map frR)), (501, .arr 9 1 (ps.map toR)), (1001, .blk 32 [.d (.int tk), .d (.int tn), .d (.str ta2), .d (.str tb), .d (strsD tvs), .arr 1003 0 2, .arr 1004 0 tcs.length]), (1002, .blk 74 [.ptr 1000 0]), (1003, .arr 32 7 R2), (1004, .arr 50 9 (tcs.map Cs.row))] := by
  refine CSpec.of Tryd.func62 rfl rfl (Nat.le_of_ble_eq_true rfl) ?_
  show AWp _ _ (endC _ Tryd.f62 _ _) (startC 62 _ _)
  repeat (first | refine AWp.seq ?_ | refine AWp.block ?_)
  apply AWp.reg [] []
  · conv => lhs; simp
  · (repeat' apply And.intro) <;> first | omega | assumption | trivial | (intros; subst_vars; rfl) | (intro i r h; rcases i with _ | i <;> simp at h; subst h; rfl) | (simp [inI, maxLen]; done) | (simp [inI, maxLen]; omega)
  repeat (first | refine AWp.seq ?_ | refine AWp.block ?_)
  apply AWp.reg [] []
  · conv => lhs; simp
  · (repeat' apply And.intro) <;> first | omega | assumption | trivial | (intros; subst_vars; rfl) | (intro i r h; rcases i with _ | i <;> simp at h; subst h; rfl) | (simp [inI, maxLen]; done) | (simp [inI, maxLen]; omega)
  repeat (first | refine AWp.seq ?_ | refine AWp.block ?_)
  apply AWp.reg [] []
  · conv => lhs; simp
  · (repeat' apply And.intro) <;> first | omega | assumption | trivial | (intros; subst_vars; rfl) | (intro i r h; rcases i with _ | i <;> simp at h; subst h; rfl) | (simp [inI, maxLen]; done) | (simp [inI, maxLen]; omega)
  repeat (first | refine AWp.seq ?_ | refine AWp.block ?_)
  refine AWp.le (Le.low [400] [] (fr := [(0, .ptr 1000 0), (1, .d (strsD ws)), (2, .clo 92 [.ptr 1001 0, .ptr 1002 0]), (6, .d (.int ps.length)), (7, .arr 400 0 ([] : List ByteArray).length), (14, .d (.int (ws.length : Int))), (15, .d (.int (0 : Int)))]) (mem := [(400, some (.arr 9 1 (([] : List ByteArray).map strR))), (500, some (.arr 9 1 (ps.map frR))), (501, some (.arr 9 1 (ps.map toR))), (1000, some (.blk 76 [.arr 500 0 ps.length, .arr 501 0 ps.length, .d (.int (c : Int))])), (1001, some (.blk 32 [.d (.int tk), .d (.int tn), .d (.str ta), .d (.str tb), .d (strsD tvs), .arr 1003 0 2, .arr 1004 0 tcs.length])), (1002, some (.blk 74 [.ptr 1000 0])), (1003, some (.arr 32 7 R)), (1004, some (.arr 50 9 (tcs.map Cs.row)))]) rfl (by simp) (by simp)) ?_
  refine AWp.loop (σ := fun u : {u : Nat × List ByteArray × Int // u.1 ≤ ws.length ∧ (freshL ws c = u.2.1 ++ freshL (ws.drop u.1) u.2.2 ∧ freshC ws c = freshC (ws.drop u.1) u.2.2 ∧ u.2.1.length = u.1)} => ⟨62, [(0, .ptr 1000 0), (1, .d (strsD ws)), (2, .clo 92 [.ptr 1001 0, .ptr 1002 0]), (6, .d (.int ps.length)), (7, .arr 400 0 u.1.2.1.length), (14, .d (.int (ws.length : Int))), (15, .d (.int (u.1.1 : Int)))], [(400, some (.arr 9 1 (u.1.2.1.map strR))), (500, some (.arr 9 1 (ps.map frR))), (501, some (.arr 9 1 (ps.map toR))), (1000, some (.blk 76 [.arr 500 0 ps.length, .arr 501 0 ps.length, .d (.int u.1.2.2)])), (1001, some (.blk 32 [.d (.int tk), .d (.int tn), .d (.str ta), .d (.str tb), .d (strsD tvs), .arr 1003 0 2, .arr 1004 0 tcs.length])), (1002, some (.blk 74 [.ptr 1000 0])), (1003, some (.arr 32 7 R)), (1004, some (.arr 50 9 (tcs.map Cs.row)))]⟩)
    (μ := fun u => ws.length - u.1.1) ⟨(0, [], c), ⟨Nat.zero_le _, ⟨by simp, by simp, rfl⟩⟩⟩ (Le.sub (by simp) (by simp)) (fun ⟨(i, us, k), ⟨hi3, hw⟩⟩ => ?_)
  dsimp only at hi3 hw ⊢
  repeat (first | refine AWp.seq ?_ | refine AWp.block ?_)
  apply AWp.reg [] []
  · conv => lhs; simp
  · (repeat' apply And.intro) <;> first | omega | assumption | trivial | (intros; subst_vars; rfl) | (intro i r h; rcases i with _ | i <;> simp at h; subst h; rfl) | (simp [inI, maxLen]; done) | (simp [inI, maxLen]; omega)
  repeat (first | refine AWp.seq ?_ | refine AWp.block ?_)
  refine AWp.cond rfl (fun hc => ?_) (fun hc => ?_)
  · have hi1 : i < ws.length := by have := of_decide_eq_true hc; omega
    clear hc
    have h1x : ws[i]? = some ws[i] := List.getElem?_eq_getElem hi1
    have hmx : ws[i] ∈ ws := List.getElem_mem hi1
    have hdx : ws.drop i = ws[i] :: ws.drop (i + 1) := List.drop_eq_getElem_cons hi1
    generalize ws[i] = x at h1x hmx hdx
    obtain ⟨hfr, hfc, hul⟩ := hw
    obtain ⟨e, he⟩ : ∃ e : Int, wr (k + 1) = e := ⟨_, rfl⟩
    have hfs := cs_chFresh ps k
    rw [he] at hfs
    refine AWp.skip ?_
    repeat (first | refine AWp.seq ?_ | refine AWp.block ?_)
    apply AWp.reg [] [.c [] [.ptr 1000 0] [(1000, .blk 76 [.arr 500 0 ps.length, .arr 501 0 ps.length, .d (.int k)]), (500, .arr 9 1 (ps.map frR)), (501, .arr 9 1 (ps.map toR))] (.d (.str (vNm e))) [(1000, .blk 76 [.arr 500 0 ps.length, .arr 501 0 ps.length, .d (.int e)]), (500, .arr 9 1 (ps.map frR)), (501, .arr 9 1 (ps.map toR))]]
    · conv => lhs; simp [h1x]
    · (repeat' apply And.intro) <;> first | omega | assumption | trivial | (intros; subst_vars; rfl) | (intro i r h; rcases i with _ | i <;> simp at h; subst h; rfl) | (simp [inI, maxLen]; done) | (simp [inI, maxLen]; omega)
    repeat (first | refine AWp.seq ?_ | refine AWp.block ?_)
    apply AWp.reg [] []
    · conv => lhs; simp [h1x]
    · (repeat' apply And.intro) <;> first | omega | assumption | trivial | (intros; subst_vars; rfl) | (intro i r h; rcases i with _ | i <;> simp at h; subst h; rfl) | (simp [inI, maxLen]; done) | (simp [inI, maxLen]; omega)
    refine ⟨⟨(i + 1, us ++ [vNm e], e), hi1, ⟨by rw [hfr, hdx, freshL, he]; simp, by rw [hfc, hdx, freshC, he], by simp [hul]⟩⟩, by simp; omega, ?_⟩
    dsimp only
    exact Le.sub (by simp) (by simp)
  have hi1 : i = ws.length := by have := of_decide_eq_false hc; omega
  subst hi1
  clear hc
  obtain ⟨hfr, hfc, hul⟩ := hw
  rw [List.drop_length, freshL, List.append_nil] at hfr
  rw [List.drop_length, freshC] at hfc
  rw [hfr, hfc] at hcl
  have hmf := map_frR ps ws us hul
  have hmt := map_toR ps ws us hul
  have hq1 : ps.length + ws.length = (ps ++ ws.zip us).length := by rw [List.length_append, List.length_zip]; omega
  have hq2 : ps.length + us.length = (ps ++ ws.zip us).length := by rw [List.length_append, List.length_zip]; omega
  have hqk : (ps ++ ws.zip us).take ps.length = ps := by simp
  rw [hfr] at hqd
  rw [← hqd] at hmf hmt hq1 hq2 hqk
  refine AWp.exit ?_
  apply AWp.frzs [400]
  · conv => lhs; simp
  repeat (first | refine AWp.seq ?_ | refine AWp.block ?_)
  apply AWp.draw [] [] mixed
  · conv => lhs; simp [hmf, hmt, hq1, hq2]
  · kernel_rfl
  · (repeat' apply And.intro) <;> first | omega | assumption | trivial | (intros; subst_vars; rfl) | (intro i r h; rcases i with _ | i <;> simp at h; subst h; rfl) | (simp [inI, maxLen]; done) | (simp [inI, maxLen]; omega)
  repeat (first | refine AWp.seq ?_ | refine AWp.block ?_)
  apply AWp.reg [] [.c [] [.d (strsD us), .ptr 1001 0, .ptr 1002 0] [(1000, .blk 76 [.arr 500 0 qs.length, .arr 501 0 qs.length, .d (.int k)]), (500, .arr 9 1 (qs.map frR)), (501, .arr 9 1 (qs.map toR)), (1001, .blk 32 [.d (.int tk), .d (.int tn), .d (.str ta), .d (.str tb), .d (strsD tvs), .arr 1003 0 2, .arr 1004 0 tcs.length]), (1002, .blk 74 [.ptr 1000 0]), (1003, .arr 32 7 R), (1004, .arr 50 9 (tcs.map Cs.row))] (.tuple []) [(1000, .blk 76 [.arr 500 0 qs.length, .arr 501 0 qs.length, .d (.int c2)]), (500, .arr 9 1 (qs.map frR)), (501, .arr 9 1 (qs.map toR)), (1001, .blk 32 [.d (.int tk), .d (.int tn), .d (.str ta2), .d (.str tb), .d (strsD tvs), .arr 1003 0 2, .arr 1004 0 tcs.length]), (1002, .blk 74 [.ptr 1000 0]), (1003, .arr 32 7 R2), (1004, .arr 50 9 (tcs.map Cs.row))]]
  · conv => lhs; simp
  · (repeat' apply And.intro) <;> first | omega | assumption | trivial | (intros; subst_vars; rfl) | (intro i r h; rcases i with _ | i <;> simp at h; subst h; rfl) | (simp [inI, maxLen]; done) | (simp [inI, maxLen]; omega)
  repeat (first | refine AWp.seq ?_ | refine AWp.block ?_)
  apply AWp.draw [] [] mixed
  · conv => lhs; simp
  · kernel_rfl
  · (repeat' apply And.intro) <;> first | omega | assumption | trivial | (intros; subst_vars; rfl) | (intro i r h; rcases i with _ | i <;> simp at h; subst h; rfl) | (simp [inI, maxLen]; done) | (simp [inI, maxLen]; omega)
  try dsimp only [thenQ, blockQ]
  apply endC.le (Le.low [] [] (fr := []) (mem := [(1001, some (.blk 32 [.d (.int tk), .d (.int tn), .d (.str ta2), .d (.str tb), .d (strsD tvs), .arr 1003 0 2, .arr 1004 0 tcs.length])), (1002, some (.blk 74 [.ptr 1000 0])), (1003, some (.arr 32 7 R2)), (1004, some (.arr 50 9 (tcs.map Cs.row))), (1000, some (.blk 76 [.arr 500 0 ps.length, .arr 501 0 ps.length, .d (.int c2)])), (500, some (.arr 9 1 (qs.map frR))), (501, some (.arr 9 1 (qs.map toR)))]) rfl (by simp) (by simp))
  apply endC.le (Le.cut 500 ps.length rfl (by rw [← List.map_take, hqk]) (by rw [List.length_map]; omega) (by simp [frInK, AV.inK, AV.inKL]) (by simp [memInK, AV.inK, AV.inKL]))
  apply endC.le (Le.cut 501 ps.length rfl (by rw [← List.map_take, hqk]) (by rw [List.length_map]; omega) (by simp [frInK, AV.inK, AV.inKL]) (by simp [memInK, AV.inK, AV.inKL]))
  try dsimp only [thenQ, blockQ]
  apply endC.normal
  · rfl
  · conv => lhs; simp [resAV, Tryd.results62]
  · rfl
  · simp [moEnd, memGet]

set_option maxRecDepth 20000 in
set_option maxHeartbeats 16000000 in
theorem cs_bind2 (ps qs : Ps) (ws : List ByteArray) (c c2 : Int) (j : Nat) (R R2 : List (List D)) (hRl : R2.length = R.length) (hw6 : ws.length ≤ 6) (hps : ps.length + ws.length ≤ 1000) (hqd : qs = ps ++ ws.zip (freshL ws c))
    (hcl : CSpec Tryd.prog 93 [strsAV (freshL ws c), .ptr 1001 0, .ptr 1002 0] [(1000, .blk 76 [.arr 500 0 qs.length, .arr 501 0 qs.length, .d (.int (freshC ws c))]), (500, .arr 9 1 (qs.map frR)), (501, .arr 9 1 (qs.map toR)), (1001, .blk 104 [.eptr 1003 j 0]), (1002, .blk 74 [.ptr 1000 0]), (1003, .arr 50 9 R)] (.tuple []) [(1000, .blk 76 [.arr 500 0 qs.length, .arr 501 0 qs.length, .d (.int c2)]), (500, .arr 9 1 (qs.map frR)), (501, .arr 9 1 (qs.map toR)), (1001, .blk 104 [.eptr 1003 j 0]), (1002, .blk 74 [.ptr 1000 0]), (1003, .arr 50 9 R2)]) :
    CSpec Tryd.prog 62 [.ptr 1000 0, strsAV ws, .clo 93 [.ptr 1001 0, .ptr 1002 0]] [(1000, .blk 76 [.arr 500 0 ps.length, .arr 501 0 ps.length, .d (.int c)]), (500, .arr 9 1 (ps.map frR)), (501, .arr 9 1 (ps.map toR)), (1001, .blk 104 [.eptr 1003 j 0]), (1002, .blk 74 [.ptr 1000 0]), (1003, .arr 50 9 R)] (.tuple []) [(1000, .blk 76 [.arr 500 0 ps.length, .arr 501 0 ps.length, .d (.int c2)]), (500, .arr 9 1 (ps.map frR)), (501, .arr 9 1 (ps.map toR)), (1001, .blk 104 [.eptr 1003 j 0]), (1002, .blk 74 [.ptr 1000 0]), (1003, .arr 50 9 R2)] := by
  refine CSpec.of Tryd.func62 rfl rfl (Nat.le_of_ble_eq_true rfl) ?_
  show AWp _ _ (endC _ Tryd.f62 _ _) (startC 62 _ _)
  repeat (first | refine AWp.seq ?_ | refine AWp.block ?_)
  apply AWp.reg [] []
  · conv => lhs; simp
  · (repeat' apply And.intro) <;> first | omega | assumption | trivial | (intros; subst_vars; rfl) | (intro i r h; rcases i with _ | i <;> simp at h; subst h; rfl) | (simp [inI, maxLen]; done) | (simp [inI, maxLen]; omega)
  repeat (first | refine AWp.seq ?_ | refine AWp.block ?_)
  apply AWp.reg [] []
  · conv => lhs; simp
  · (repeat' apply And.intro) <;> first | omega | assumption | trivial | (intros; subst_vars; rfl) | (intro i r h; rcases i with _ | i <;> simp at h; subst h; rfl) | (simp [inI, maxLen]; done) | (simp [inI, maxLen]; omega)
  repeat (first | refine AWp.seq ?_ | refine AWp.block ?_)
  apply AWp.reg [] []
  · conv => lhs; simp
  · (repeat' apply And.intro) <;> first | omega | assumption | trivial | (intros; subst_vars; rfl) | (intro i r h; rcases i with _ | i <;> simp at h; subst h; rfl) | (simp [inI, maxLen]; done) | (simp [inI, maxLen]; omega)
  repeat (first | refine AWp.seq ?_ | refine AWp.block ?_)
  refine AWp.le (Le.low [400] [] (fr := [(0, .ptr 1000 0), (1, .d (strsD ws)), (2, .clo 93 [.ptr 1001 0, .ptr 1002 0]), (6, .d (.int ps.length)), (7, .arr 400 0 ([] : List ByteArray).length), (14, .d (.int (ws.length : Int))), (15, .d (.int (0 : Int)))]) (mem := [(400, some (.arr 9 1 (([] : List ByteArray).map strR))), (500, some (.arr 9 1 (ps.map frR))), (501, some (.arr 9 1 (ps.map toR))), (1000, some (.blk 76 [.arr 500 0 ps.length, .arr 501 0 ps.length, .d (.int (c : Int))])), (1001, some (.blk 104 [.eptr 1003 j 0])), (1002, some (.blk 74 [.ptr 1000 0])), (1003, some (.arr 50 9 R))]) rfl (by simp) (by simp)) ?_
  refine AWp.loop (σ := fun u : {u : Nat × List ByteArray × Int // u.1 ≤ ws.length ∧ (freshL ws c = u.2.1 ++ freshL (ws.drop u.1) u.2.2 ∧ freshC ws c = freshC (ws.drop u.1) u.2.2 ∧ u.2.1.length = u.1)} => ⟨62, [(0, .ptr 1000 0), (1, .d (strsD ws)), (2, .clo 93 [.ptr 1001 0, .ptr 1002 0]), (6, .d (.int ps.length)), (7, .arr 400 0 u.1.2.1.length), (14, .d (.int (ws.length : Int))), (15, .d (.int (u.1.1 : Int)))], [(400, some (.arr 9 1 (u.1.2.1.map strR))), (500, some (.arr 9 1 (ps.map frR))), (501, some (.arr 9 1 (ps.map toR))), (1000, some (.blk 76 [.arr 500 0 ps.length, .arr 501 0 ps.length, .d (.int u.1.2.2)])), (1001, some (.blk 104 [.eptr 1003 j 0])), (1002, some (.blk 74 [.ptr 1000 0])), (1003, some (.arr 50 9 R))]⟩)
    (μ := fun u => ws.length - u.1.1) ⟨(0, [], c), ⟨Nat.zero_le _, ⟨by simp, by simp, rfl⟩⟩⟩ (Le.sub (by simp) (by simp)) (fun ⟨(i, us, k), ⟨hi3, hw⟩⟩ => ?_)
  dsimp only at hi3 hw ⊢
  repeat (first | refine AWp.seq ?_ | refine AWp.block ?_)
  apply AWp.reg [] []
  · conv => lhs; simp
  · (repeat' apply And.intro) <;> first | omega | assumption | trivial | (intros; subst_vars; rfl) | (intro i r h; rcases i with _ | i <;> simp at h; subst h; rfl) | (simp [inI, maxLen]; done) | (simp [inI, maxLen]; omega)
  repeat (first | refine AWp.seq ?_ | refine AWp.block ?_)
  refine AWp.cond rfl (fun hc => ?_) (fun hc => ?_)
  · have hi1 : i < ws.length := by have := of_decide_eq_true hc; omega
    clear hc
    have h1x : ws[i]? = some ws[i] := List.getElem?_eq_getElem hi1
    have hmx : ws[i] ∈ ws := List.getElem_mem hi1
    have hdx : ws.drop i = ws[i] :: ws.drop (i + 1) := List.drop_eq_getElem_cons hi1
    generalize ws[i] = x at h1x hmx hdx
    obtain ⟨hfr, hfc, hul⟩ := hw
    obtain ⟨e, he⟩ : ∃ e : Int, wr (k + 1) = e := ⟨_, rfl⟩
    have hfs := cs_chFresh ps k
    rw [he] at hfs
    refine AWp.skip ?_
    repeat (first | refine AWp.seq ?_ | refine AWp.block ?_)
    apply AWp.reg [] [.c [] [.ptr 1000 0] [(1000, .blk 76 [.arr 500 0 ps.length, .arr 501 0 ps.length, .d (.int k)]), (500, .arr 9 1 (ps.map frR)), (501, .arr 9 1 (ps.map toR))] (.d (.str (vNm e))) [(1000, .blk 76 [.arr 500 0 ps.length, .arr 501 0 ps.length, .d (.int e)]), (500, .arr 9 1 (ps.map frR)), (501, .arr 9 1 (ps.map toR))]]
    · conv => lhs; simp [h1x]
    · (repeat' apply And.intro) <;> first | omega | assumption | trivial | (intros; subst_vars; rfl) | (intro i r h; rcases i with _ | i <;> simp at h; subst h; rfl) | (simp [inI, maxLen]; done) | (simp [inI, maxLen]; omega)
    repeat (first | refine AWp.seq ?_ | refine AWp.block ?_)
    apply AWp.reg [] []
    · conv => lhs; simp [h1x]
    · (repeat' apply And.intro) <;> first | omega | assumption | trivial | (intros; subst_vars; rfl) | (intro i r h; rcases i with _ | i <;> simp at h; subst h; rfl) | (simp [inI, maxLen]; done) | (simp [inI, maxLen]; omega)
    refine ⟨⟨(i + 1, us ++ [vNm e], e), hi1, ⟨by rw [hfr, hdx, freshL, he]; simp, by rw [hfc, hdx, freshC, he], by simp [hul]⟩⟩, by simp; omega, ?_⟩
    dsimp only
    exact Le.sub (by simp) (by simp)
  have hi1 : i = ws.length := by have := of_decide_eq_false hc; omega
  subst hi1
  clear hc
  obtain ⟨hfr, hfc, hul⟩ := hw
  rw [List.drop_length, freshL, List.append_nil] at hfr
  rw [List.drop_length, freshC] at hfc
  rw [hfr, hfc] at hcl
  have hmf := map_frR ps ws us hul
  have hmt := map_toR ps ws us hul
  have hq1 : ps.length + ws.length = (ps ++ ws.zip us).length := by rw [List.length_append, List.length_zip]; omega
  have hq2 : ps.length + us.length = (ps ++ ws.zip us).length := by rw [List.length_append, List.length_zip]; omega
  have hqk : (ps ++ ws.zip us).take ps.length = ps := by simp
  rw [hfr] at hqd
  rw [← hqd] at hmf hmt hq1 hq2 hqk
  refine AWp.exit ?_
  apply AWp.frzs [400]
  · conv => lhs; simp
  repeat (first | refine AWp.seq ?_ | refine AWp.block ?_)
  apply AWp.draw [] [] mixed
  · conv => lhs; simp [hmf, hmt, hq1, hq2]
  · kernel_rfl
  · (repeat' apply And.intro) <;> first | omega | assumption | trivial | (intros; subst_vars; rfl) | (intro i r h; rcases i with _ | i <;> simp at h; subst h; rfl) | (simp [inI, maxLen]; done) | (simp [inI, maxLen]; omega)
  repeat (first | refine AWp.seq ?_ | refine AWp.block ?_)
  apply AWp.reg [] [.c [] [.d (strsD us), .ptr 1001 0, .ptr 1002 0] [(1000, .blk 76 [.arr 500 0 qs.length, .arr 501 0 qs.length, .d (.int k)]), (500, .arr 9 1 (qs.map frR)), (501, .arr 9 1 (qs.map toR)), (1001, .blk 104 [.eptr 1003 j 0]), (1002, .blk 74 [.ptr 1000 0]), (1003, .arr 50 9 R)] (.tuple []) [(1000, .blk 76 [.arr 500 0 qs.length, .arr 501 0 qs.length, .d (.int c2)]), (500, .arr 9 1 (qs.map frR)), (501, .arr 9 1 (qs.map toR)), (1001, .blk 104 [.eptr 1003 j 0]), (1002, .blk 74 [.ptr 1000 0]), (1003, .arr 50 9 R2)]]
  · conv => lhs; simp
  · (repeat' apply And.intro) <;> first | omega | assumption | trivial | (intros; subst_vars; rfl) | (intro i r h; rcases i with _ | i <;> simp at h; subst h; rfl) | (simp [inI, maxLen]; done) | (simp [inI, maxLen]; omega)
  repeat (first | refine AWp.seq ?_ | refine AWp.block ?_)
  apply AWp.draw [] [] mixed
  · conv => lhs; simp
  · kernel_rfl
  · (repeat' apply And.intro) <;> first | omega | assumption | trivial | (intros; subst_vars; rfl) | (intro i r h; rcases i with _ | i <;> simp at h; subst h; rfl) | (simp [inI, maxLen]; done) | (simp [inI, maxLen]; omega)
  try dsimp only [thenQ, blockQ]
  apply endC.le (Le.low [] [] (fr := []) (mem := [(1001, some (.blk 104 [.eptr 1003 j 0])), (1002, some (.blk 74 [.ptr 1000 0])), (1003, some (.arr 50 9 R2)), (1000, some (.blk 76 [.arr 500 0 ps.length, .arr 501 0 ps.length, .d (.int c2)])), (500, some (.arr 9 1 (qs.map frR))), (501, some (.arr 9 1 (qs.map toR)))]) rfl (by simp) (by simp))
  apply endC.le (Le.cut 500 ps.length rfl (by rw [← List.map_take, hqk]) (by rw [List.length_map]; omega) (by simp [frInK, AV.inK, AV.inKL]) (by simp [memInK, AV.inK, AV.inKL]))
  apply endC.le (Le.cut 501 ps.length rfl (by rw [← List.map_take, hqk]) (by rw [List.length_map]; omega) (by simp [frInK, AV.inK, AV.inKL]) (by simp [memInK, AV.inK, AV.inKL]))
  try dsimp only [thenQ, blockQ]
  apply endC.normal
  · rfl
  · conv => lhs; simp [resAV, Tryd.results62]
  · rfl
  · simp [moEnd, memGet]

set_option maxRecDepth 20000 in
set_option maxHeartbeats 16000000 in
theorem cs_bind0 (ps qs : Ps) (ws : List ByteArray) (c c2 : Int) (fg : ByteArray) (fps us2 : List ByteArray) (fk fn zk zn : Int) (fa fb za zb : ByteArray) (fvs zvs : List ByteArray) (fxs zxs : List Tm) (fcs zcs : List Cs)  (hw6 : ws.length ≤ 6) (hps : ps.length + ws.length ≤ 1000) (hqd : qs = ps ++ ws.zip (freshL ws c))
    (hcl : CSpec Tryd.prog 63 [strsAV (freshL ws c), .ptr 1001 0, .ptr 1002 0, .ptr 1003 0] [(1000, .blk 76 [.arr 500 0 qs.length, .arr 501 0 qs.length, .d (.int (freshC ws c))]), (500, .arr 9 1 (qs.map frR)), (501, .arr 9 1 (qs.map toR)), (1001, .blk 34 [.d (.str fg), .lit (.slice none 0 0), .d (.int 0), .d (.int 0), .d (.str ByteArray.empty), .d (.str ByteArray.empty), .lit (.slice none 0 0), .lit (.slice none 0 0), .lit (.slice none 0 0)]), (1002, .blk 74 [.ptr 1000 0]), (1003, .blk 34 [.d (.str fg), .d (strsD fps), .d (.int fk), .d (.int fn), .d (.str fa), .d (.str fb), .d (strsD fvs), .d (.sl (fxs.map Tm.row)), .d (.sl (fcs.map Cs.row))])] (.tuple []) [(1000, .blk 76 [.arr 500 0 qs.length, .arr 501 0 qs.length, .d (.int c2)]), (500, .arr 9 1 (qs.map frR)), (501, .arr 9 1 (qs.map toR)), (1001, .blk 34 [.d (.str fg), .d (strsD us2), .d (.int zk), .d (.int zn), .d (.str za), .d (.str zb), .d (strsD zvs), .d (.sl (zxs.map Tm.row)), .d (.sl (zcs.map Cs.row))]), (1002, .blk 74 [.ptr 1000 0]), (1003, .blk 34 [.d (.str fg), .d (strsD fps), .d (.int fk), .d (.int fn), .d (.str fa), .d (.str fb), .d (strsD fvs), .d (.sl (fxs.map Tm.row)), .d (.sl (fcs.map Cs.row))])]) :
    CSpec Tryd.prog 62 [.ptr 1000 0, strsAV ws, .clo 63 [.ptr 1001 0, .ptr 1002 0, .ptr 1003 0]] [(1000, .blk 76 [.arr 500 0 ps.length, .arr 501 0 ps.length, .d (.int c)]), (500, .arr 9 1 (ps.map frR)), (501, .arr 9 1 (ps.map toR)), (1001, .blk 34 [.d (.str fg), .lit (.slice none 0 0), .d (.int 0), .d (.int 0), .d (.str ByteArray.empty), .d (.str ByteArray.empty), .lit (.slice none 0 0), .lit (.slice none 0 0), .lit (.slice none 0 0)]), (1002, .blk 74 [.ptr 1000 0]), (1003, .blk 34 [.d (.str fg), .d (strsD fps), .d (.int fk), .d (.int fn), .d (.str fa), .d (.str fb), .d (strsD fvs), .d (.sl (fxs.map Tm.row)), .d (.sl (fcs.map Cs.row))])] (.tuple []) [(1000, .blk 76 [.arr 500 0 ps.length, .arr 501 0 ps.length, .d (.int c2)]), (500, .arr 9 1 (ps.map frR)), (501, .arr 9 1 (ps.map toR)), (1001, .blk 34 [.d (.str fg), .d (strsD us2), .d (.int zk), .d (.int zn), .d (.str za), .d (.str zb), .d (strsD zvs), .d (.sl (zxs.map Tm.row)), .d (.sl (zcs.map Cs.row))]), (1002, .blk 74 [.ptr 1000 0]), (1003, .blk 34 [.d (.str fg), .d (strsD fps), .d (.int fk), .d (.int fn), .d (.str fa), .d (.str fb), .d (strsD fvs), .d (.sl (fxs.map Tm.row)), .d (.sl (fcs.map Cs.row))])] := by
  refine CSpec.of Tryd.func62 rfl rfl (Nat.le_of_ble_eq_true rfl) ?_
  show AWp _ _ (endC _ Tryd.f62 _ _) (startC 62 _ _)
  repeat (first | refine AWp.seq ?_ | refine AWp.block ?_)
  apply AWp.reg [] []
  · conv => lhs; simp
  · (repeat' apply And.intro) <;> first | omega | assumption | trivial | (intros; subst_vars; rfl) | (intro i r h; rcases i with _ | i <;> simp at h; subst h; rfl) | (simp [inI, maxLen]; done) | (simp [inI, maxLen]; omega)
  repeat (first | refine AWp.seq ?_ | refine AWp.block ?_)
  apply AWp.reg [] []
  · conv => lhs; simp
  · (repeat' apply And.intro) <;> first | omega | assumption | trivial | (intros; subst_vars; rfl) | (intro i r h; rcases i with _ | i <;> simp at h; subst h; rfl) | (simp [inI, maxLen]; done) | (simp [inI, maxLen]; omega)
  repeat (first | refine AWp.seq ?_ | refine AWp.block ?_)
  apply AWp.reg [] []
  · conv => lhs; simp
  · (repeat' apply And.intro) <;> first | omega | assumption | trivial | (intros; subst_vars; rfl) | (intro i r h; rcases i with _ | i <;> simp at h; subst h; rfl) | (simp [inI, maxLen]; done) | (simp [inI, maxLen]; omega)
  repeat (first | refine AWp.seq ?_ | refine AWp.block ?_)
  refine AWp.le (Le.low [400] [] (fr := [(0, .ptr 1000 0), (1, .d (strsD ws)), (2, .clo 63 [.ptr 1001 0, .ptr 1002 0, .ptr 1003 0]), (6, .d (.int ps.length)), (7, .arr 400 0 ([] : List ByteArray).length), (14, .d (.int (ws.length : Int))), (15, .d (.int (0 : Int)))]) (mem := [(400, some (.arr 9 1 (([] : List ByteArray).map strR))), (500, some (.arr 9 1 (ps.map frR))), (501, some (.arr 9 1 (ps.map toR))), (1000, some (.blk 76 [.arr 500 0 ps.length, .arr 501 0 ps.length, .d (.int (c : Int))])), (1001, some (.blk 34 [.d (.str fg), .lit (.slice none 0 0), .d (.int 0), .d (.int 0), .d (.str ByteArray.empty), .d (.str ByteArray.empty), .lit (.slice none 0 0), .lit (.slice none 0 0), .lit (.slice none 0 0)])), (1002, some (.blk 74 [.ptr 1000 0])), (1003, some (.blk 34 [.d (.str fg), .d (strsD fps), .d (.int fk), .d (.int fn), .d (.str fa), .d (.str fb), .d (strsD fvs), .d (.sl (fxs.map Tm.row)), .d (.sl (fcs.map Cs.row))]))]) rfl (by simp) (by simp)) ?_
  refine AWp.loop (σ := fun u : {u : Nat × List ByteArray × Int // u.1 ≤ ws.length ∧ (freshL ws c = u.2.1 ++ freshL (ws.drop u.1) u.2.2 ∧ freshC ws c = freshC (ws.drop u.1) u.2.2 ∧ u.2.1.length = u.1)} => ⟨62, [(0, .ptr 1000 0), (1, .d (strsD ws)), (2, .clo 63 [.ptr 1001 0, .ptr 1002 0, .ptr 1003 0]), (6, .d (.int ps.length)), (7, .arr 400 0 u.1.2.1.length), (14, .d (.int (ws.length : Int))), (15, .d (.int (u.1.1 : Int)))], [(400, some (.arr 9 1 (u.1.2.1.map strR))), (500, some (.arr 9 1 (ps.map frR))), (501, some (.arr 9 1 (ps.map toR))), (1000, some (.blk 76 [.arr 500 0 ps.length, .arr 501 0 ps.length, .d (.int u.1.2.2)])), (1001, some (.blk 34 [.d (.str fg), .lit (.slice none 0 0), .d (.int 0), .d (.int 0), .d (.str ByteArray.empty), .d (.str ByteArray.empty), .lit (.slice none 0 0), .lit (.slice none 0 0), .lit (.slice none 0 0)])), (1002, some (.blk 74 [.ptr 1000 0])), (1003, some (.blk 34 [.d (.str fg), .d (strsD fps), .d (.int fk), .d (.int fn), .d (.str fa), .d (.str fb), .d (strsD fvs), .d (.sl (fxs.map Tm.row)), .d (.sl (fcs.map Cs.row))]))]⟩)
    (μ := fun u => ws.length - u.1.1) ⟨(0, [], c), ⟨Nat.zero_le _, ⟨by simp, by simp, rfl⟩⟩⟩ (Le.sub (by simp) (by simp)) (fun ⟨(i, us, k), ⟨hi3, hw⟩⟩ => ?_)
  dsimp only at hi3 hw ⊢
  repeat (first | refine AWp.seq ?_ | refine AWp.block ?_)
  apply AWp.reg [] []
  · conv => lhs; simp
  · (repeat' apply And.intro) <;> first | omega | assumption | trivial | (intros; subst_vars; rfl) | (intro i r h; rcases i with _ | i <;> simp at h; subst h; rfl) | (simp [inI, maxLen]; done) | (simp [inI, maxLen]; omega)
  repeat (first | refine AWp.seq ?_ | refine AWp.block ?_)
  refine AWp.cond rfl (fun hc => ?_) (fun hc => ?_)
  · have hi1 : i < ws.length := by have := of_decide_eq_true hc; omega
    clear hc
    have h1x : ws[i]? = some ws[i] := List.getElem?_eq_getElem hi1
    have hmx : ws[i] ∈ ws := List.getElem_mem hi1
    have hdx : ws.drop i = ws[i] :: ws.drop (i + 1) := List.drop_eq_getElem_cons hi1
    generalize ws[i] = x at h1x hmx hdx
    obtain ⟨hfr, hfc, hul⟩ := hw
    obtain ⟨e, he⟩ : ∃ e : Int, wr (k + 1) = e := ⟨_, rfl⟩
    have hfs := cs_chFresh ps k
    rw [he] at hfs
    refine AWp.skip ?_
    repeat (first | refine AWp.seq ?_ | refine AWp.block ?_)
    apply AWp.reg [] [.c [] [.ptr 1000 0] [(1000, .blk 76 [.arr 500 0 ps.length, .arr 501 0 ps.length, .d (.int k)]), (500, .arr 9 1 (ps.map frR)), (501, .arr 9 1 (ps.map toR))] (.d (.str (vNm e))) [(1000, .blk 76 [.arr 500 0 ps.length, .arr 501 0 ps.length, .d (.int e)]), (500, .arr 9 1 (ps.map frR)), (501, .arr 9 1 (ps.map toR))]]
    · conv => lhs; simp [h1x]
    · (repeat' apply And.intro) <;> first | omega | assumption | trivial | (intros; subst_vars; rfl) | (intro i r h; rcases i with _ | i <;> simp at h; subst h; rfl) | (simp [inI, maxLen]; done) | (simp [inI, maxLen]; omega)
    repeat (first | refine AWp.seq ?_ | refine AWp.block ?_)
    apply AWp.reg [] []
    · conv => lhs; simp [h1x]
    · (repeat' apply And.intro) <;> first | omega | assumption | trivial | (intros; subst_vars; rfl) | (intro i r h; rcases i with _ | i <;> simp at h; subst h; rfl) | (simp [inI, maxLen]; done) | (simp [inI, maxLen]; omega)
    refine ⟨⟨(i + 1, us ++ [vNm e], e), hi1, ⟨by rw [hfr, hdx, freshL, he]; simp, by rw [hfc, hdx, freshC, he], by simp [hul]⟩⟩, by simp; omega, ?_⟩
    dsimp only
    exact Le.sub (by simp) (by simp)
  have hi1 : i = ws.length := by have := of_decide_eq_false hc; omega
  subst hi1
  clear hc
  obtain ⟨hfr, hfc, hul⟩ := hw
  rw [List.drop_length, freshL, List.append_nil] at hfr
  rw [List.drop_length, freshC] at hfc
  rw [hfr, hfc] at hcl
  have hmf := map_frR ps ws us hul
  have hmt := map_toR ps ws us hul
  have hq1 : ps.length + ws.length = (ps ++ ws.zip us).length := by rw [List.length_append, List.length_zip]; omega
  have hq2 : ps.length + us.length = (ps ++ ws.zip us).length := by rw [List.length_append, List.length_zip]; omega
  have hqk : (ps ++ ws.zip us).take ps.length = ps := by simp
  rw [hfr] at hqd
  rw [← hqd] at hmf hmt hq1 hq2 hqk
  refine AWp.exit ?_
  apply AWp.frzs [400]
  · conv => lhs; simp
  repeat (first | refine AWp.seq ?_ | refine AWp.block ?_)
  apply AWp.draw [] [] mixed
  · conv => lhs; simp [hmf, hmt, hq1, hq2]
  · kernel_rfl
  · (repeat' apply And.intro) <;> first | omega | assumption | trivial | (intros; subst_vars; rfl) | (intro i r h; rcases i with _ | i <;> simp at h; subst h; rfl) | (simp [inI, maxLen]; done) | (simp [inI, maxLen]; omega)
  repeat (first | refine AWp.seq ?_ | refine AWp.block ?_)
  apply AWp.reg [] [.c [] [.d (strsD us), .ptr 1001 0, .ptr 1002 0, .ptr 1003 0] [(1000, .blk 76 [.arr 500 0 qs.length, .arr 501 0 qs.length, .d (.int k)]), (500, .arr 9 1 (qs.map frR)), (501, .arr 9 1 (qs.map toR)), (1001, .blk 34 [.d (.str fg), .lit (.slice none 0 0), .d (.int 0), .d (.int 0), .d (.str ByteArray.empty), .d (.str ByteArray.empty), .lit (.slice none 0 0), .lit (.slice none 0 0), .lit (.slice none 0 0)]), (1002, .blk 74 [.ptr 1000 0]), (1003, .blk 34 [.d (.str fg), .d (strsD fps), .d (.int fk), .d (.int fn), .d (.str fa), .d (.str fb), .d (strsD fvs), .d (.sl (fxs.map Tm.row)), .d (.sl (fcs.map Cs.row))])] (.tuple []) [(1000, .blk 76 [.arr 500 0 qs.length, .arr 501 0 qs.length, .d (.int c2)]), (500, .arr 9 1 (qs.map frR)), (501, .arr 9 1 (qs.map toR)), (1001, .blk 34 [.d (.str fg), .d (strsD us2), .d (.int zk), .d (.int zn), .d (.str za), .d (.str zb), .d (strsD zvs), .d (.sl (zxs.map Tm.row)), .d (.sl (zcs.map Cs.row))]), (1002, .blk 74 [.ptr 1000 0]), (1003, .blk 34 [.d (.str fg), .d (strsD fps), .d (.int fk), .d (.int fn), .d (.str fa), .d (.str fb), .d (strsD fvs), .d (.sl (fxs.map Tm.row)), .d (.sl (fcs.map Cs.row))])]]
  · conv => lhs; simp
  · (repeat' apply And.intro) <;> first | omega | assumption | trivial | (intros; subst_vars; rfl) | (intro i r h; rcases i with _ | i <;> simp at h; subst h; rfl) | (simp [inI, maxLen]; done) | (simp [inI, maxLen]; omega)
  repeat (first | refine AWp.seq ?_ | refine AWp.block ?_)
  apply AWp.draw [] [] mixed
  · conv => lhs; simp
  · kernel_rfl
  · (repeat' apply And.intro) <;> first | omega | assumption | trivial | (intros; subst_vars; rfl) | (intro i r h; rcases i with _ | i <;> simp at h; subst h; rfl) | (simp [inI, maxLen]; done) | (simp [inI, maxLen]; omega)
  try dsimp only [thenQ, blockQ]
  apply endC.le (Le.low [] [] (fr := []) (mem := [(1001, some (.blk 34 [.d (.str fg), .d (strsD us2), .d (.int zk), .d (.int zn), .d (.str za), .d (.str zb), .d (strsD zvs), .d (.sl (zxs.map Tm.row)), .d (.sl (zcs.map Cs.row))])), (1002, some (.blk 74 [.ptr 1000 0])), (1003, some (.blk 34 [.d (.str fg), .d (strsD fps), .d (.int fk), .d (.int fn), .d (.str fa), .d (.str fb), .d (strsD fvs), .d (.sl (fxs.map Tm.row)), .d (.sl (fcs.map Cs.row))])), (1000, some (.blk 76 [.arr 500 0 ps.length, .arr 501 0 ps.length, .d (.int c2)])), (500, some (.arr 9 1 (qs.map frR))), (501, some (.arr 9 1 (qs.map toR)))]) rfl (by simp) (by simp))
  apply endC.le (Le.cut 500 ps.length rfl (by rw [← List.map_take, hqk]) (by rw [List.length_map]; omega) (by simp [frInK, AV.inK, AV.inKL]) (by simp [memInK, AV.inK, AV.inKL]))
  apply endC.le (Le.cut 501 ps.length rfl (by rw [← List.map_take, hqk]) (by rw [List.length_map]; omega) (by simp [frInK, AV.inK, AV.inKL]) (by simp [memInK, AV.inK, AV.inKL]))
  try dsimp only [thenQ, blockQ]
  apply endC.normal
  · rfl
  · conv => lhs; simp [resAV, Tryd.results62]
  · rfl
  · simp [moEnd, memGet]

end Go.Proofs.YtialccgjbanmcaaDoor
