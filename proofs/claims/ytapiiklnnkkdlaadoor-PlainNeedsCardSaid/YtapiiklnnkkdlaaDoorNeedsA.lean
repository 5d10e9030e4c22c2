import Derived.Test.YtapiiklnnkkdlaaDoorOnceA
import Derived.Test.YtapiiklnnkkdlaaDoorMadeA
import Derived.Test.YtapiiklnnkkdlaaDoorCheckP
/- xclaw5.PlainNeeds and its functions. Printed by a small program. -/
namespace Go.Proofs.YtapiiklnnkkdlaaDoor
open Go.RowKit
attribute [local simp] runD mkRc ldOf stOf stOk ldArg noAny dstOk guardOk opEff opEff0 effOp pureOp callOp zEff evA constAV scalAV Value.oneCell' frGet memGet startAS frOf isGoCall idIn AS.after nextR opnIds objIds AV.ids idsL AObj.ids frNo memNo opnAny isAny mkVal rdCells wrCells fldAddr idxAddr srcRows litRows toD1 toDs setAt sliceAV optI partAV bldAV fillAV binAV binI AV.cells callEff calleeOf frKill memKill AV.kill AObj.kill AV.has AV.hasL Op.operands Call.operands keepF keepM viewIds cChk renOf moGet moWs moQ cEff moLike moHave AV.ren renL AObj.ren AObj.like kept startC moMem AV.frz frz1 frzL frSub memSub frzs AS.frz frFrz memFrz AObj.frz takeMap takeLen bleF Nat.ble_eq memAny objAny mapOp D.keyOk rowAV valRow extOp wrapOp phO
set_option linter.unusedVariables false
set_option linter.unusedSimpArgs false
set_option maxRecDepth 20000 in
set_option maxHeartbeats 16000000 in
theorem cs_put (l hs : List ByteArray) (hl : l.length ≤ 1048576) (hn : (l.reverse ++ hs).Nodup) :
    CSpec Tryd.prog 27 [strsAV l, .ptr 1000 0, .ptr 1001 0] [(1000, .blk 4 [.d (.bool true)]), (1001, .blk 37 [.mp 1002]), (1002, .map true false 1 (sawD hs))] (.tuple []) [(1000, .blk 4 [.d (.bool true)]), (1001, .blk 37 [.mp 1002]), (1002, .map true false 1 (sawD (l.reverse ++ hs)))] := by
  obtain ⟨R, hR⟩ : ∃ R, R = l.reverse ++ hs := ⟨_, rfl⟩
  rw [← hR] at hn ⊢
  refine CSpec.of Tryd.func27 rfl rfl (Nat.le_of_ble_eq_true rfl) ?_
  show AWp _ _ (endC _ Tryd.f27 _ _) (startC 22 _ _)
  refine AWp.rg [] [] ?_ (hr := by conv => lhs; simp [Tryd.underlying4])
  repeat (first | refine AWp.seq ?_ | refine AWp.block ?_)
  refine AWp.loop (σ := fun u : {u : Nat × List ByteArray // u.1 ≤ l.length ∧ R = (l.drop u.1).reverse ++ u.2} => ⟨22, [(1, .ptr 1000 0), (2, .ptr 1001 0), (6, .d (strsD l)), (7, .d (.int (l.length : Int))), (8, .d (.int (u.1.1 : Int)))], [(1000, some (.blk 4 [.d (.bool true)])), (1001, some (.blk 37 [.mp 1002])), (1002, some (.map true false 1 (sawD u.1.2)))]⟩)
    (μ := fun u => l.length - u.1.1) ⟨(0, hs), ⟨Nat.zero_le _, by rw [List.drop_zero]; exact hR⟩⟩ (Le.sub (by simp) (by simp)) (fun ⟨(i, b), ⟨hi1, hw⟩⟩ => ?_)
  dsimp only at hi1 hw ⊢
  refine AWp.rg [] [] ?_ (hr := by conv => lhs; simp [Tryd.underlying4])
  repeat (first | refine AWp.seq ?_ | refine AWp.block ?_)
  refine AWp.cond rfl (fun hc => ?_) (fun hc => ?_)
  · have hi1 : i < l.length := by have := of_decide_eq_true hc; omega
    clear hc
    have h1s : l[i]? = some l[i] := List.getElem?_eq_getElem hi1
    have hms : l[i] ∈ l := List.getElem_mem hi1
    have hds : l.drop i = l[i] :: l.drop (i + 1) := List.drop_eq_getElem_cons hi1
    generalize l[i] = s at h1s hms hds
    rw [hds, List.reverse_cons, List.append_assoc] at hw
    have hns : ¬ s ∈ b := by
      rw [hw] at hn
      exact (List.nodup_cons.1 (List.nodup_append.1 hn).2.1).1
    have hag := saw_get b s hns
    have hput : D.aput (.str s) [.bool true] (sawD b) = sawD (s :: b) := rfl
    refine AWp.skip ?_
    refine AWp.rg [] [] ?_ (hr := by conv => lhs; simp [Tryd.underlying4, h1s])
    refine AWp.rg [] [] ?_ (hr := by conv => lhs; simp [Tryd.underlying4, h1s, hag])
    refine AWp.rg [] [] ?_ (hr := by conv => lhs; simp [Tryd.underlying4, h1s, hput])
    refine AWp.rg [] [] ?_ (hr := by conv => lhs; simp [Tryd.underlying4, h1s])
    refine ⟨⟨(i + 1, s :: b), hi1, hw⟩, by simp; omega, ?_⟩
    dsimp only
    exact Le.sub (by simp) (by simp)
  have hi1 : i = l.length := by have := of_decide_eq_false hc; omega
  subst hi1
  clear hc
  rw [List.drop_length, List.reverse_nil, List.nil_append] at hw
  refine AWp.exit ?_
  rw [hw]
  try dsimp only [thenQ, blockQ]
  apply endC.normal
  · rfl
  · conv => lhs; simp [resAV, Tryd.results27]
  · rfl
  · simp [moEnd, memGet]
def LookP (N : Nat) : Prop := ∀ t : Tm, t.Rt N → ∀ hs : List ByteArray, (t.bd.reverse ++ hs).Nodup →
  CSpec Tryd.prog 28 [tmAV t, .ptr 1003 0, .ptr 1004 0] [(1000, .blk 4 [.d (.bool true)]), (1001, .blk 37 [.mp 1002]), (1002, .map true false 1 (sawD hs)), (1003, .blk 43 [.clo 27 [.ptr 1000 0, .ptr 1001 0]]), (1004, .blk 38 [.clo 28 [.ptr 1003 0, .ptr 1004 0]])] (.tuple []) [(1000, .blk 4 [.d (.bool true)]), (1001, .blk 37 [.mp 1002]), (1002, .map true false 1 (sawD (t.bd.reverse ++ hs))), (1003, .blk 43 [.clo 27 [.ptr 1000 0, .ptr 1001 0]]), (1004, .blk 38 [.clo 28 [.ptr 1003 0, .ptr 1004 0]])]
set_option maxRecDepth 20000 in
set_option maxHeartbeats 16000000 in
theorem lookP_step (N : Nat) (ih : LookP N) : LookP (N + 1) := by
  intro t hRt hs hn
  obtain ⟨R, hR⟩ : ∃ R, R = t.bd.reverse ++ hs := ⟨_, rfl⟩
  rw [← hR] at hn ⊢
  obtain ⟨tk, tn, ta, tb, tvs, txs, tcs⟩ := t
  rw [Tm.bd] at hR
  obtain ⟨_, _, h6, hxr, hcr⟩ := hRt
  refine CSpec.of Tryd.func28 rfl rfl (Nat.le_of_ble_eq_true rfl) ?_
  show AWp _ _ (endC _ Tryd.f28 _ _) (startC 43 _ _)
  refine AWp.rg [] [] ?_ (hr := by conv => lhs; simp [Tm.row, Tm.rows_eq, Cs.rows_eq, Tryd.underlying4])
  by_cases q1 : tk = 6
  · refine AWp.rg [] [] ?_ (hr := by conv => lhs; simp [Tm.row, Tm.rows_eq, Cs.rows_eq, Tryd.underlying4, q1])
    refine AWp.cy ?_
    rw [if_pos q1, List.reverse_append] at hR
    obtain ⟨q, hq⟩ : ∃ q, q = [ta].reverse ++ hs := ⟨_, rfl⟩
    have hR : R = (Tm.bdL txs ++ Cs.bdL tcs).reverse ++ q := by rw [hR, hq, List.append_assoc]
    have hp := cs_put [ta] hs (by simp) (by
      rw [hR, hq] at hn
      exact (List.nodup_append.1 hn).2.1)
    rw [← hq] at hp
    simp only [strsAV, strsD, List.map_cons, List.map_nil, strR] at hp
    refine AWp.rg [3] [.c [] [.d (.sl [[.str ta]]), .ptr 1000 0, .ptr 1001 0] [(1000, .blk 4 [.d (.bool true)]), (1001, .blk 37 [.mp 1002]), (1002, .map true false 1 (sawD hs))] (.tuple []) [(1000, .blk 4 [.d (.bool true)]), (1001, .blk 37 [.mp 1002]), (1002, .map true false 1 (sawD q))]] ?_ (hr := by conv => lhs; simp [Tm.row, Tm.rows_eq, Cs.rows_eq, Tryd.underlying4, q1])
    refine AWp.rg [] [] ?_ (hr := by conv => lhs; simp [Tm.row, Tm.rows_eq, Cs.rows_eq, Tryd.underlying4, q1])
    repeat (first | refine AWp.seq ?_ | refine AWp.block ?_)
    refine AWp.loop (σ := fun u : {u : Nat × List ByteArray // u.1 ≤ txs.length ∧ R = (Tm.bdL (txs.drop u.1) ++ Cs.bdL tcs).reverse ++ u.2} => ⟨43, [(1, .ptr 1003 0), (2, .ptr 1004 0), (3, .ptr 3 0), (17, .d (.sl (txs.map Tm.row))), (18, .d (.int (txs.length : Int))), (19, .d (.int (u.1.1 : Int)))], [(3, some (.blk 34 [.d (.int 6), .d (.int tn), .d (.str ta), .d (.str tb), .d (strsD tvs), .d (.sl (txs.map Tm.row)), .d (.sl (tcs.map Cs.row))])), (1000, some (.blk 4 [.d (.bool true)])), (1001, some (.blk 37 [.mp 1002])), (1002, some (.map true false 1 (sawD u.1.2))), (1003, some (.blk 43 [.clo 27 [.ptr 1000 0, .ptr 1001 0]])), (1004, some (.blk 38 [.clo 28 [.ptr 1003 0, .ptr 1004 0]]))]⟩)
      (μ := fun u => txs.length - u.1.1) ⟨(0, q), ⟨Nat.zero_le _, by rw [List.drop_zero]; exact hR⟩⟩ (Le.sub (by simp) (by simp)) (fun ⟨(i, b), ⟨hi4, hw⟩⟩ => ?_)
    dsimp only at hi4 hw ⊢
    refine AWp.rg [] [] ?_ (hr := by conv => lhs; simp [Tm.row, Tm.rows_eq, Cs.rows_eq, Tryd.underlying4, q1])
    repeat (first | refine AWp.seq ?_ | refine AWp.block ?_)
    refine AWp.cond rfl (fun hc => ?_) (fun hc => ?_)
    · have hi1 : i < txs.length := by have := of_decide_eq_true hc; omega
      clear hc
      have h1y : txs[i]? = some txs[i] := List.getElem?_eq_getElem hi1
      have hmy : txs[i] ∈ txs := List.getElem_mem hi1
      have hdy : txs.drop i = txs[i] :: txs.drop (i + 1) := List.drop_eq_getElem_cons hi1
      generalize txs[i] = y at h1y hmy hdy
      rw [hdy, Tm.bdL, List.append_assoc, List.reverse_append, List.append_assoc] at hw
      have hx := ih y (hxr y hmy) b (by
        rw [hw] at hn
        exact (List.nodup_append.1 hn).2.1)
      obtain ⟨b2, hb2⟩ : ∃ z, z = y.bd.reverse ++ b := ⟨_, rfl⟩
      rw [← hb2] at hx hw
      obtain ⟨yk, yn, ya, yb, yvs, yxs, ycs⟩ := y
      dsimp only [tmAV] at hx
      refine AWp.skip ?_
      refine AWp.rg [] [] ?_ (hr := by conv => lhs; simp [Tm.row, Tm.rows_eq, Cs.rows_eq, Tryd.underlying4, h1y, q1])
      refine AWp.rg [] [.c [] [.agg [.d (.int yk), .d (.int yn), .d (.str ya), .d (.str yb), .d (strsD yvs), .d (.sl (yxs.map Tm.row)), .d (.sl (ycs.map Cs.row))], .ptr 1003 0, .ptr 1004 0] [(1000, .blk 4 [.d (.bool true)]), (1001, .blk 37 [.mp 1002]), (1002, .map true false 1 (sawD b)), (1003, .blk 43 [.clo 27 [.ptr 1000 0, .ptr 1001 0]]), (1004, .blk 38 [.clo 28 [.ptr 1003 0, .ptr 1004 0]])] (.tuple []) [(1000, .blk 4 [.d (.bool true)]), (1001, .blk 37 [.mp 1002]), (1002, .map true false 1 (sawD b2)), (1003, .blk 43 [.clo 27 [.ptr 1000 0, .ptr 1001 0]]), (1004, .blk 38 [.clo 28 [.ptr 1003 0, .ptr 1004 0]])]] ?_ (hr := by conv => lhs; simp [Tm.row, Tm.rows_eq, Cs.rows_eq, Tryd.underlying4, h1y, q1])
      refine AWp.rg [] [] ?_ (hr := by conv => lhs; simp [Tm.row, Tm.rows_eq, Cs.rows_eq, Tryd.underlying4, h1y, q1])
      refine ⟨⟨(i + 1, b2), hi1, hw⟩, by simp; omega, ?_⟩
      dsimp only
      exact Le.sub (by simp) (by simp)
    have hi1 : i = txs.length := by have := of_decide_eq_false hc; omega
    subst hi1
    clear hc
    rw [List.drop_length, Tm.bdL, List.nil_append] at hw
    refine AWp.exit ?_
    refine AWp.rg [] [] ?_ (hr := by conv => lhs; simp [Tm.row, Tm.rows_eq, Cs.rows_eq, Tryd.underlying4, q1])
    repeat (first | refine AWp.seq ?_ | refine AWp.block ?_)
    refine AWp.loop (σ := fun u : {u : Nat × List ByteArray // u.1 ≤ tcs.length ∧ R = (Cs.bdL (tcs.drop u.1)).reverse ++ u.2} => ⟨43, [(1, .ptr 1003 0), (2, .ptr 1004 0), (28, .d (.sl (tcs.map Cs.row))), (29, .d (.int (tcs.length : Int))), (30, .d (.int (u.1.1 : Int)))], [(1000, some (.blk 4 [.d (.bool true)])), (1001, some (.blk 37 [.mp 1002])), (1002, some (.map true false 1 (sawD u.1.2))), (1003, some (.blk 43 [.clo 27 [.ptr 1000 0, .ptr 1001 0]])), (1004, some (.blk 38 [.clo 28 [.ptr 1003 0, .ptr 1004 0]]))]⟩)
      (μ := fun u => tcs.length - u.1.1) ⟨(0, b), ⟨Nat.zero_le _, by rw [List.drop_zero]; exact hw⟩⟩ (Le.sub (by simp) (by simp)) (fun ⟨(j, d), ⟨hi9, hw⟩⟩ => ?_)
    dsimp only at hi9 hw ⊢
    refine AWp.rg [] [] ?_ (hr := by conv => lhs; simp [Tm.row, Tm.rows_eq, Cs.rows_eq, Tryd.underlying4, q1])
    repeat (first | refine AWp.seq ?_ | refine AWp.block ?_)
    refine AWp.cond rfl (fun hc => ?_) (fun hc => ?_)
    · have hi1 : j < tcs.length := by have := of_decide_eq_true hc; omega
      clear hc
      have h1c : tcs[j]? = some tcs[j] := List.getElem?_eq_getElem hi1
      have hmc : tcs[j] ∈ tcs := List.getElem_mem hi1
      have hdc : tcs.drop j = tcs[j] :: tcs.drop (j + 1) := List.drop_eq_getElem_cons hi1
      generalize tcs[j] = c at h1c hmc hdc
      rw [hdc, Cs.bdL, List.reverse_append, List.append_assoc] at hw
      have hcs := hcr c hmc
      obtain ⟨ct, cvs, cy⟩ := c
      obtain ⟨hcv, hcs⟩ := hcs
      change cy.Rt N at hcs
      change cvs.length ≤ 6 at hcv
      rw [Cs.bd, List.reverse_append, List.append_assoc] at hw
      have hn2 : (cy.bd.reverse ++ (cvs.reverse ++ d)).Nodup := by
        rw [hw] at hn
        exact (List.nodup_append.1 hn).2.1
      have hp := cs_put cvs d (by omega) (List.nodup_append.1 hn2).2.1
      obtain ⟨u, hu⟩ : ∃ z, z = cvs.reverse ++ d := ⟨_, rfl⟩
      rw [← hu] at hp hn2 hw
      have hx := ih cy hcs u hn2
      obtain ⟨b2, hb2⟩ : ∃ z, z = cy.bd.reverse ++ u := ⟨_, rfl⟩
      rw [← hb2] at hx hw
      obtain ⟨yk, yn, ya, yb, yvs, yxs, ycs⟩ := cy
      dsimp only [tmAV] at hx
      refine AWp.skip ?_
      refine AWp.rg [] [] ?_ (hr := by conv => lhs; simp [Tm.row, Tm.rows_eq, Cs.rows_eq, Tryd.underlying4, h1c, Cs.row, q1])
      refine AWp.rg [] [.c [] [.d (strsD cvs), .ptr 1000 0, .ptr 1001 0] [(1000, .blk 4 [.d (.bool true)]), (1001, .blk 37 [.mp 1002]), (1002, .map true false 1 (sawD d))] (.tuple []) [(1000, .blk 4 [.d (.bool true)]), (1001, .blk 37 [.mp 1002]), (1002, .map true false 1 (sawD u))]] ?_ (hr := by conv => lhs; simp [Tm.row, Tm.rows_eq, Cs.rows_eq, Tryd.underlying4, h1c, Cs.row, q1])
      refine AWp.rg [] [.c [] [.agg [.d (.int yk), .d (.int yn), .d (.str ya), .d (.str yb), .d (strsD yvs), .d (.sl (yxs.map Tm.row)), .d (.sl (ycs.map Cs.row))], .ptr 1003 0, .ptr 1004 0] [(1000, .blk 4 [.d (.bool true)]), (1001, .blk 37 [.mp 1002]), (1002, .map true false 1 (sawD u)), (1003, .blk 43 [.clo 27 [.ptr 1000 0, .ptr 1001 0]]), (1004, .blk 38 [.clo 28 [.ptr 1003 0, .ptr 1004 0]])] (.tuple []) [(1000, .blk 4 [.d (.bool true)]), (1001, .blk 37 [.mp 1002]), (1002, .map true false 1 (sawD b2)), (1003, .blk 43 [.clo 27 [.ptr 1000 0, .ptr 1001 0]]), (1004, .blk 38 [.clo 28 [.ptr 1003 0, .ptr 1004 0]])]] ?_ (hr := by conv => lhs; simp [Tm.row, Tm.rows_eq, Cs.rows_eq, Tryd.underlying4, h1c, Cs.row, q1])
      refine AWp.rg [] [] ?_ (hr := by conv => lhs; simp [Tm.row, Tm.rows_eq, Cs.rows_eq, Tryd.underlying4, h1c, Cs.row, q1])
      refine ⟨⟨(j + 1, b2), hi1, hw⟩, by simp; omega, ?_⟩
      dsimp only
      exact Le.sub (by simp) (by simp)
    have hi1 : j = tcs.length := by have := of_decide_eq_false hc; omega
    subst hi1
    clear hc
    rw [List.drop_length, Cs.bdL, List.reverse_nil, List.nil_append] at hw
    refine AWp.exit ?_
    rw [hw]
    try dsimp only [thenQ, blockQ]
    apply endC.normal
    · rfl
    · conv => lhs; simp [resAV, Tryd.results28]
    · rfl
    · simp [moEnd, memGet]
  refine AWp.rg [] [] ?_ (hr := by conv => lhs; simp [Tm.row, Tm.rows_eq, Cs.rows_eq, Tryd.underlying4, q1])
  refine AWp.cn ?_
  refine AWp.skip ?_
  rw [if_neg q1, List.nil_append] at hR
  refine AWp.rg [] [] ?_ (hr := by conv => lhs; simp [Tm.row, Tm.rows_eq, Cs.rows_eq, Tryd.underlying4, q1])
  repeat (first | refine AWp.seq ?_ | refine AWp.block ?_)
  refine AWp.loop (σ := fun u : {u : Nat × List ByteArray // u.1 ≤ txs.length ∧ R = (Tm.bdL (txs.drop u.1) ++ Cs.bdL tcs).reverse ++ u.2} => ⟨43, [(1, .ptr 1003 0), (2, .ptr 1004 0), (3, .ptr 3 0), (17, .d (.sl (txs.map Tm.row))), (18, .d (.int (txs.length : Int))), (19, .d (.int (u.1.1 : Int)))], [(3, some (.blk 34 [.d (.int tk), .d (.int tn), .d (.str ta), .d (.str tb), .d (strsD tvs), .d (.sl (txs.map Tm.row)), .d (.sl (tcs.map Cs.row))])), (1000, some (.blk 4 [.d (.bool true)])), (1001, some (.blk 37 [.mp 1002])), (1002, some (.map true false 1 (sawD u.1.2))), (1003, some (.blk 43 [.clo 27 [.ptr 1000 0, .ptr 1001 0]])), (1004, some (.blk 38 [.clo 28 [.ptr 1003 0, .ptr 1004 0]]))]⟩)
    (μ := fun u => txs.length - u.1.1) ⟨(0, hs), ⟨Nat.zero_le _, by rw [List.drop_zero]; exact hR⟩⟩ (Le.sub (by simp) (by simp)) (fun ⟨(i, b), ⟨hi4, hw⟩⟩ => ?_)
  dsimp only at hi4 hw ⊢
  refine AWp.rg [] [] ?_ (hr := by conv => lhs; simp [Tm.row, Tm.rows_eq, Cs.rows_eq, Tryd.underlying4, q1])
  repeat (first | refine AWp.seq ?_ | refine AWp.block ?_)
  refine AWp.cond rfl (fun hc => ?_) (fun hc => ?_)
  · have hi1 : i < txs.length := by have := of_decide_eq_true hc; omega
    clear hc
    have h1y : txs[i]? = some txs[i] := List.getElem?_eq_getElem hi1
    have hmy : txs[i] ∈ txs := List.getElem_mem hi1
    have hdy : txs.drop i = txs[i] :: txs.drop (i + 1) := List.drop_eq_getElem_cons hi1
    generalize txs[i] = y at h1y hmy hdy
    rw [hdy, Tm.bdL, List.append_assoc, List.reverse_append, List.append_assoc] at hw
    have hx := ih y (hxr y hmy) b (by
      rw [hw] at hn
      exact (List.nodup_append.1 hn).2.1)
    obtain ⟨b2, hb2⟩ : ∃ z, z = y.bd.reverse ++ b := ⟨_, rfl⟩
    rw [← hb2] at hx hw
    obtain ⟨yk, yn, ya, yb, yvs, yxs, ycs⟩ := y
    dsimp only [tmAV] at hx
    refine AWp.skip ?_
    refine AWp.rg [] [] ?_ (hr := by conv => lhs; simp [Tm.row, Tm.rows_eq, Cs.rows_eq, Tryd.underlying4, h1y, q1])
    refine AWp.rg [] [.c [] [.agg [.d (.int yk), .d (.int yn), .d (.str ya), .d (.str yb), .d (strsD yvs), .d (.sl (yxs.map Tm.row)), .d (.sl (ycs.map Cs.row))], .ptr 1003 0, .ptr 1004 0] [(1000, .blk 4 [.d (.bool true)]), (1001, .blk 37 [.mp 1002]), (1002, .map true false 1 (sawD b)), (1003, .blk 43 [.clo 27 [.ptr 1000 0, .ptr 1001 0]]), (1004, .blk 38 [.clo 28 [.ptr 1003 0, .ptr 1004 0]])] (.tuple []) [(1000, .blk 4 [.d (.bool true)]), (1001, .blk 37 [.mp 1002]), (1002, .map true false 1 (sawD b2)), (1003, .blk 43 [.clo 27 [.ptr 1000 0, .ptr 1001 0]]), (1004, .blk 38 [.clo 28 [.ptr 1003 0, .ptr 1004 0]])]] ?_ (hr := by conv => lhs; simp [Tm.row, Tm.rows_eq, Cs.rows_eq, Tryd.underlying4, h1y, q1])
    refine AWp.rg [] [] ?_ (hr := by conv => lhs; simp [Tm.row, Tm.rows_eq, Cs.rows_eq, Tryd.underlying4, h1y, q1])
    refine ⟨⟨(i + 1, b2), hi1, hw⟩, by simp; omega, ?_⟩
    dsimp only
    exact Le.sub (by simp) (by simp)
  have hi1 : i = txs.length := by have := of_decide_eq_false hc; omega
  subst hi1
  clear hc
  rw [List.drop_length, Tm.bdL, List.nil_append] at hw
  refine AWp.exit ?_
  refine AWp.rg [] [] ?_ (hr := by conv => lhs; simp [Tm.row, Tm.rows_eq, Cs.rows_eq, Tryd.underlying4, q1])
  repeat (first | refine AWp.seq ?_ | refine AWp.block ?_)
  refine AWp.loop (σ := fun u : {u : Nat × List ByteArray // u.1 ≤ tcs.length ∧ R = (Cs.bdL (tcs.drop u.1)).reverse ++ u.2} => ⟨43, [(1, .ptr 1003 0), (2, .ptr 1004 0), (28, .d (.sl (tcs.map Cs.row))), (29, .d (.int (tcs.length : Int))), (30, .d (.int (u.1.1 : Int)))], [(1000, some (.blk 4 [.d (.bool true)])), (1001, some (.blk 37 [.mp 1002])), (1002, some (.map true false 1 (sawD u.1.2))), (1003, some (.blk 43 [.clo 27 [.ptr 1000 0, .ptr 1001 0]])), (1004, some (.blk 38 [.clo 28 [.ptr 1003 0, .ptr 1004 0]]))]⟩)
    (μ := fun u => tcs.length - u.1.1) ⟨(0, b), ⟨Nat.zero_le _, by rw [List.drop_zero]; exact hw⟩⟩ (Le.sub (by simp) (by simp)) (fun ⟨(j, d), ⟨hi9, hw⟩⟩ => ?_)
  dsimp only at hi9 hw ⊢
  refine AWp.rg [] [] ?_ (hr := by conv => lhs; simp [Tm.row, Tm.rows_eq, Cs.rows_eq, Tryd.underlying4, q1])
  repeat (first | refine AWp.seq ?_ | refine AWp.block ?_)
  refine AWp.cond rfl (fun hc => ?_) (fun hc => ?_)
  · have hi1 : j < tcs.length := by have := of_decide_eq_true hc; omega
    clear hc
    have h1c : tcs[j]? = some tcs[j] := List.getElem?_eq_getElem hi1
    have hmc : tcs[j] ∈ tcs := List.getElem_mem hi1
    have hdc : tcs.drop j = tcs[j] :: tcs.drop (j + 1) := List.drop_eq_getElem_cons hi1
    generalize tcs[j] = c at h1c hmc hdc
    rw [hdc, Cs.bdL, List.reverse_append, List.append_assoc] at hw
    have hcs := hcr c hmc
    obtain ⟨ct, cvs, cy⟩ := c
    obtain ⟨hcv, hcs⟩ := hcs
    change cy.Rt N at hcs
    change cvs.length ≤ 6 at hcv
    rw [Cs.bd, List.reverse_append, List.append_assoc] at hw
    have hn2 : (cy.bd.reverse ++ (cvs.reverse ++ d)).Nodup := by
      rw [hw] at hn
      exact (List.nodup_append.1 hn).2.1
    have hp := cs_put cvs d (by omega) (List.nodup_append.1 hn2).2.1
    obtain ⟨u, hu⟩ : ∃ z, z = cvs.reverse ++ d := ⟨_, rfl⟩
    rw [← hu] at hp hn2 hw
    have hx := ih cy hcs u hn2
    obtain ⟨b2, hb2⟩ : ∃ z, z = cy.bd.reverse ++ u := ⟨_, rfl⟩
    rw [← hb2] at hx hw
    obtain ⟨yk, yn, ya, yb, yvs, yxs, ycs⟩ := cy
    dsimp only [tmAV] at hx
    refine AWp.skip ?_
    refine AWp.rg [] [] ?_ (hr := by conv => lhs; simp [Tm.row, Tm.rows_eq, Cs.rows_eq, Tryd.underlying4, h1c, Cs.row, q1])
    refine AWp.rg [] [.c [] [.d (strsD cvs), .ptr 1000 0, .ptr 1001 0] [(1000, .blk 4 [.d (.bool true)]), (1001, .blk 37 [.mp 1002]), (1002, .map true false 1 (sawD d))] (.tuple []) [(1000, .blk 4 [.d (.bool true)]), (1001, .blk 37 [.mp 1002]), (1002, .map true false 1 (sawD u))]] ?_ (hr := by conv => lhs; simp [Tm.row, Tm.rows_eq, Cs.rows_eq, Tryd.underlying4, h1c, Cs.row, q1])
    refine AWp.rg [] [.c [] [.agg [.d (.int yk), .d (.int yn), .d (.str ya), .d (.str yb), .d (strsD yvs), .d (.sl (yxs.map Tm.row)), .d (.sl (ycs.map Cs.row))], .ptr 1003 0, .ptr 1004 0] [(1000, .blk 4 [.d (.bool true)]), (1001, .blk 37 [.mp 1002]), (1002, .map true false 1 (sawD u)), (1003, .blk 43 [.clo 27 [.ptr 1000 0, .ptr 1001 0]]), (1004, .blk 38 [.clo 28 [.ptr 1003 0, .ptr 1004 0]])] (.tuple []) [(1000, .blk 4 [.d (.bool true)]), (1001, .blk 37 [.mp 1002]), (1002, .map true false 1 (sawD b2)), (1003, .blk 43 [.clo 27 [.ptr 1000 0, .ptr 1001 0]]), (1004, .blk 38 [.clo 28 [.ptr 1003 0, .ptr 1004 0]])]] ?_ (hr := by conv => lhs; simp [Tm.row, Tm.rows_eq, Cs.rows_eq, Tryd.underlying4, h1c, Cs.row, q1])
    refine AWp.rg [] [] ?_ (hr := by conv => lhs; simp [Tm.row, Tm.rows_eq, Cs.rows_eq, Tryd.underlying4, h1c, Cs.row, q1])
    refine ⟨⟨(j + 1, b2), hi1, hw⟩, by simp; omega, ?_⟩
    dsimp only
    exact Le.sub (by simp) (by simp)
  have hi1 : j = tcs.length := by have := of_decide_eq_false hc; omega
  subst hi1
  clear hc
  rw [List.drop_length, Cs.bdL, List.reverse_nil, List.nil_append] at hw
  refine AWp.exit ?_
  rw [hw]
  try dsimp only [thenQ, blockQ]
  apply endC.normal
  · rfl
  · conv => lhs; simp [resAV, Tryd.results28]
  · rfl
  · simp [moEnd, memGet]
theorem lookP_all : ∀ N, LookP N
  | 0 => fun _ h => h.elim
  | N + 1 => lookP_step N (lookP_all N)
set_option maxRecDepth 20000 in
set_option maxHeartbeats 16000000 in
theorem sp_PlainNeeds (l : List Fn) (hl : FnsOk l) : PSpec Tryd.prog 5 [fnsAV l] (fun _ => .d (.bool true)) none := by
  have hal := sp_alive5
  have hkl := sp_refCheck l hl
  obtain ⟨cl, hcl⟩ : ∃ c, c = checkE l := ⟨_, rfl⟩
  rw [← hcl] at hkl
  refine PSpec.of Tryd.func5 rfl rfl rfl (Nat.le_of_ble_eq_true rfl) ?_
  show AWp _ _ (endQ _ Tryd.f5 _ _ _) (startAS 51 _)
  refine AWp.rg [] [] ?_ (hr := by conv => lhs; simp [Fn.row, Tm.row, Tm.rows_eq, Cs.rows_eq, Tryd.underlying4])
  refine AWp.rg [] [.p (fun _ => .d (.bool true)) none] ?_ (hr := by conv => lhs; simp [Fn.row, Tm.row, Tm.rows_eq, Cs.rows_eq, Tryd.underlying4])
  refine AWp.cn ?_
  refine AWp.skip ?_
  by_cases q1 : cl = 0
  · have q1t := eq_true q1
    refine AWp.rg [] [.p (fun _ => .d (.int cl)) none] ?_ (hr := by conv => lhs; simp [Fn.row, Tm.row, Tm.rows_eq, Cs.rows_eq, Tryd.underlying4, q1t])
    refine AWp.cn ?_
    refine AWp.skip ?_
    have hc0 : checkE l = 0 := hcl.symm.trans q1
    have hall := sp_PlAll l hl.len (right_all hl hc0)
    have hll := hl.len
    have hml : (l.map Fn.pl).length = l.length := List.length_map ..
    have hnd : ∀ f ∈ l.map Fn.pl, f.Pt ∧ f.bd.Nodup ∧ ∀ s ∈ f.body.free, s ∈ f.params := fun f hf => by
      refine ⟨pl_all_pt hl hc0 f hf, ?_⟩
      obtain ⟨x, hx, rfl⟩ := List.mem_map.1 hf
      have hR := (check_zero hc0).2.2.2 x hx
      have hr := (right_all hl hc0 x hx).2.1
      exact ⟨hR.pl_bd hr, hR.pl_free hr⟩
    generalize l.map Fn.pl = m at *
    refine AWp.rg [] [.p (fun _ => .d (.sl (m.map Fn.row))) none] ?_ (hr := by conv => lhs; simp [Fn.row, Tm.row, Tm.rows_eq, Cs.rows_eq, Tryd.underlying4, q1t])
    repeat (first | refine AWp.seq ?_ | refine AWp.block ?_)
    refine AWp.loop (σ := fun u : {u : Nat // u ≤ m.length} => ⟨51, [(17, .d (.sl (m.map Fn.row))), (18, .d (.int (m.length : Int))), (19, .d (.int (u.1 : Int)))], []⟩)
      (μ := fun u => m.length - u.1) ⟨0, Nat.zero_le _⟩ (Le.sub (by simp) (by simp)) (fun ⟨i, hi6⟩ => ?_)
    dsimp only
    refine AWp.rg [] [] ?_ (hr := by conv => lhs; simp [Fn.row, Tm.row, Tm.rows_eq, Cs.rows_eq, Tryd.underlying4, q1t])
    repeat (first | refine AWp.seq ?_ | refine AWp.block ?_)
    refine AWp.cond rfl (fun hc => ?_) (fun hc => ?_)
    · have hi1 : i < m.length := by have := of_decide_eq_true hc; omega
      clear hc
      have h1f : m[i]? = some m[i] := List.getElem?_eq_getElem hi1
      have hmf : m[i] ∈ m := List.getElem_mem hi1
      have hdf : m.drop i = m[i] :: m.drop (i + 1) := List.drop_eq_getElem_cons hi1
      generalize m[i] = f at h1f hmf hdf
      obtain ⟨hpt, hbn, hfr⟩ := hnd f hmf
      have hfree := sp_refFree f.body hpt.fit
      have hfrl : f.body.free.length ≤ 1048576 := Nat.le_trans (Tm.free_len f.body) hpt.fit.sz
      have hpar := hpt.par
      rw [Fn.bd] at hbn
      have hbn := (List.reverse_perm (f.params ++ f.body.bd)).nodup_iff.2 hbn
      rw [List.reverse_append] at hbn
      have hp1 := cs_put f.params [] (by omega) (by rw [List.append_nil]; exact (List.nodup_append.1 hbn).2.1)
      rw [List.append_nil, sawD_nil] at hp1
      have hlk := lookP_all 175 f.body hpt.rt f.params.reverse hbn
      generalize f.body.bd.reverse ++ f.params.reverse = B at hlk
      generalize f.params.reverse = u at hp1 hlk
      clear hbn hpt
      generalize f.body.free = fr at hfree hfrl hfr
      obtain ⟨fg, fps, ⟨fk, fn, fa, fb, fvs, fxs, fcs⟩⟩ := f
      dsimp only [tmAV] at hfree hp1 hlk hfr hpar
      refine AWp.skip ?_
      refine AWp.rg [] [] ?_ (hr := by conv => lhs; simp [Fn.row, Tm.row, Tm.rows_eq, Cs.rows_eq, Tryd.underlying4, h1f, q1t])
      refine AWp.rg [2] [.p (fun d => .arr d 0 fr.length) (some (.arr 9 1 (fr.map strR)))] ?_ (hr := by conv => lhs; simp [Fn.row, Tm.row, Tm.rows_eq, Cs.rows_eq, Tryd.underlying4, h1f, q1t])
      repeat (first | refine AWp.seq ?_ | refine AWp.block ?_)
      refine AWp.loop (σ := fun u : {u : Nat // u ≤ fr.length} => ⟨51, [(4, .ptr 4 0), (17, .d (.sl (m.map Fn.row))), (18, .d (.int (m.length : Int))), (19, .d (.int (i : Int))), (25, .d (strsD fr)), (26, .d (.int (fr.length : Int))), (27, .d (.int (u.1 : Int)))], [(4, some (.blk 36 [.d (.str fg), .d (strsD fps), .d (.int fk), .d (.int fn), .d (.str fa), .d (.str fb), .d (strsD fvs), .d (.sl (fxs.map Tm.row)), .d (.sl (fcs.map Cs.row))]))]⟩)
        (μ := fun u => fr.length - u.1) ⟨0, Nat.zero_le _⟩ (Le.sub (by simp) (by simp)) (fun ⟨j, hi9⟩ => ?_)
      dsimp only
      refine AWp.rg [] [] ?_ (hr := by conv => lhs; simp [Fn.row, Tm.row, Tm.rows_eq, Cs.rows_eq, Tryd.underlying4, h1f, q1t])
      repeat (first | refine AWp.seq ?_ | refine AWp.block ?_)
      refine AWp.cond rfl (fun hc => ?_) (fun hc => ?_)
      · have hi1 : j < fr.length := by have := of_decide_eq_true hc; omega
        clear hc
        have h1s : fr[j]? = some fr[j] := List.getElem?_eq_getElem hi1
        have hms : fr[j] ∈ fr := List.getElem_mem hi1
        have hds : fr.drop j = fr[j] :: fr.drop (j + 1) := List.drop_eq_getElem_cons hi1
        generalize fr[j] = s at h1s hms hds
        have hha := sp_Has fps s (by omega)
        rw [hasB_iff.2 (hfr s hms)] at hha
        refine AWp.skip ?_
        refine AWp.rg [] [] ?_ (hr := by conv => lhs; simp [Fn.row, Tm.row, Tm.rows_eq, Cs.rows_eq, Tryd.underlying4, h1f, h1s, q1t])
        refine AWp.rg [] [.p (fun _ => .d (.bool true)) none] ?_ (hr := by conv => lhs; simp [Fn.row, Tm.row, Tm.rows_eq, Cs.rows_eq, Tryd.underlying4, h1f, h1s, q1t])
        refine AWp.cn ?_
        refine AWp.skip ?_
        refine AWp.rg [] [] ?_ (hr := by conv => lhs; simp [Fn.row, Tm.row, Tm.rows_eq, Cs.rows_eq, Tryd.underlying4, h1f, h1s, q1t])
        refine ⟨⟨j + 1, hi1⟩, by simp; omega, ?_⟩
        dsimp only
        exact Le.sub (by simp) (by simp)
      have hi1 : j = fr.length := by have := of_decide_eq_false hc; omega
      subst hi1
      clear hc
      refine AWp.exit ?_
      refine AWp.rg [] [] ?_ (hr := by conv => lhs; simp [Fn.row, Tm.row, Tm.rows_eq, Cs.rows_eq, Tryd.underlying4, h1f, q1t])
      refine AWp.rg [] [] ?_ (hr := by conv => lhs; simp [Fn.row, Tm.row, Tm.rows_eq, Cs.rows_eq, Tryd.underlying4, h1f, q1t])
      refine AWp.rg [] [] ?_ (hr := by conv => lhs; simp [Fn.row, Tm.row, Tm.rows_eq, Cs.rows_eq, Tryd.underlying4, h1f, q1t])
      refine AWp.rg [] [.c [(1000, 8), (1001, 7), (1002, 37)] [.d (strsD fps), .ptr 1000 0, .ptr 1001 0] [(1000, .blk 4 [.d (.bool true)]), (1001, .blk 37 [.mp 1002]), (1002, .map true false 1 ([]))] (.tuple []) [(1000, .blk 4 [.d (.bool true)]), (1001, .blk 37 [.mp 1002]), (1002, .map true false 1 (sawD u))]] ?_ (hr := by conv => lhs; simp [Fn.row, Tm.row, Tm.rows_eq, Cs.rows_eq, Tryd.underlying4, h1f, q1t])
      refine AWp.rg [] [] ?_ (hr := by conv => lhs; simp [Fn.row, Tm.row, Tm.rows_eq, Cs.rows_eq, Tryd.underlying4, h1f, q1t])
      refine AWp.rg [] [] ?_ (hr := by conv => lhs; simp [Fn.row, Tm.row, Tm.rows_eq, Cs.rows_eq, Tryd.underlying4, h1f, q1t])
      refine AWp.rg [] [.c [(1000, 8), (1001, 7), (1002, 37), (1003, 9), (1004, 10)] [.agg [.d (.int fk), .d (.int fn), .d (.str fa), .d (.str fb), .d (strsD fvs), .d (.sl (fxs.map Tm.row)), .d (.sl (fcs.map Cs.row))], .ptr 1003 0, .ptr 1004 0] [(1000, .blk 4 [.d (.bool true)]), (1001, .blk 37 [.mp 1002]), (1002, .map true false 1 (sawD u)), (1003, .blk 43 [.clo 27 [.ptr 1000 0, .ptr 1001 0]]), (1004, .blk 38 [.clo 28 [.ptr 1003 0, .ptr 1004 0]])] (.tuple []) [(1000, .blk 4 [.d (.bool true)]), (1001, .blk 37 [.mp 1002]), (1002, .map true false 1 (sawD B)), (1003, .blk 43 [.clo 27 [.ptr 1000 0, .ptr 1001 0]]), (1004, .blk 38 [.clo 28 [.ptr 1003 0, .ptr 1004 0]])]] ?_ (hr := by conv => lhs; simp [Fn.row, Tm.row, Tm.rows_eq, Cs.rows_eq, Tryd.underlying4, h1f, q1t])
      refine AWp.rg [] [] ?_ (hr := by conv => lhs; simp [Fn.row, Tm.row, Tm.rows_eq, Cs.rows_eq, Tryd.underlying4, h1f, q1t])
      refine AWp.cn ?_
      refine AWp.skip ?_
      refine AWp.rg [] [] ?_ (hr := by conv => lhs; simp [Fn.row, Tm.row, Tm.rows_eq, Cs.rows_eq, Tryd.underlying4, h1f, q1t])
      refine ⟨⟨i + 1, hi1⟩, by simp; omega, ?_⟩
      dsimp only
      exact Le.sub (by simp) (by simp)
    have hi1 : i = m.length := by have := of_decide_eq_false hc; omega
    subst hi1
    clear hc
    refine AWp.exit ?_
    refine AWp.rg [] [] ?_ (hr := by conv => lhs; simp [Fn.row, Tm.row, Tm.rows_eq, Cs.rows_eq, Tryd.underlying4, q1t])
    refine AWp.ret ?_
    try dsimp only [thenQ, blockQ]
    apply endQ.ret
    · rfl
    · conv => lhs; simp [resAV, Tryd.results5]
    first | rfl | simp [resVal]
  refine AWp.rg [] [.p (fun _ => .d (.int cl)) none] ?_ (hr := by conv => lhs; simp [Fn.row, Tm.row, Tm.rows_eq, Cs.rows_eq, Tryd.underlying4, q1])
  refine AWp.cy ?_
  refine AWp.rg [] [] ?_ (hr := by conv => lhs; simp [Fn.row, Tm.row, Tm.rows_eq, Cs.rows_eq, Tryd.underlying4, q1])
  refine AWp.ret ?_
  try dsimp only [thenQ, blockQ]
  apply endQ.ret
  · rfl
  · conv => lhs; simp [resAV, Tryd.results5]
  first | rfl | simp [resVal]
end Go.Proofs.YtapiiklnnkkdlaaDoor
