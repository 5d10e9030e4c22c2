import Derived.Test.YtapiiklnnkkdlaaDoorNameD
/- names.changer: term. Printed by a small program. -/
namespace Go.Proofs.YtapiiklnnkkdlaaDoor
open Go.RowKit
attribute [local simp] runD mkRc ldOf stOf stOk ldArg noAny dstOk guardOk opEff opEff0 effOp pureOp callOp zEff evA constAV scalAV Value.oneCell' frGet memGet startAS frOf isGoCall idIn AS.after nextR opnIds objIds AV.ids idsL AObj.ids frNo memNo opnAny isAny mkVal rdCells wrCells fldAddr idxAddr srcRows litRows toD1 toDs setAt sliceAV optI partAV bldAV fillAV binAV binI AV.cells callEff calleeOf frKill memKill AV.kill AObj.kill AV.has AV.hasL Op.operands Call.operands keepF keepM viewIds cChk renOf moGet moWs moQ cEff moLike moHave AV.ren renL AObj.ren AObj.like kept startC moMem AV.frz frz1 frzL frSub memSub frzs AS.frz frFrz memFrz AObj.frz takeMap takeLen bleF Nat.ble_eq memAny objAny mapOp D.keyOk rowAV valRow extOp wrapOp phO
set_option linter.unusedVariables false
set_option linter.unusedSimpArgs false
set_option maxRecDepth 20000 in
set_option maxHeartbeats 16000000 in
theorem term_step (N : Nat) (ih : TermN N) : TermN (N + 1) := by
  intro t ps c hRt hO hps
  obtain ⟨R, hR⟩ : ∃ R, R = t.rn ps c := ⟨_, rfl⟩
  rw [← hR]
  obtain ⟨tk, tn, ta, tb, tvs, txs, tcs⟩ := t
  obtain ⟨hkk, hmany, h6, hxR, hcR⟩ := hRt
  have hxO : ∀ x ∈ txs, x.Ok := fun x hx => Tm.Oks_iff.1 hO.2.2.1 x hx
  have hown := cs_Own (.mk tk tn ta tb tvs txs tcs) hO
  dsimp only at hown
  refine CSpec.of Tryd.func106 rfl rfl (Nat.le_of_ble_eq_true rfl) ?_
  show AWp _ _ (endC _ Tryd.f106 _ _) (startC 75 _ _)
  refine AWp.rg [] [] ?_ (hr := by conv => lhs; simp [Tm.row, Tm.rows_eq, Cs.rows_eq])
  refine AWp.rg [] [.n [(500, 400), (501, 401)] [.agg [.d (.int tk), .d (.int tn), .d (.str ta), .d (.str tb), .d (strsD tvs), .d (.sl (txs.map Tm.row)), .d (.sl (tcs.map Cs.row))]] [] (.agg [.d (.int tk), .d (.int tn), .d (.str ta), .d (.str tb), .d (strsD tvs), .arr 500 0 txs.length, .arr 501 0 tcs.length]) [(500, .arr 34 7 (txs.map Tm.row)), (501, .arr 40 9 (tcs.map Cs.row))] [500, 501]] ?_ (hr := by conv => lhs; simp [Tm.row, Tm.rows_eq, Cs.rows_eq])
  refine AWp.rg [] [] ?_ (hr := by conv => lhs; simp [Tm.row, Tm.rows_eq, Cs.rows_eq])
  by_cases q1 : tk = 1
  · refine AWp.rg [] [] ?_ (hr := by conv => lhs; simp [Tm.row, Tm.rows_eq, Cs.rows_eq, q1])
    refine AWp.cy ?_
    subst q1
    obtain rfl : R = (.mk 1 tn (nowP ps ta) tb tvs [] [], c) := by rw [hR, Tm.rn, if_pos rfl]
    have hx0 : txs = [] ∧ tcs = [] := by
      unfold manyB at hmany
      simp at hmany
      exact hmany
    obtain ⟨rfl, rfl⟩ := hx0
    have hnow := cs_now ps ta c (by omega)
    generalize nowP ps ta = nw at hnow ⊢
    refine AWp.rg [] [.c [] [.ptr 1000 0, .d (.str ta)] [(1000, .blk 113 [.arr 500 0 ps.length, .arr 501 0 ps.length, .d (.int c)]), (500, .arr 9 1 (ps.map frR)), (501, .arr 9 1 (ps.map toR))] (.d (.str nw)) [(1000, .blk 113 [.arr 500 0 ps.length, .arr 501 0 ps.length, .d (.int c)]), (500, .arr 9 1 (ps.map frR)), (501, .arr 9 1 (ps.map toR))]] ?_ (hr := by conv => lhs; simp [Tm.row, Tm.rows_eq, Cs.rows_eq])
    refine AWp.rg [] [] ?_ (hr := by conv => lhs; simp [Tm.row, Tm.rows_eq, Cs.rows_eq])
    refine AWp.ret ?_
    try dsimp only [thenQ, blockQ]
    apply endC.retF [400, 401]
    · rfl
    · conv => lhs; simp
    · conv => lhs; simp [resAV, Tryd.results106]
    · first | rfl | simp [resVal, tmAV, Tm.row, Tm.rows_eq, Cs.rows_eq]
    · simp [moEnd, memGet]
  refine AWp.rg [] [] ?_ (hr := by conv => lhs; simp [Tm.row, Tm.rows_eq, Cs.rows_eq, q1])
  refine AWp.cn ?_
  by_cases q2 : tk = 6
  · refine AWp.rg [] [] ?_ (hr := by conv => lhs; simp [Tm.row, Tm.rows_eq, Cs.rows_eq, q1, q2])
    refine AWp.cy ?_
    subst q2
    have hx2 : txs.length = 2 ∧ tcs = [] := by
      unfold manyB at hmany
      simp at hmany
      exact hmany
    obtain ⟨hx2, rfl⟩ := hx2
    obtain ⟨x, y, rfl⟩ : ∃ x y, txs = [x, y] := by
      rcases txs with _ | ⟨x, _ | ⟨y, _ | ⟨z, l⟩⟩⟩
      · cases hx2
      · cases hx2
      · exact ⟨x, y, rfl⟩
      · simp at hx2
    have hxx := ih x ps c (hxR x (by simp)) (hxO x (by simp)) (by omega)
    rw [Tm.rn, if_neg (by omega), Tm.rns, if_neg (fun h => absurd h.2 (by omega)), Tm.rns, if_pos ⟨rfl, rfl⟩, Tm.rns, Cs.rnL] at hR
    dsimp only at hR
    generalize x.rn ps c = o at hxx hR
    obtain ⟨z, c2⟩ := o
    dsimp only at hxx hR
    obtain ⟨v, hv⟩ : ∃ v, v = vNm (wr (c2 + 1)) := ⟨_, rfl⟩
    obtain ⟨e, he⟩ : ∃ e, e = wr (c2 + 1) := ⟨_, rfl⟩
    rw [← hv, ← he] at hR
    obtain ⟨qs, hqs⟩ : ∃ qs, qs = ps ++ [(ta, v)] := ⟨_, rfl⟩
    rw [← hqs] at hR
    have hyy := ih y qs e (hxR y (by simp)) (hxO y (by simp)) (by rw [hqs, List.length_append, List.length_singleton]; omega)
    generalize y.rn qs e = o at hyy hR
    obtain ⟨u, c3⟩ := o
    dsimp only at hyy hR
    subst hR
    obtain ⟨xk, xn, xa, xb, xvs, xxs, xcs⟩ := x
    obtain ⟨yk, yn, ya, yb, yvs, yxs, ycs⟩ := y
    obtain ⟨zk, zn, za, zb, zvs, zxs, zcs⟩ := z
    obtain ⟨uk, un, ua, ub, uvs, uxs, ucs⟩ := u
    have hb := cs_bind1 ps qs [ta] c2 c3 6 tn ta v tb tvs [] [Tm.row (.mk zk zn za zb zvs zxs zcs), Tm.row (.mk yk yn ya yb yvs yxs ycs)] [Tm.row (.mk zk zn za zb zvs zxs zcs), Tm.row (.mk uk un ua ub uvs uxs ucs)] rfl rfl (by simp) (by simp; omega) (by rw [hqs, hv]; rfl)
      (by
        have h := cs_term1 qs e c3 v 6 tn ta tb tvs [] (Tm.row (.mk zk zn za zb zvs zxs zcs)) yk yn uk un ya yb ua ub yvs uvs yxs uxs ycs ucs hyy
        rw [show freshL [ta] c2 = [v] from by rw [hv]; rfl, show freshC [ta] c2 = e from by rw [he]; rfl]
        exact h)
    rw [show strsAV [ta] = .d (.sl [[.str ta]]) from rfl] at hb
    simp only [List.length_nil, List.map_nil, Tm.row, Tm.rows_eq, Cs.rows_eq, chO, frO, toO] at hb
    refine AWp.dw [] [.c [] [.ptr 1000 0, .agg [.d (.int xk), .d (.int xn), .d (.str xa), .d (.str xb), .d (strsD xvs), .d (.sl (xxs.map Tm.row)), .d (.sl (xcs.map Cs.row))]] [(1000, .blk 113 [.arr 500 0 ps.length, .arr 501 0 ps.length, .d (.int c)]), (500, .arr 9 1 (ps.map frR)), (501, .arr 9 1 (ps.map toR))] (.agg [.d (.int zk), .d (.int zn), .d (.str za), .d (.str zb), .d (strsD zvs), .d (.sl (zxs.map Tm.row)), .d (.sl (zcs.map Cs.row))]) [(1000, .blk 113 [.arr 500 0 ps.length, .arr 501 0 ps.length, .d (.int c2)]), (500, .arr 9 1 (ps.map frR)), (501, .arr 9 1 (ps.map toR))]] mixed ?_ (hr := by conv => lhs; simp [Tm.row, Tm.rows_eq, Cs.rows_eq, q1])
    refine AWp.rg [3] [.c [(1001, 3), (1002, 2), (1003, 400), (1004, 401)] [.ptr 1000 0, .d (.sl [[.str ta]]), .clo 151 [.ptr 1001 0, .ptr 1002 0]] [(1000, .blk 113 [.arr 500 0 ps.length, .arr 501 0 ps.length, .d (.int c2)]), (500, .arr 9 1 (ps.map frR)), (501, .arr 9 1 (ps.map toR)), (1001, .blk 34 [.d (.int 6), .d (.int tn), .d (.str ta), .d (.str tb), .d (strsD tvs), .arr 1003 0 2, .arr 1004 0 0]), (1002, .blk 111 [.ptr 1000 0]), (1003, .arr 34 7 ([Tm.row (.mk zk zn za zb zvs zxs zcs), Tm.row (.mk yk yn ya yb yvs yxs ycs)])), (1004, .arr 40 9 ([]))] (.tuple []) [(1000, .blk 113 [.arr 500 0 ps.length, .arr 501 0 ps.length, .d (.int c3)]), (500, .arr 9 1 (ps.map frR)), (501, .arr 9 1 (ps.map toR)), (1001, .blk 34 [.d (.int 6), .d (.int tn), .d (.str v), .d (.str tb), .d (strsD tvs), .arr 1003 0 2, .arr 1004 0 0]), (1002, .blk 111 [.ptr 1000 0]), (1003, .arr 34 7 ([Tm.row (.mk zk zn za zb zvs zxs zcs), Tm.row (.mk uk un ua ub uvs uxs ucs)])), (1004, .arr 40 9 ([]))]] ?_ (hr := by conv => lhs; simp [Tm.row, Tm.rows_eq, Cs.rows_eq, q1])
    refine AWp.rg [] [] ?_ (hr := by conv => lhs; simp [Tm.row, Tm.rows_eq, Cs.rows_eq, q1])
    refine AWp.ret ?_
    try dsimp only [thenQ, blockQ]
    apply endC.retF [400, 401]
    · rfl
    · conv => lhs; simp
    · conv => lhs; simp [resAV, Tryd.results106]
    · first | rfl | simp [resVal, tmAV, Tm.row, Tm.rows_eq, Cs.rows_eq]
    · simp [moEnd, memGet]
  refine AWp.rg [] [] ?_ (hr := by conv => lhs; simp [Tm.row, Tm.rows_eq, Cs.rows_eq, q1, q2])
  refine AWp.cn ?_
  refine AWp.skip ?_
  rw [Tm.rn, if_neg q1] at hR
  refine AWp.rg [] [] ?_ (hr := by conv => lhs; simp [Tm.row, Tm.rows_eq, Cs.rows_eq, q1, q2])
  repeat (first | refine AWp.seq ?_ | refine AWp.block ?_)
  refine AWp.loop (σ := fun u : {u : Nat × List Tm × Int × List (List D) // u.1 ≤ txs.length ∧ (Tm.rns tk ta ps 0 txs ta c = (u.2.1 ++ (Tm.rns tk ta ps u.1 (txs.drop u.1) ta u.2.2.1).1, (Tm.rns tk ta ps u.1 (txs.drop u.1) ta u.2.2.1).2) ∧ u.2.1.length = u.1 ∧ u.2.2.2 = (u.2.1 ++ txs.drop u.1).map Tm.row)} => ⟨75, [(2, .ptr 2 0), (3, .ptr 3 0), (4, .ptr 4 0), (40, .d (.int txs.length)), (41, .d (.int (u.1.1 : Int)))], [(2, some (.blk 111 [.ptr 1000 0])), (3, some (.blk 34 [.d (.int tk), .d (.int tn), .d (.str ta), .d (.str tb), .d (strsD tvs), .arr 400 0 txs.length, .arr 401 0 tcs.length])), (4, some (.blk 34 [.d (.int 0), .d (.int 0), .d (.str ByteArray.empty), .d (.str ByteArray.empty), .lit (.slice none 0 0), .lit (.slice none 0 0), .lit (.slice none 0 0)])), (400, some (.arr 34 7 u.1.2.2.2)), (401, some (.arr 40 9 (tcs.map Cs.row))), (500, some (.arr 9 1 (ps.map frR))), (501, some (.arr 9 1 (ps.map toR))), (1000, some (.blk 113 [.arr 500 0 ps.length, .arr 501 0 ps.length, .d (.int u.1.2.2.1)]))]⟩)
    (μ := fun u => txs.length - u.1.1) ⟨(0, [], c, txs.map Tm.row), ⟨Nat.zero_le _, ⟨by simp, rfl, by simp⟩⟩⟩ (Le.sub (by simp) (by simp)) (fun ⟨(i, ys, c1, RS), ⟨hi11, hw⟩⟩ => ?_)
  dsimp only at hi11 hw ⊢
  refine AWp.rg [] [] ?_ (hr := by conv => lhs; simp [Tm.row, Tm.rows_eq, Cs.rows_eq, q1, q2])
  repeat (first | refine AWp.seq ?_ | refine AWp.block ?_)
  refine AWp.cond rfl (fun hc => ?_) (fun hc => ?_)
  · have hi1 : i < txs.length := by have := of_decide_eq_true hc; omega
    clear hc
    have h1y : txs[i]? = some txs[i] := List.getElem?_eq_getElem hi1
    have hmy : txs[i] ∈ txs := List.getElem_mem hi1
    have hdy : txs.drop i = txs[i] :: txs.drop (i + 1) := List.drop_eq_getElem_cons hi1
    generalize txs[i] = y at h1y hmy hdy
    obtain ⟨hap, hyl, hRS⟩ := hw
    have hyR := hxR y hmy
    rw [hdy, Tm.rns, if_neg (fun h => q2 h.1)] at hap
    have hx := ih y ps c1 hyR (hxO y hmy) (by omega)
    generalize y.rn ps c1 = o at hx hap
    obtain ⟨z, c2⟩ := o
    dsimp only at hx hap
    rw [hdy] at hRS
    obtain ⟨yk, yn, ya, yb, yvs, yxs, ycs⟩ := y
    obtain ⟨zk, zn, za, zb, zvs, zxs, zcs⟩ := z
    have hRS0 : RS[i]? = some (Tm.row (.mk yk yn ya yb yvs yxs ycs)) := by rw [hRS, List.getElem?_map, List.getElem?_append_right (by omega), hyl, Nat.sub_self]; rfl
    obtain ⟨RS1, hRS1⟩ : ∃ R, R = RS.set i (Tm.row (.mk zk zn za zb zvs zxs zcs)) := ⟨_, rfl⟩
    have hRS2 : RS1 = ((ys ++ [Tm.mk zk zn za zb zvs zxs zcs]) ++ txs.drop (i + 1)).map Tm.row := by
      rw [hRS1, hRS, ← List.map_set, List.set_append_right _ _ (by omega), hyl, Nat.sub_self]
      simp
    have hRSl : RS.length = txs.length := by rw [hRS, List.length_map, List.length_append, List.length_cons, List.length_drop]; omega
    simp only [Tm.row, Tm.rows_eq, Cs.rows_eq] at hRS0 hRS1
    replace hRS1 := hRS1.symm
    refine AWp.skip ?_
    refine AWp.rg [] [] ?_ (hr := by conv => lhs; simp [Tm.row, Tm.rows_eq, Cs.rows_eq, h1y, hRS0, hRS1, q1, q2])
    refine AWp.dw [] [.c [] [.ptr 1000 0, .agg [.d (.int yk), .d (.int yn), .d (.str ya), .d (.str yb), .d (strsD yvs), .d (.sl (yxs.map Tm.row)), .d (.sl (ycs.map Cs.row))]] [(1000, .blk 113 [.arr 500 0 ps.length, .arr 501 0 ps.length, .d (.int c1)]), (500, .arr 9 1 (ps.map frR)), (501, .arr 9 1 (ps.map toR))] (.agg [.d (.int zk), .d (.int zn), .d (.str za), .d (.str zb), .d (strsD zvs), .d (.sl (zxs.map Tm.row)), .d (.sl (zcs.map Cs.row))]) [(1000, .blk 113 [.arr 500 0 ps.length, .arr 501 0 ps.length, .d (.int c2)]), (500, .arr 9 1 (ps.map frR)), (501, .arr 9 1 (ps.map toR))]] mixed ?_ (hr := by conv => lhs; simp [Tm.row, Tm.rows_eq, Cs.rows_eq, h1y, hRS0, hRS1, q1, q2])
    refine AWp.rg [] [] ?_ (hr := by conv => lhs; simp [Tm.row, Tm.rows_eq, Cs.rows_eq, h1y, hRS0, hRS1, q1, q2])
    refine ⟨⟨(i + 1, ys ++ [.mk zk zn za zb zvs zxs zcs], c2, RS1), hi1, ⟨by rw [hap]; simp, by simp [hyl], hRS2⟩⟩, by simp; omega, ?_⟩
    dsimp only
    exact Le.sub (by simp) (by simp)
  have hi1 : i = txs.length := by have := of_decide_eq_false hc; omega
  subst hi1
  clear hc
  obtain ⟨hap, hyl, hRS⟩ := hw
  rw [List.drop_length, Tm.rns] at hap
  rw [List.drop_length, List.append_nil] at hRS
  simp only [List.append_nil] at hap
  rw [hap] at hR
  dsimp only at hR
  clear hap
  subst hRS
  refine AWp.exit ?_
  refine AWp.rg [] [] ?_ (hr := by conv => lhs; simp [Tm.row, Tm.rows_eq, Cs.rows_eq, q1, q2])
  repeat (first | refine AWp.seq ?_ | refine AWp.block ?_)
  refine AWp.loop (σ := fun u : {u : Nat × List Cs × Int × List (List D) // u.1 ≤ tcs.length ∧ (Cs.rnL tcs ps c1 = (u.2.1 ++ (Cs.rnL (tcs.drop u.1) ps u.2.2.1).1, (Cs.rnL (tcs.drop u.1) ps u.2.2.1).2) ∧ u.2.1.length = u.1 ∧ u.2.2.2 = (u.2.1 ++ tcs.drop u.1).map Cs.row)} => ⟨75, [(2, .ptr 2 0), (3, .ptr 3 0), (4, .ptr 4 0), (58, .d (.int tcs.length)), (59, .d (.int (u.1.1 : Int)))], [(2, some (.blk 111 [.ptr 1000 0])), (3, some (.blk 34 [.d (.int tk), .d (.int tn), .d (.str ta), .d (.str tb), .d (strsD tvs), .arr 400 0 txs.length, .arr 401 0 tcs.length])), (4, some (.blk 34 [.d (.int 0), .d (.int 0), .d (.str ByteArray.empty), .d (.str ByteArray.empty), .lit (.slice none 0 0), .lit (.slice none 0 0), .lit (.slice none 0 0)])), (400, some (.arr 34 7 (ys.map Tm.row))), (401, some (.arr 40 9 u.1.2.2.2)), (500, some (.arr 9 1 (ps.map frR))), (501, some (.arr 9 1 (ps.map toR))), (1000, some (.blk 113 [.arr 500 0 ps.length, .arr 501 0 ps.length, .d (.int u.1.2.2.1)]))]⟩)
    (μ := fun u => tcs.length - u.1.1) ⟨(0, [], c1, tcs.map Cs.row), ⟨Nat.zero_le _, ⟨by simp, rfl, by simp⟩⟩⟩ (Le.sub (by simp) (by simp)) (fun ⟨(i, ds, c3, RS), ⟨hi16, hw2⟩⟩ => ?_)
  dsimp only at hi16 hw2 ⊢
  refine AWp.rg [] [] ?_ (hr := by conv => lhs; simp [Tm.row, Tm.rows_eq, Cs.rows_eq, q1, q2])
  repeat (first | refine AWp.seq ?_ | refine AWp.block ?_)
  refine AWp.cond rfl (fun hc => ?_) (fun hc => ?_)
  · have hi1 : i < tcs.length := by have := of_decide_eq_true hc; omega
    clear hc
    have h1d : tcs[i]? = some tcs[i] := List.getElem?_eq_getElem hi1
    have hmd : tcs[i] ∈ tcs := List.getElem_mem hi1
    have hdd : tcs.drop i = tcs[i] :: tcs.drop (i + 1) := List.drop_eq_getElem_cons hi1
    generalize tcs[i] = d at h1d hmd hdd
    obtain ⟨hap, hdl, hRS⟩ := hw2
    have hdR := hcR d hmd
    rw [hdd, Cs.rnL] at hap
    rw [hdd] at hRS
    obtain ⟨dt, dws, y⟩ := d
    obtain ⟨hw6, hyR⟩ := hdR
    dsimp only at hw6 hyR
    rw [Cs.rn] at hap
    obtain ⟨e, he⟩ : ∃ e, e = freshC dws c3 := ⟨_, rfl⟩
    obtain ⟨us, hus⟩ : ∃ us, us = freshL dws c3 := ⟨_, rfl⟩
    have hul := freshL_len dws c3
    rw [← hus, ← he] at hap
    rw [← hus] at hul
    obtain ⟨qs, hqs⟩ : ∃ qs, qs = ps ++ dws.zip us := ⟨_, rfl⟩
    rw [← hqs] at hap
    have hx := ih y qs e hyR (Cs.Oks_iff.1 hO.2.2.2 _ hmd).2.2 (by rw [hqs, List.length_append, List.length_zip]; omega)
    generalize y.rn qs e = o at hx hap
    obtain ⟨z, c2⟩ := o
    dsimp only at hx hap
    obtain ⟨yk, yn, ya, yb, yvs, yxs, ycs⟩ := y
    obtain ⟨zk, zn, za, zb, zvs, zxs, zcs⟩ := z
    have hRSl : RS.length = tcs.length := by rw [hRS, List.length_map, List.length_append, List.length_cons, List.length_drop]; omega
    have hR0 : RS[i]? = some [.int dt, strsD dws, .int yk, .int yn, .str ya, .str yb, strsD yvs, .sl (yxs.map Tm.row), .sl (ycs.map Cs.row)] := by rw [hRS, List.getElem?_map, List.getElem?_append_right (by omega), hdl, Nat.sub_self]; simp [Cs.row, Tm.row, Tm.rows_eq, Cs.rows_eq]
    obtain ⟨R1, hR1⟩ : ∃ R1, RS.set i [.int dt, strsD us, .int yk, .int yn, .str ya, .str yb, strsD yvs, .sl (yxs.map Tm.row), .sl (ycs.map Cs.row)] = R1 := ⟨_, rfl⟩
    obtain ⟨R2, hR2⟩ : ∃ R2, R1.set i [.int dt, strsD us, .int zk, .int zn, .str za, .str zb, strsD zvs, .sl (zxs.map Tm.row), .sl (zcs.map Cs.row)] = R2 := ⟨_, rfl⟩
    have hR1g : R1[i]? = some [.int dt, strsD us, .int yk, .int yn, .str ya, .str yb, strsD yvs, .sl (yxs.map Tm.row), .sl (ycs.map Cs.row)] := by rw [← hR1]; exact List.getElem?_set_self (by omega)
    have hRS2 : R2 = ((ds ++ [Cs.mk dt us (Tm.mk zk zn za zb zvs zxs zcs)]) ++ tcs.drop (i + 1)).map Cs.row := by
      rw [← hR2, ← hR1, List.set_set, show ([.int dt, strsD us, .int zk, .int zn, .str za, .str zb, strsD zvs, .sl (zxs.map Tm.row), .sl (zcs.map Cs.row)] : List D) = Cs.row (Cs.mk dt us (Tm.mk zk zn za zb zvs zxs zcs)) from by simp [Cs.row, Tm.row, Tm.rows_eq, Cs.rows_eq], hRS, ← List.map_set, List.set_append_right _ _ (by omega), hdl, Nat.sub_self]
      simp
    have hR2l : R2.length = RS.length := by rw [← hR2, ← hR1]; simp
    have hb := cs_bind2 ps qs dws c3 c2 i RS R2 (by rw [← hR2, ← hR1]; simp) hw6 (by omega) (by rw [hqs, hus]) (by
      rw [← hus, ← he]
      exact cs_term2 qs e c2 us dws dt i RS R1 R2 yk yn zk zn ya yb za zb yvs zvs yxs zxs ycs zcs hR0 hR1 hR1g hR2 hx)
    refine AWp.skip ?_
    refine AWp.rg [] [] ?_ (hr := by conv => lhs; simp [Tm.row, Tm.rows_eq, Cs.rows_eq, h1d, Cs.row, hR0, q1, q2])
    refine AWp.rg [] [] ?_ (hr := by conv => lhs; simp [Tm.row, Tm.rows_eq, Cs.rows_eq, h1d, Cs.row, hR0, q1, q2])
    refine AWp.dw [] [.c [(1001, 7), (1002, 2), (1003, 401)] [.ptr 1000 0, .d (strsD dws), .clo 152 [.ptr 1001 0, .ptr 1002 0]] [(1000, .blk 113 [.arr 500 0 ps.length, .arr 501 0 ps.length, .d (.int c3)]), (500, .arr 9 1 (ps.map frR)), (501, .arr 9 1 (ps.map toR)), (1001, .blk 153 [.eptr 1003 i 0]), (1002, .blk 111 [.ptr 1000 0]), (1003, .arr 40 9 RS)] (.tuple []) [(1000, .blk 113 [.arr 500 0 ps.length, .arr 501 0 ps.length, .d (.int c2)]), (500, .arr 9 1 (ps.map frR)), (501, .arr 9 1 (ps.map toR)), (1001, .blk 153 [.eptr 1003 i 0]), (1002, .blk 111 [.ptr 1000 0]), (1003, .arr 40 9 R2)]] mixed ?_ (hr := by conv => lhs; simp [Tm.row, Tm.rows_eq, Cs.rows_eq, h1d, Cs.row, hR0, q1, q2])
    refine AWp.rg [] [] ?_ (hr := by conv => lhs; simp [Tm.row, Tm.rows_eq, Cs.rows_eq, h1d, Cs.row, hR0, q1, q2])
    refine ⟨⟨(i + 1, ds ++ [.mk dt us (.mk zk zn za zb zvs zxs zcs)], c2, R2), hi1, ⟨by rw [hap]; simp, by simp [hdl], hRS2⟩⟩, by simp; omega, ?_⟩
    dsimp only
    exact Le.sub (by simp) (by simp)
  have hi1 : i = tcs.length := by have := of_decide_eq_false hc; omega
  subst hi1
  clear hc
  obtain ⟨hap, hdl, hRS⟩ := hw2
  rw [List.drop_length, Cs.rnL] at hap
  rw [List.drop_length, List.append_nil] at hRS
  simp only [List.append_nil] at hap
  rw [hap] at hR
  dsimp only at hR
  subst hR
  subst hRS
  refine AWp.exit ?_
  refine AWp.rg [] [] ?_ (hr := by conv => lhs; simp [Tm.row, Tm.rows_eq, Cs.rows_eq, q1, q2])
  refine AWp.ret ?_
  have htk1 : List.take txs.length (List.map Tm.row ys) = List.map Tm.row ys := List.take_of_length_le (by simp; omega)
  have htk2 : List.take tcs.length (List.map Cs.row ds) = List.map Cs.row ds := List.take_of_length_le (by simp; omega)
  try dsimp only [thenQ, blockQ]
  apply endC.retF [400, 401]
  · rfl
  · conv => lhs; simp [htk1, htk2]
  · conv => lhs; simp [resAV, Tryd.results106, htk1, htk2]
  · first | rfl | simp [resVal, tmAV, Tm.row, Tm.rows_eq, Cs.rows_eq, htk1, htk2]
  · simp [moEnd, memGet]
theorem term_all : ∀ N, TermN N
  | 0 => fun _ _ _ h => h.elim
  | N + 1 => term_step N (term_all N)
end Go.Proofs.YtapiiklnnkkdlaaDoor

namespace Go.Proofs.YtapiiklnnkkdlaaDoor
open Go.RowKit
attribute [local simp] runD mkRc ldOf stOf stOk ldArg noAny dstOk guardOk opEff opEff0 effOp pureOp callOp zEff evA constAV scalAV Value.oneCell' frGet memGet startAS frOf isGoCall idIn AS.after nextR opnIds objIds AV.ids idsL AObj.ids frNo memNo opnAny isAny mkVal rdCells wrCells fldAddr idxAddr srcRows litRows toD1 toDs setAt sliceAV optI partAV bldAV fillAV binAV binI AV.cells callEff calleeOf frKill memKill AV.kill AObj.kill AV.has AV.hasL Op.operands Call.operands keepF keepM viewIds cChk renOf moGet moWs moQ cEff moLike moHave AV.ren renL AObj.ren AObj.like kept startC moMem AV.frz frz1 frzL frSub memSub frzs AS.frz frFrz memFrz AObj.frz takeMap takeLen bleF Nat.ble_eq memAny objAny mapOp D.keyOk rowAV valRow extOp wrapOp phO frLow memLow memLow1 objLow memEmpty Low LowL
set_option linter.unusedVariables false
set_option linter.unusedSimpArgs false
set_option maxRecDepth 20000 in
set_option maxHeartbeats 16000000 in
theorem cs_fn1 (ps : Ps) (c c2 : Int) (us fps : List ByteArray) (fg : ByteArray) (fk fn zk zn : Int) (fa fb za zb : ByteArray) (fvs zvs : List ByteArray) (fxs zxs : List Tm) (fcs zcs : List Cs)
    (hx : CSpec Tryd.prog 106 [.ptr 1000 0, tmAV (.mk fk fn fa fb fvs fxs fcs)] [(1000, chO ps.length c), (500, frO ps), (501, toO ps)] (tmAV (.mk zk zn za zb zvs zxs zcs)) [(1000, chO ps.length c2), (500, frO ps), (501, toO ps)]) :
    CSpec Tryd.prog 105 [strsAV us, .ptr 1001 0, .ptr 1002 0, .ptr 1003 0] [(1000, .blk 113 [.arr 500 0 ps.length, .arr 501 0 ps.length, .d (.int c)]), (500, .arr 9 1 (ps.map frR)), (501, .arr 9 1 (ps.map toR)), (1001, .blk 36 [.d (.str fg), .lit (.slice none 0 0), .d (.int 0), .d (.int 0), .d (.str ByteArray.empty), .d (.str ByteArray.empty), .lit (.slice none 0 0), .lit (.slice none 0 0), .lit (.slice none 0 0)]), (1002, .blk 111 [.ptr 1000 0]), (1003, .blk 36 [.d (.str fg), .d (strsD fps), .d (.int fk), .d (.int fn), .d (.str fa), .d (.str fb), .d (strsD fvs), .d (.sl (fxs.map Tm.row)), .d (.sl (fcs.map Cs.row))])] (.tuple []) [(1000, .blk 113 [.arr 500 0 ps.length, .arr 501 0 ps.length, .d (.int c2)]), (500, .arr 9 1 (ps.map frR)), (501, .arr 9 1 (ps.map toR)), (1001, .blk 36 [.d (.str fg), .d (strsD us), .d (.int zk), .d (.int zn), .d (.str za), .d (.str zb), .d (strsD zvs), .d (.sl (zxs.map Tm.row)), .d (.sl (zcs.map Cs.row))]), (1002, .blk 111 [.ptr 1000 0]), (1003, .blk 36 [.d (.str fg), .d (strsD fps), .d (.int fk), .d (.int fn), .d (.str fa), .d (.str fb), .d (strsD fvs), .d (.sl (fxs.map Tm.row)), .d (.sl (fcs.map Cs.row))])] := by
  refine CSpec.of Tryd.func105 rfl rfl (Nat.le_of_ble_eq_true rfl) ?_
  show AWp _ _ (endC _ Tryd.f105 _ _) (startC 12 _ _)
  refine AWp.rg [] [] ?_ (hr := by conv => lhs; simp [Tm.row, Tm.rows_eq, Cs.rows_eq])
  refine AWp.rg [] [.c [] [.ptr 1000 0, .agg [.d (.int fk), .d (.int fn), .d (.str fa), .d (.str fb), .d (strsD fvs), .d (.sl (fxs.map Tm.row)), .d (.sl (fcs.map Cs.row))]] [(1000, .blk 113 [.arr 500 0 ps.length, .arr 501 0 ps.length, .d (.int c)]), (500, .arr 9 1 (ps.map frR)), (501, .arr 9 1 (ps.map toR))] (.agg [.d (.int zk), .d (.int zn), .d (.str za), .d (.str zb), .d (strsD zvs), .d (.sl (zxs.map Tm.row)), .d (.sl (zcs.map Cs.row))]) [(1000, .blk 113 [.arr 500 0 ps.length, .arr 501 0 ps.length, .d (.int c2)]), (500, .arr 9 1 (ps.map frR)), (501, .arr 9 1 (ps.map toR))]] ?_ (hr := by conv => lhs; simp [Tm.row, Tm.rows_eq, Cs.rows_eq])
  try dsimp only [thenQ, blockQ]
  apply endC.normal
  · rfl
  · conv => lhs; simp [resAV, Tryd.results105]
  · rfl
  · simp [moEnd, memGet]
set_option maxRecDepth 20000 in
set_option maxHeartbeats 16000000 in
theorem sp_NFn (f : Fn) (hb : f.body.Ok) (hr : f.body.Rt 25) (hp : f.params.length ≤ 6) : PSpec Tryd.prog 60 [fnAV f] (fun _ => fnAV f.rn) none := by
  have hx := term_all 25 f.body (f.params.zip (freshL f.params 0)) (freshC f.params 0) hr hb (by rw [List.length_zip]; omega)
  unfold Fn.rn
  obtain ⟨fg, fps, fy⟩ := f
  dsimp only at *
  obtain ⟨us, hus⟩ : ∃ us, us = freshL fps 0 := ⟨_, rfl⟩
  obtain ⟨e, he⟩ : ∃ e, e = freshC fps 0 := ⟨_, rfl⟩
  rw [← hus, ← he] at hx ⊢
  obtain ⟨qs, hqs⟩ : ∃ qs, qs = fps.zip us := ⟨_, rfl⟩
  rw [← hqs] at hx ⊢
  generalize fy.rn qs e = o at hx ⊢
  obtain ⟨z, c2⟩ := o
  dsimp only at *
  obtain ⟨fk, fn, fa, fb, fvs, fxs, fcs⟩ := fy
  obtain ⟨zk, zn, za, zb, zvs, zxs, zcs⟩ := z
  have hbd := cs_bind0 [] qs fps 0 c2 fg fps us fk fn zk zn fa fb za zb fvs zvs fxs zxs fcs zcs hp (by simp; omega) (by rw [hqs, hus]; rfl) (by
    rw [← hus, ← he]
    exact cs_fn1 qs e c2 us fps fg fk fn zk zn fa fb za zb fvs zvs fxs zxs fcs zcs hx)
  simp only [List.length_nil, List.map_nil] at hbd
  refine PSpec.of Tryd.func60 rfl rfl rfl (Nat.le_of_ble_eq_true rfl) ?_
  show AWp _ _ (endQ _ Tryd.f60 _ _ _) (startAS 16 _)
  refine AWp.rg [] [] ?_ (hr := by conv => lhs; simp [fnAV, Tm.row, Tm.rows_eq, Cs.rows_eq])
  refine AWp.rg [] [] ?_ (hr := by conv => lhs; simp [fnAV, Tm.row, Tm.rows_eq, Cs.rows_eq])
  refine AWp.rg [] [] ?_ (hr := by conv => lhs; simp [fnAV, Tm.row, Tm.rows_eq, Cs.rows_eq])
  repeat (first | refine AWp.seq ?_ | refine AWp.block ?_)
  refine AWp.le (Le.low [400, 401] [] (fr := [(1, .ptr 1 0), (2, .ptr 2 0), (3, .ptr 3 0), (4, .ptr 4 0)]) (mem := [(1, some (.blk 36 [.d (.str fg), .d (strsD fps), .d (.int fk), .d (.int fn), .d (.str fa), .d (.str fb), .d (strsD fvs), .d (.sl (fxs.map Tm.row)), .d (.sl (fcs.map Cs.row))])), (2, some (.blk 36 [.d (.str ByteArray.empty), .lit (.slice none 0 0), .d (.int 0), .d (.int 0), .d (.str ByteArray.empty), .d (.str ByteArray.empty), .lit (.slice none 0 0), .lit (.slice none 0 0), .lit (.slice none 0 0)])), (3, some (.blk 111 [.ptr 6 0])), (4, some (.blk 36 [.d (.str fg), .lit (.slice none 0 0), .d (.int 0), .d (.int 0), .d (.str ByteArray.empty), .d (.str ByteArray.empty), .lit (.slice none 0 0), .lit (.slice none 0 0), .lit (.slice none 0 0)])), (6, some (.blk 113 [.arr 400 0 0, .arr 401 0 0, .d (.int 0)])), (400, some (.arr 9 1 [])), (401, some (.arr 9 1 []))]) rfl (by simp) (by simp)) ?_
  refine AWp.rg [] [.c [(1000, 6), (500, 400), (501, 401), (1001, 4), (1002, 3), (1003, 1)] [.ptr 1000 0, .d (strsD fps), .clo 105 [.ptr 1001 0, .ptr 1002 0, .ptr 1003 0]] [(1000, .blk 113 [.arr 500 0 0, .arr 501 0 0, .d (.int 0)]), (500, .arr 9 1 ([])), (501, .arr 9 1 ([])), (1001, .blk 36 [.d (.str fg), .lit (.slice none 0 0), .d (.int 0), .d (.int 0), .d (.str ByteArray.empty), .d (.str ByteArray.empty), .lit (.slice none 0 0), .lit (.slice none 0 0), .lit (.slice none 0 0)]), (1002, .blk 111 [.ptr 1000 0]), (1003, .blk 36 [.d (.str fg), .d (strsD fps), .d (.int fk), .d (.int fn), .d (.str fa), .d (.str fb), .d (strsD fvs), .d (.sl (fxs.map Tm.row)), .d (.sl (fcs.map Cs.row))])] (.tuple []) [(1000, .blk 113 [.arr 500 0 0, .arr 501 0 0, .d (.int c2)]), (500, .arr 9 1 ([])), (501, .arr 9 1 ([])), (1001, .blk 36 [.d (.str fg), .d (strsD us), .d (.int zk), .d (.int zn), .d (.str za), .d (.str zb), .d (strsD zvs), .d (.sl (zxs.map Tm.row)), .d (.sl (zcs.map Cs.row))]), (1002, .blk 111 [.ptr 1000 0]), (1003, .blk 36 [.d (.str fg), .d (strsD fps), .d (.int fk), .d (.int fn), .d (.str fa), .d (.str fb), .d (strsD fvs), .d (.sl (fxs.map Tm.row)), .d (.sl (fcs.map Cs.row))])]] ?_ (hr := by conv => lhs; simp [fnAV, Tm.row, Tm.rows_eq, Cs.rows_eq])
  refine AWp.rg [] [] ?_ (hr := by conv => lhs; simp [fnAV, Tm.row, Tm.rows_eq, Cs.rows_eq])
  refine AWp.ret ?_
  try dsimp only [thenQ, blockQ]
  apply endQ.ret
  · rfl
  · conv => lhs; simp [resAV, Tryd.results60]
  rfl


theorem ats_blen : ∀ (l : List Tm) (c : Int), (Tm.ats l c).2.1.length ≤ l.length
  | [], _ => Nat.le_refl _
  | x :: r, c => by
    rw [Tm.ats]
    split
    · have := ats_blen r c
      simp; omega
    · have := ats_blen r (x.pl (wr (c + 1))).2
      simp; omega
theorem Fn.rn_rt (f : Fn) (hr : f.body.Rt 25) : f.rn.body.Rt 25 := Go.Proofs.YtapiiklnnkkdlaaDoor.rn_rt 25 f.body _ _ hr
set_option maxRecDepth 20000 in
set_option maxHeartbeats 16000000 in
theorem sp_PlFn (f : Fn) (hb : f.body.Ok) (hr : f.body.Rt 25) (hp : f.params.length ≤ 6) : PSpec Tryd.prog 63 [fnAV f] (fun _ => fnAV f.pl) none := by
  have hn := sp_NFn f hb hr hp
  have hx := pl_all 25 f.rn.body 0 (f.rn_rt hr) (f.rn_ok hb hr)
  unfold Fn.pl
  generalize f.rn = g at hn hx ⊢
  obtain ⟨gg, gps, gy⟩ := g
  dsimp only at hx ⊢
  generalize gy.pl 0 = o at hx ⊢
  obtain ⟨z, c2⟩ := o
  dsimp only at hx ⊢
  obtain ⟨fg, fps, ⟨fk, fn, fa, fb, fvs, fxs, fcs⟩⟩ := f
  obtain ⟨gk, gn, ga, gb, gvs, gxs, gcs⟩ := gy
  obtain ⟨zk, zn, za, zb, zvs, zxs, zcs⟩ := z
  dsimp only [fnAV] at hn
  refine PSpec.of Tryd.func63 rfl rfl rfl (Nat.le_of_ble_eq_true rfl) ?_
  show AWp _ _ (endQ _ Tryd.f63 _ _ _) (startAS 15 _)
  refine AWp.rg [] [] ?_ (hr := by conv => lhs; simp [fnAV, Fn.row, Tm.row, Tm.rows_eq, Cs.rows_eq])
  refine AWp.rg [] [.p (fun _ => .agg [.d (.str gg), .d (strsD gps), .d (.int gk), .d (.int gn), .d (.str ga), .d (.str gb), .d (strsD gvs), .d (.sl (gxs.map Tm.row)), .d (.sl (gcs.map Cs.row))]) none] ?_ (hr := by conv => lhs; simp [fnAV, Fn.row, Tm.row, Tm.rows_eq, Cs.rows_eq])
  refine AWp.rg [] [] ?_ (hr := by conv => lhs; simp [fnAV, Fn.row, Tm.row, Tm.rows_eq, Cs.rows_eq])
  refine AWp.rg [] [.c [(1000, 8)] [.ptr 1000 0, .agg [.d (.int gk), .d (.int gn), .d (.str ga), .d (.str gb), .d (strsD gvs), .d (.sl (gxs.map Tm.row)), .d (.sl (gcs.map Cs.row))]] [(1000, .blk 117 [.d (.int 0)])] (.agg [.d (.int zk), .d (.int zn), .d (.str za), .d (.str zb), .d (strsD zvs), .d (.sl (zxs.map Tm.row)), .d (.sl (zcs.map Cs.row))]) [(1000, .blk 117 [.d (.int c2)])]] ?_ (hr := by conv => lhs; simp [fnAV, Fn.row, Tm.row, Tm.rows_eq, Cs.rows_eq])
  refine AWp.rg [] [] ?_ (hr := by conv => lhs; simp [fnAV, Fn.row, Tm.row, Tm.rows_eq, Cs.rows_eq])
  refine AWp.ret ?_
  try dsimp only [thenQ, blockQ]
  apply endQ.ret
  · rfl
  · conv => lhs; simp [resAV, Tryd.results63]
  rfl
set_option maxRecDepth 20000 in
set_option maxHeartbeats 16000000 in
theorem sp_PlAll (l : List Fn) (hl : l.length ≤ 879609302220) (hall : ∀ f ∈ l, f.body.Ok ∧ f.body.Rt 25 ∧ f.params.length ≤ 6) : PSpec Tryd.prog 24 [fnsAV l] (fun _ => fnsAV (l.map Fn.pl)) none := by
  obtain ⟨G, hG⟩ : ∃ G, G = l.map Fn.pl := ⟨_, rfl⟩
  rw [← hG]
  refine PSpec.of Tryd.func24 rfl rfl rfl (Nat.le_of_ble_eq_true rfl) ?_
  show AWp _ _ (endQ _ Tryd.f24 _ _ _) (startAS 19 _)
  refine AWp.rg [] [] ?_ (hr := by conv => lhs; simp [Fn.row, Tm.row, Tm.rows_eq, Cs.rows_eq])
  refine AWp.rg [] [] ?_ (hr := by conv => lhs; simp [Fn.row, Tm.row, Tm.rows_eq, Cs.rows_eq])
  refine AWp.rg [] [] ?_ (hr := by conv => lhs; simp [Fn.row, Tm.row, Tm.rows_eq, Cs.rows_eq])
  repeat (first | refine AWp.seq ?_ | refine AWp.block ?_)
  refine AWp.le (Le.low [400] [] (fr := [(3, .arr 400 0 ([] : List Fn).length), (6, .d (.sl (l.map Fn.row))), (7, .d (.int (l.length : Int))), (8, .d (.int (0 : Int)))]) (mem := [(400, some (.arr 36 9 (([] : List Fn).map Fn.row)))]) rfl (by simp) (by simp)) ?_
  refine AWp.loop (σ := fun u : {u : Nat × List Fn // u.1 ≤ l.length ∧ u.2 = (l.take u.1).map Fn.pl} => ⟨19, [(3, .arr 400 0 u.1.2.length), (6, .d (.sl (l.map Fn.row))), (7, .d (.int (l.length : Int))), (8, .d (.int (u.1.1 : Int)))], [(400, some (.arr 36 9 (u.1.2.map Fn.row)))]⟩)
    (μ := fun u => l.length - u.1.1) ⟨(0, []), ⟨Nat.zero_le _, by simp⟩⟩ (Le.sub (by simp) (by simp)) (fun ⟨(i, gs), ⟨hi3, hw⟩⟩ => ?_)
  dsimp only at hi3 hw ⊢
  refine AWp.rg [] [] ?_ (hr := by conv => lhs; simp [Fn.row, Tm.row, Tm.rows_eq, Cs.rows_eq])
  repeat (first | refine AWp.seq ?_ | refine AWp.block ?_)
  refine AWp.cond rfl (fun hc => ?_) (fun hc => ?_)
  · have hi1 : i < l.length := by have := of_decide_eq_true hc; omega
    clear hc
    have h1f : l[i]? = some l[i] := List.getElem?_eq_getElem hi1
    have hmf : l[i] ∈ l := List.getElem_mem hi1
    have hdf : l.drop i = l[i] :: l.drop (i + 1) := List.drop_eq_getElem_cons hi1
    generalize l[i] = f at h1f hmf hdf
    have hgl : gs.length = i := by rw [hw, List.length_map, List.length_take]; omega
    obtain ⟨k1, k2, k3⟩ := hall f hmf
    have hx := sp_PlFn f k1 k2 k3
    generalize hz : f.pl = z at hx
    obtain ⟨fg, fps, ⟨fk, fn, fa, fb, fvs, fxs, fcs⟩⟩ := f
    obtain ⟨zg, zps, ⟨zk, zn, za, zb, zvs, zxs, zcs⟩⟩ := z
    dsimp only [fnAV] at hx
    refine AWp.skip ?_
    refine AWp.rg [] [] ?_ (hr := by conv => lhs; simp [Fn.row, Tm.row, Tm.rows_eq, Cs.rows_eq, h1f])
    refine AWp.rg [] [.p (fun _ => .agg [.d (.str zg), .d (strsD zps), .d (.int zk), .d (.int zn), .d (.str za), .d (.str zb), .d (strsD zvs), .d (.sl (zxs.map Tm.row)), .d (.sl (zcs.map Cs.row))]) none] ?_ (hr := by conv => lhs; simp [Fn.row, Tm.row, Tm.rows_eq, Cs.rows_eq, h1f])
    refine AWp.rg [] [] ?_ (hr := by conv => lhs; simp [Fn.row, Tm.row, Tm.rows_eq, Cs.rows_eq, h1f])
    refine ⟨⟨(i + 1, gs ++ [⟨zg, zps, .mk zk zn za zb zvs zxs zcs⟩]), hi1, by rw [hw, List.take_add_one, h1f, List.map_append, ← hz]; rfl⟩, by simp; omega, ?_⟩
    dsimp only
    exact Le.sub (by simp [Fn.row, Tm.row, Tm.rows_eq, Cs.rows_eq, hgl]) (by simp [Fn.row, Tm.row, Tm.rows_eq, Cs.rows_eq, hgl])
  have hi1 : i = l.length := by have := of_decide_eq_false hc; omega
  subst hi1
  clear hc
  rw [List.take_length] at hw
  obtain rfl : gs = G := by rw [hw, hG]
  refine AWp.exit ?_
  refine AWp.rg [] [] ?_ (hr := by conv => lhs; simp [Fn.row, Tm.row, Tm.rows_eq, Cs.rows_eq])
  refine AWp.ret ?_
  try dsimp only [thenQ, blockQ]
  apply endQ.retF [400]
  · rfl
  · conv => lhs; simp
  · conv => lhs; simp [resAV, Tryd.results24]
  rfl
end Go.Proofs.YtapiiklnnkkdlaaDoor

namespace Go.Proofs.YtapiiklnnkkdlaaDoor
open Go.RowKit
set_option linter.unusedVariables false
set_option linter.unusedSimpArgs false
theorem around_ok : ∀ (bs : Bs) (t : Tm), (∀ b ∈ bs, b.1.size ≤ 140737488355328 ∧ b.2.Ok) → t.Ok → (around bs t).Ok
  | [], _, _, h => h
  | b :: r, t, hb, h => by
    have h1 := around_ok r t (fun x hx => hb x (List.mem_cons_of_mem _ hx)) h
    obtain ⟨h2, h3⟩ := hb b (List.mem_cons_self ..)
    exact ⟨⟨h2, by simp, by simp⟩, ⟨by simp, by simp, by simp⟩, ⟨h3, h1, trivial⟩, trivial⟩
theorem varT_ok {s : ByteArray} (h : s.size ≤ 140737488355328) : (varT s).Ok :=
  ⟨⟨h, by simp, by simp⟩, ⟨by simp, by simp, by simp⟩, trivial, trivial⟩
theorem pl_ok : ∀ (d : Nat) (t : Tm) (c : Int), t.Rt d → t.Ok → (t.pl c).1.Ok := by
  intro d
  induction d with
  | zero => intro t _ h; exact h.elim
  | succ d ih =>
  intro t c hR hO
  obtain ⟨k, n, a, b, vs, xs, cs⟩ := t
  obtain ⟨_, _, _, hx, hc⟩ := hR
  obtain ⟨⟨o1, o2, o3⟩, ⟨o4, o5, o6⟩, o7, o8⟩ := hO
  have o7' := Tm.Oks_iff.1 o7
  have o8' := Cs.Oks_iff.1 o8
  have hA : ∀ (ys : List Tm) (c : Int), (∀ y ∈ ys, y ∈ xs) → Tm.Oks (Tm.ats ys c).1 ∧ ∀ b ∈ (Tm.ats ys c).2.1, b.1.size ≤ 140737488355328 ∧ b.2.Ok := by
    intro ys
    induction ys with
    | nil => intro c _; exact ⟨trivial, fun b h => by simp [Tm.ats] at h⟩
    | cons y r ih2 =>
      intro c hm
      have hy := hm y (List.mem_cons_self ..)
      rw [Tm.ats]
      split
      · obtain ⟨h1, h2⟩ := ih2 c fun z hz => hm z (List.mem_cons_of_mem _ hz)
        exact ⟨⟨o7' y hy, h1⟩, h2⟩
      · obtain ⟨h1, h2⟩ := ih2 (y.pl (wr (c + 1))).2 fun z hz => hm z (List.mem_cons_of_mem _ hz)
        refine ⟨⟨varT_ok (wNm_le _), h1⟩, fun b hb => ?_⟩
        rcases List.mem_cons.1 hb with rfl | hb
        · exact ⟨wNm_le _, ih y _ (hx y hy) (o7' y hy)⟩
        · exact h2 b hb
  have hL : ∀ (ys : List Tm) (c : Int), (∀ y ∈ ys, y ∈ xs) → Tm.Oks (Tm.plL ys c).1 ∧ (Tm.plL ys c).1.length = ys.length := by
    intro ys
    induction ys with
    | nil => intro c _; exact ⟨trivial, rfl⟩
    | cons y r ih2 =>
      intro c hm
      have hy := hm y (List.mem_cons_self ..)
      obtain ⟨h1, h2⟩ := ih2 (y.pl c).2 fun z hz => hm z (List.mem_cons_of_mem _ hz)
      rw [Tm.plL]
      exact ⟨⟨ih y c (hx y hy) (o7' y hy), h1⟩, by simp [h2]⟩
  have hC : ∀ (ys : List Cs) (c : Int), (∀ y ∈ ys, y ∈ cs) → Cs.Oks (Cs.plL ys c).1 ∧ (Cs.plL ys c).1.length = ys.length := by
    intro ys
    induction ys with
    | nil => intro c _; exact ⟨trivial, rfl⟩
    | cons y r ih2 =>
      intro c hm
      have hy := hm y (List.mem_cons_self ..)
      obtain ⟨h1, h2⟩ := ih2 (y.pl c).2 fun z hz => hm z (List.mem_cons_of_mem _ hz)
      obtain ⟨t, ws, y⟩ := y
      obtain ⟨_, hyR⟩ := hc _ hy
      obtain ⟨p1, p2, p3⟩ := o8' _ hy
      rw [Cs.plL]
      rw [Cs.pl] at h1 h2 ⊢
      exact ⟨⟨⟨p1, p2, ih y c hyR p3⟩, h1⟩, by simp [h2]⟩
  rw [Tm.pl]
  split
  · obtain ⟨h1, h2⟩ := hA xs c fun y hy => hy
    refine around_ok _ _ h2 ⟨⟨o1, by simp, by simp⟩, ⟨by simp, by rw [ats_len]; exact o5, by simp⟩, h1, trivial⟩
  split
  · obtain ⟨h1, h2⟩ := hL xs c fun y hy => hy
    exact ⟨⟨o1, by simp, by simp⟩, ⟨by simp, by rw [h2]; exact o5, by simp⟩, h1, trivial⟩
  split
  · obtain ⟨h1, h2⟩ := hA xs c fun y hy => hy
    obtain ⟨h3, h4⟩ := hC cs (Tm.ats xs c).2.2 fun y hy => hy
    exact around_ok _ _ h2 ⟨⟨by simp, by simp, by simp⟩, ⟨by simp, by rw [ats_len]; exact o5, by rw [h4]; exact o6⟩, h1, h3⟩
  · exact ⟨⟨o1, o2, o3⟩, ⟨o4, o5, o6⟩, o7, o8⟩
theorem Fn.pl_ok (f : Fn) (hb : f.body.Ok) (hr : f.body.Rt 25) (hp : f.params.length ≤ 6) : f.pl.body.Ok ∧ f.pl.params.length ≤ 6 :=
  ⟨Go.Proofs.YtapiiklnnkkdlaaDoor.pl_ok 25 _ 0 (f.rn_rt hr) (f.rn_ok hb hr), by unfold Fn.pl Fn.rn; dsimp only; rw [freshL_len]; exact hp⟩
mutual
def Tm.isP : Tm → Bool
  | .mk k _ _ _ _ xs cs => Tm.isL k xs && Cs.isL cs
def Tm.isL (k : Int) : List Tm → Bool
  | [] => true
  | x :: r => (if k = 6 then x.isP else decide (x.tk = 1)) && Tm.isL k r
def Cs.isL : List Cs → Bool
  | [] => true
  | c :: r => c.isP && Cs.isL r
def Cs.isP : Cs → Bool
  | .mk _ _ y => y.isP
end
end Go.Proofs.YtapiiklnnkkdlaaDoor
