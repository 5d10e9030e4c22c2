import Derived.Test.YtapiiklnnkkdlaaDoorTextD
/- text's reader: term. Printed by a small program. -/
namespace Go.Proofs.YtapiiklnnkkdlaaDoor
open Go.RowKit
attribute [local simp] runD mkRc ldOf stOf stOk ldArg noAny dstOk guardOk opEff opEff0 effOp pureOp callOp zEff evA constAV scalAV Value.oneCell' frGet memGet startAS frOf isGoCall idIn AS.after nextR opnIds objIds AV.ids idsL AObj.ids frNo memNo opnAny isAny mkVal rdCells wrCells fldAddr idxAddr srcRows litRows toD1 toDs setAt sliceAV optI partAV bldAV fillAV binAV binI AV.cells callEff calleeOf frKill memKill AV.kill AObj.kill AV.has AV.hasL Op.operands Call.operands keepF keepM viewIds cChk renOf moGet moWs moQ cEff moLike moHave AV.ren renL AObj.ren AObj.like kept startC moMem AV.frz frz1 frzL frSub memSub frzs AS.frz frFrz memFrz AObj.frz takeMap takeLen bleF Nat.ble_eq memAny objAny mapOp D.keyOk rowAV valRow extOp wrapOp phO
set_option linter.unusedVariables false
set_option linter.unusedSimpArgs false
theorem tsharp_zero {w : ByteArray} (h : w.size = 0) : sharp w = false := by
  rw [bsize_zero h]; rfl
theorem prim_at : ∀ (i : Nat) (x : ByteArray), primsL[i]? = some x → primI x primsL 0 0 = (i : Int) + 1 := by
  intro i x h
  rcases i with _ | _ | _ | _ | _ | i <;> simp [primsL] at h <;> subst h <;> decide
theorem prim_none {w : ByteArray} (h : ∀ x ∈ primsL, ¬ w = x) : primI w primsL 0 0 = 0 := by
  simp only [primsL, List.mem_cons, List.not_mem_nil, or_false, forall_eq_or_imp, forall_eq] at h
  obtain ⟨h1, h2, h3, h4, h5⟩ := h
  simp only [primsL, primI, if_neg h1, if_neg h2, if_neg h3, if_neg h4, if_neg h5]
set_option maxRecDepth 20000 in
set_option maxHeartbeats 16000000 in
theorem sp_prims : PSpec Tryd.prog 99 [] (fun _ => strsAV primsL) none := by
  show PSpec Tryd.prog 99 [] (fun _ => .d (.sl [[.str ⟨#[43]⟩], [.str ⟨#[45]⟩], [.str ⟨#[42]⟩], [.str ⟨#[60]⟩], [.str ⟨#[61]⟩]])) none
  refine PSpec.of Tryd.func99 rfl rfl rfl (Nat.le_of_ble_eq_true rfl) ?_
  show AWp _ _ (endQ _ Tryd.f99 _ _ _) (startAS 2 _)
  refine AWp.rg [] [] ?_
  refine AWp.rg [0] [] ?_
  refine AWp.ret ?_
  try dsimp only [thenQ, blockQ]
  apply endQ.ret
  · rfl
  · conv => lhs; simp [resAV, Tryd.results99]
  rfl
set_option maxRecDepth 20000 in
set_option maxHeartbeats 16000000 in
theorem cs_tterm0 (N : Nat) : TermT N 0 := by
  intro l e hN hl
  rw [Tm.ts]
  unfold badT
  dsimp only
  show CSpec Tryd.prog 89 [.ptr 1000 0, .d (.int 25)] _ _ _
  unfold rO at *
  refine CSpec.of Tryd.func89 rfl rfl (Nat.le_of_ble_eq_true rfl) ?_
  show AWp _ _ (endC _ Tryd.f89 _ _) (startC 131 _ _)
  refine AWp.rg [] [] ?_
  refine AWp.rg [] [] ?_
  refine AWp.cy ?_
  have hbd := cs_tfail l e 9
  refine AWp.rg [] [.c [] [.ptr 1000 0, .d (.int 9)] [(1000, .blk 95 [.d (strsD l), .d (.int e)])] (.tuple []) [(1000, .blk 95 [.d (strsD l), .d (.int (badE e 9))])]] ?_
  refine AWp.rg [] [] ?_
  refine AWp.ret ?_
  try dsimp only [thenQ, blockQ]
  apply endC.ret
  · rfl
  · conv => lhs; simp [resAV, Tryd.results89]
  · first | rfl | simp [resVal, tmAV, Tm.row, Tm.rows_eq, Cs.rows_eq, AV.nilD, nilDL, strsD]
  · simp [moEnd, memGet]
set_option maxRecDepth 20000 in
set_option maxHeartbeats 16000000 in
theorem cs_ttermS (N n : Nat) (dp : Int) (l : List ByteArray) (e : Int) (hN : l.length + 1 < N) (hNm : N ≤ 1600) (hl : Lok l) (hd0 : 0 ≤ dp) (hd1 : dp ≤ 24) (hdp : dp + 1 = 25 - (n : Int)) (hT : TermT N n) :
    CSpec Tryd.prog 89 [.ptr 1000 0, .d (.int dp)] [(1000, rO l e)] (tmAV (Tm.ts N (n + 1) (l, e)).1) [(1000, rO (Tm.ts N (n + 1) (l, e)).2.1 (Tm.ts N (n + 1) (l, e)).2.2)] := by
  have hd24 : ¬ 24 < dp := by omega
  have hx : ∀ (l : List ByteArray) (e : Int), l.length + 1 < N → Lok l → CSpec Tryd.prog 89 [.ptr 1000 0, .d (.int (dp + 1))] [(1000, rO l e)] (tmAV (Tm.ts N n (l, e)).1) [(1000, rO (Tm.ts N n (l, e)).2.1 (Tm.ts N n (l, e)).2.2)] := fun l e h1 h2 => by
    rw [hdp]
    exact hT l e h1 h2
  obtain ⟨R, hR⟩ : ∃ R, R = Tm.ts N (n + 1) (l, e) := ⟨_, rfl⟩
  rw [← hR]
  rw [Tm.ts] at hR
  dsimp only at hR
  unfold rO at *
  refine CSpec.of Tryd.func89 rfl rfl (Nat.le_of_ble_eq_true rfl) ?_
  show AWp _ _ (endC _ Tryd.f89 _ _) (startC 131 _ _)
  refine AWp.rg [] [] ?_ (hr := by conv => lhs; simp [Tm.row, Tm.rows_eq, Cs.rows_eq, hd24])
  refine AWp.rg [] [] ?_ (hr := by conv => lhs; simp [Tm.row, Tm.rows_eq, Cs.rows_eq, hd24])
  refine AWp.cn ?_
  refine AWp.skip ?_
  have hnx := cs_tnext l e hl.len
  have hWz := hl.hd
  obtain ⟨W, hW⟩ : ∃ W, W = hdT l := ⟨_, rfl⟩
  rw [← hW] at hnx hWz hR
  by_cases q1 : W = ⟨#[40]⟩
  · have q1t := eq_true q1
    refine AWp.rg [] [.c [] [.ptr 1000 0] [(1000, .blk 95 [.d (strsD l), .d (.int e)])] (.d (.str W)) [(1000, .blk 95 [.d (strsD l), .d (.int e)])]] ?_ (hr := by conv => lhs; simp [Tm.row, Tm.rows_eq, Cs.rows_eq, hd24, q1t])
    refine AWp.cn ?_
    refine AWp.skip ?_
    rw [if_pos q1] at hR
    have htk := cs_take l e hl.len
    rw [← hW] at htk
    have hav := (nxT_av (l, e)).toTst
    generalize nxT (l, e) = p2 at htk hR hav
    obtain ⟨l2, e2⟩ := p2
    have o2 : Lok l2 := Lok.of (p := (l, e)) hl hav
    have n2 := hav.le
    dsimp only at htk hR n2
    have hnx2 := cs_tnext l2 e2 o2.len
    have hWz2 := o2.hd
    rw [formT] at hR
    dsimp only at hR
    obtain ⟨W2, hW2⟩ : ∃ W, W = hdT l2 := ⟨_, rfl⟩
    rw [← hW2] at hnx2 hWz2 hR
    refine AWp.rg [] [.c [] [.ptr 1000 0] [(1000, .blk 95 [.d (strsD l), .d (.int e)])] (.d (.str W)) [(1000, .blk 95 [.d (strsD l2), .d (.int e2)])]] ?_ (hr := by conv => lhs; simp [Tm.row, Tm.rows_eq, Cs.rows_eq, hd24, q1t])
    refine AWp.rg [] [.c [] [.ptr 1000 0] [(1000, .blk 95 [.d (strsD l2), .d (.int e2)])] (.d (.str W2)) [(1000, .blk 95 [.d (strsD l2), .d (.int e2)])]] ?_ (hr := by conv => lhs; simp [Tm.row, Tm.rows_eq, Cs.rows_eq, hd24, q1t])
    by_cases hz : W2 = ⟨#[]⟩
    · have hzt := eq_true hz
      have hsh : sharp W2 = false := tsharp_zero (by rw [hz]; rfl)
      refine AWp.rg [] [] ?_ (hr := by conv => lhs; simp [Tm.row, Tm.rows_eq, Cs.rows_eq, hd24, q1t, hzt])
      refine AWp.cn ?_
      by_cases q2 : W2 = ⟨#[108, 101, 116]⟩
      · have q2t := eq_true q2
        refine AWp.rg [] [] ?_ (hr := by conv => lhs; simp [Tm.row, Tm.rows_eq, Cs.rows_eq, hd24, q1t, hzt, q2t])
        refine AWp.cy ?_
        rw [if_neg (by rw [hsh]; exact Bool.false_ne_true), if_pos q2] at hR
        have htk2 := cs_take l2 e2 o2.len
        rw [← hW2] at htk2
        have hav2 := (nxT_av (l2, e2)).toTst
        generalize nxT (l2, e2) = p4 at htk2 hR hav2
        obtain ⟨l4, e4⟩ := p4
        have o4 : Lok l4 := Lok.of (p := (l2, e2)) o2 hav2
        have n4 := hav2.le
        dsimp only at htk2 hR n4
        have hnm := cs_tname l4 e4 o4.len (fun s hs => sp_tName s (by omega)) o4.hd
        have hav5 := (namT_av (l4, e4)).toTst
        generalize namT (l4, e4) = z5 at hnm hav5 hR
        obtain ⟨nm, l5, e5⟩ := z5
        have o5 : Lok l5 := Lok.of (p := (l4, e4)) o4 hav5
        have n5 := hav5.le
        dsimp only at hnm hR n5
        have hg1 := hx l5 e5 (by omega) o5
        have hv1 := (ts_av N n (l5, e5)).toTst
        generalize Tm.ts N n (l5, e5) = z1 at hg1 hv1 hR
        obtain ⟨x, l6, e6⟩ := z1
        have ol6 : Lok l6 := Lok.of (p := (l5, e5)) o5 hv1
        have nl6 := hv1.le
        obtain ⟨xk, xn, xa, xb, xvs, xxs, xcs⟩ := x
        dsimp only [tmAV] at hg1 hR nl6
        have hg2 := hx l6 e6 (by omega) ol6
        have hv2 := (ts_av N n (l6, e6)).toTst
        generalize Tm.ts N n (l6, e6) = z2 at hg2 hv2 hR
        obtain ⟨y, l7, e7⟩ := z2
        have ol7 : Lok l7 := Lok.of (p := (l6, e6)) ol6 hv2
        have nl7 := hv2.le
        obtain ⟨yk, yn, ya, yb, yvs, yxs, ycs⟩ := y
        dsimp only [tmAV] at hg2 hR nl7
        have hwt := cs_must l7 rbr e7 ol7.len
        generalize wantT rbr (l7, e7) = z9 at hwt hR
        obtain ⟨l8, e8⟩ := z9
        dsimp only at hwt hR
        rw [hR]
        dsimp only
        refine AWp.rg [] [.c [] [.ptr 1000 0] [(1000, .blk 95 [.d (strsD l2), .d (.int e2)])] (.d (.str W2)) [(1000, .blk 95 [.d (strsD l4), .d (.int e4)])]] ?_ (hr := by conv => lhs; simp [Tm.row, Tm.rows_eq, Cs.rows_eq, hd24, q1t, q2t])
        refine AWp.rg [] [.c [] [.ptr 1000 0] [(1000, .blk 95 [.d (strsD l4), .d (.int e4)])] (.d (.str nm)) [(1000, .blk 95 [.d (strsD l5), .d (.int e5)])]] ?_ (hr := by conv => lhs; simp [Tm.row, Tm.rows_eq, Cs.rows_eq, hd24, q1t, q2t])
        refine AWp.rg [8] [.c [] [.ptr 1000 0, .d (.int (dp + 1))] [(1000, .blk 95 [.d (strsD l5), .d (.int e5)])] (.agg [.d (.int xk), .d (.int xn), .d (.str xa), .d (.str xb), .d (strsD xvs), .d (.sl (xxs.map Tm.row)), .d (.sl (xcs.map Cs.row))]) [(1000, .blk 95 [.d (strsD l6), .d (.int e6)])], .c [] [.ptr 1000 0, .d (.int (dp + 1))] [(1000, .blk 95 [.d (strsD l6), .d (.int e6)])] (.agg [.d (.int yk), .d (.int yn), .d (.str ya), .d (.str yb), .d (strsD yvs), .d (.sl (yxs.map Tm.row)), .d (.sl (ycs.map Cs.row))]) [(1000, .blk 95 [.d (strsD l7), .d (.int e7)])]] ?_ (hr := by conv => lhs; simp [Tm.row, Tm.rows_eq, Cs.rows_eq, hd24, q1t, q2t])
        refine AWp.rg [] [.c [] [.ptr 1000 0, .d (.str (⟨#[41]⟩))] [(1000, .blk 95 [.d (strsD l7), .d (.int e7)])] (.tuple []) [(1000, .blk 95 [.d (strsD l8), .d (.int e8)])]] ?_ (hr := by conv => lhs; simp [Tm.row, Tm.rows_eq, Cs.rows_eq, hd24, q1t, q2t])
        refine AWp.rg [] [] ?_ (hr := by conv => lhs; simp [Tm.row, Tm.rows_eq, Cs.rows_eq, hd24, q1t, q2t])
        refine AWp.ret ?_
        try dsimp only [thenQ, blockQ]
        apply endC.ret
        · rfl
        · conv => lhs; simp [resAV, Tryd.results89]
        · first | rfl | simp [resVal, tmAV, Tm.row, Tm.rows_eq, Cs.rows_eq, AV.nilD, nilDL, strsD]
        · simp [moEnd, memGet]
      refine AWp.rg [] [] ?_ (hr := by conv => lhs; simp [Tm.row, Tm.rows_eq, Cs.rows_eq, hd24, q1t, hzt, q2])
      refine AWp.cn ?_
      by_cases q3 : W2 = ⟨#[109, 97, 116, 99, 104]⟩
      · have q3t := eq_true q3
        refine AWp.rg [] [] ?_ (hr := by conv => lhs; simp [Tm.row, Tm.rows_eq, Cs.rows_eq, hd24, q1t, hzt, q2, q3t])
        refine AWp.cy ?_
        rw [if_neg (by rw [hsh]; exact Bool.false_ne_true), if_neg q2, if_pos q3] at hR
        have htk2 := cs_take l2 e2 o2.len
        rw [← hW2] at htk2
        have hav2 := (nxT_av (l2, e2)).toTst
        generalize nxT (l2, e2) = p4 at htk2 hR hav2
        obtain ⟨l4, e4⟩ := p4
        have o4 : Lok l4 := Lok.of (p := (l2, e2)) o2 hav2
        have n4 := hav2.le
        dsimp only at htk2 hR n4
        have hg1 := hx l4 e4 (by omega) o4
        have hv1 := (ts_av N n (l4, e4)).toTst
        generalize Tm.ts N n (l4, e4) = z1 at hg1 hv1 hR
        obtain ⟨x, l6, e6⟩ := z1
        have ol6 : Lok l6 := Lok.of (p := (l4, e4)) o4 hv1
        have nl6 := hv1.le
        obtain ⟨xk, xn, xa, xb, xvs, xxs, xcs⟩ := x
        dsimp only [tmAV] at hg1 hR nl6
        have hmn := cs_cases l6 e6 N n hT (by omega) hNm ol6
        rw [← hdp] at hmn
        generalize manyT (casT N (Tm.ts N n)) N (l6, e6) = y at hmn hR
        obtain ⟨us, l7, e7⟩ := y
        dsimp only at hmn hR
        rw [hR]
        dsimp only
        refine AWp.rg [] [.c [] [.ptr 1000 0] [(1000, .blk 95 [.d (strsD l2), .d (.int e2)])] (.d (.str W2)) [(1000, .blk 95 [.d (strsD l4), .d (.int e4)])]] ?_ (hr := by conv => lhs; simp [Tm.row, Tm.rows_eq, Cs.rows_eq, hd24, q1t, q2, q3t])
        refine AWp.rg [4] [.c [] [.ptr 1000 0, .d (.int (dp + 1))] [(1000, .blk 95 [.d (strsD l4), .d (.int e4)])] (.agg [.d (.int xk), .d (.int xn), .d (.str xa), .d (.str xb), .d (strsD xvs), .d (.sl (xxs.map Tm.row)), .d (.sl (xcs.map Cs.row))]) [(1000, .blk 95 [.d (strsD l6), .d (.int e6)])]] ?_ (hr := by conv => lhs; simp [Tm.row, Tm.rows_eq, Cs.rows_eq, hd24, q1t, q2, q3t])
        refine AWp.rg [] [.c [] [.ptr 1000 0, .d (.int (dp + 1))] [(1000, .blk 95 [.d (strsD l6), .d (.int e6)])] (.d (.sl (us.map Cs.row))) [(1000, .blk 95 [.d (strsD l7), .d (.int e7)])]] ?_ (hr := by conv => lhs; simp [Tm.row, Tm.rows_eq, Cs.rows_eq, hd24, q1t, q2, q3t])
        refine AWp.rg [] [] ?_ (hr := by conv => lhs; simp [Tm.row, Tm.rows_eq, Cs.rows_eq, hd24, q1t, q2, q3t])
        refine AWp.ret ?_
        try dsimp only [thenQ, blockQ]
        apply endC.ret
        · rfl
        · conv => lhs; simp [resAV, Tryd.results89]
        · first | rfl | simp [resVal, tmAV, Tm.row, Tm.rows_eq, Cs.rows_eq, AV.nilD, nilDL, strsD]
        · simp [moEnd, memGet]
      refine AWp.rg [] [] ?_ (hr := by conv => lhs; simp [Tm.row, Tm.rows_eq, Cs.rows_eq, hd24, q1t, hzt, q2, q3])
      refine AWp.cn ?_
      refine AWp.skip ?_
      obtain ⟨PL, hPL⟩ : ∃ PL, PL = primsL := ⟨_, rfl⟩
      have hpr := sp_prims
      rw [← hPL] at hpr
      have hPLl : PL.length = 5 := by rw [hPL]; rfl
      refine AWp.rg [] [.p (fun _ => .d (strsD PL)) none] ?_ (hr := by conv => lhs; simp [Tm.row, Tm.rows_eq, Cs.rows_eq, hd24, q1t, q2, q3])
      repeat (first | refine AWp.seq ?_ | refine AWp.block ?_)
      refine AWp.loop (σ := fun u : {u : Nat // u ≤ PL.length ∧ ∀ y ∈ PL.take u, ¬ W2 = y} => ⟨131, [(0, .ptr 1000 0), (1, .d (.int dp)), (4, .ptr 4 0), (8, .d (.str W2)), (96, .d (strsD PL)), (97, .d (.int (PL.length : Int))), (98, .d (.int (u.1 : Int)))], [(4, some (.blk 34 [.d (.int 0), .d (.int 0), .d (.str ByteArray.empty), .d (.str ByteArray.empty), .lit (.slice none 0 0), .lit (.slice none 0 0), .lit (.slice none 0 0)])), (1000, some (.blk 95 [.d (strsD l2), .d (.int e2)]))]⟩)
        (μ := fun u => PL.length - u.1) ⟨0, ⟨Nat.zero_le _, by simp⟩⟩ (Le.sub (by simp) (by simp)) (fun ⟨i, ⟨hi28, hw⟩⟩ => ?_)
      dsimp only
      refine AWp.rg [] [] ?_ (hr := by conv => lhs; simp [Tm.row, Tm.rows_eq, Cs.rows_eq, hd24, q1t, q2, q3])
      repeat (first | refine AWp.seq ?_ | refine AWp.block ?_)
      refine AWp.cond rfl (fun hc => ?_) (fun hc => ?_)
      · have hi1 : i < PL.length := by have := of_decide_eq_true hc; omega
        clear hc
        have h1x : PL[i]? = some PL[i] := List.getElem?_eq_getElem hi1
        have hmx : PL[i] ∈ PL := List.getElem_mem hi1
        have hdx : PL.drop i = PL[i] :: PL.drop (i + 1) := List.drop_eq_getElem_cons hi1
        generalize PL[i] = x at h1x hmx hdx
        refine AWp.skip ?_
        refine AWp.rg [] [] ?_ (hr := by conv => lhs; simp [Tm.row, Tm.rows_eq, Cs.rows_eq, h1x, hd24, q1t, q2, q3])
        by_cases q4 : W2 = x
        · have q4t := eq_true q4
          refine AWp.rg [] [] ?_ (hr := by conv => lhs; simp [Tm.row, Tm.rows_eq, Cs.rows_eq, h1x, hd24, q1t, q2, q3, q4t])
          refine AWp.cy ?_
          have hpi : primI W2 primsL 0 0 = (i : Int) + 1 := by
            rw [q4]
            exact prim_at i x (by rw [← hPL]; exact h1x)
          rw [if_neg (by rw [hsh]; exact Bool.false_ne_true), if_neg q2, if_neg q3, hpi, if_pos (by omega)] at hR
          have htk2 := cs_take l2 e2 o2.len
          rw [← hW2] at htk2
          have hav2 := (nxT_av (l2, e2)).toTst
          generalize nxT (l2, e2) = p4 at htk2 hR hav2
          obtain ⟨l4, e4⟩ := p4
          have o4 : Lok l4 := Lok.of (p := (l2, e2)) o2 hav2
          have n4 := hav2.le
          dsimp only at htk2 hR n4
          have hg1 := hx l4 e4 (by omega) o4
          have hv1 := (ts_av N n (l4, e4)).toTst
          generalize Tm.ts N n (l4, e4) = z1 at hg1 hv1 hR
          obtain ⟨u, l6, e6⟩ := z1
          have ol6 : Lok l6 := Lok.of (p := (l4, e4)) o4 hv1
          have nl6 := hv1.le
          obtain ⟨uk, un, ua, ub, uvs, uxs, ucs⟩ := u
          dsimp only [tmAV] at hg1 hR nl6
          have hg2 := hx l6 e6 (by omega) ol6
          have hv2 := (ts_av N n (l6, e6)).toTst
          generalize Tm.ts N n (l6, e6) = z2 at hg2 hv2 hR
          obtain ⟨y, l7, e7⟩ := z2
          have ol7 : Lok l7 := Lok.of (p := (l6, e6)) ol6 hv2
          have nl7 := hv2.le
          obtain ⟨yk, yn, ya, yb, yvs, yxs, ycs⟩ := y
          dsimp only [tmAV] at hg2 hR nl7
          have hwt := cs_must l7 rbr e7 ol7.len
          generalize wantT rbr (l7, e7) = z9 at hwt hR
          obtain ⟨l8, e8⟩ := z9
          dsimp only at hwt hR
          rw [hR]
          dsimp only
          refine AWp.rg [] [.c [] [.ptr 1000 0] [(1000, .blk 95 [.d (strsD l2), .d (.int e2)])] (.d (.str W2)) [(1000, .blk 95 [.d (strsD l4), .d (.int e4)])]] ?_ (hr := by conv => lhs; simp [Tm.row, Tm.rows_eq, Cs.rows_eq, h1x, hd24, q1t, q2, q3, q4t])
          refine AWp.rg [10] [.c [] [.ptr 1000 0, .d (.int (dp + 1))] [(1000, .blk 95 [.d (strsD l4), .d (.int e4)])] (.agg [.d (.int uk), .d (.int un), .d (.str ua), .d (.str ub), .d (strsD uvs), .d (.sl (uxs.map Tm.row)), .d (.sl (ucs.map Cs.row))]) [(1000, .blk 95 [.d (strsD l6), .d (.int e6)])], .c [] [.ptr 1000 0, .d (.int (dp + 1))] [(1000, .blk 95 [.d (strsD l6), .d (.int e6)])] (.agg [.d (.int yk), .d (.int yn), .d (.str ya), .d (.str yb), .d (strsD yvs), .d (.sl (yxs.map Tm.row)), .d (.sl (ycs.map Cs.row))]) [(1000, .blk 95 [.d (strsD l7), .d (.int e7)])]] ?_ (hr := by conv => lhs; simp [Tm.row, Tm.rows_eq, Cs.rows_eq, h1x, hd24, q1t, q2, q3, q4t])
          refine AWp.rg [] [.c [] [.ptr 1000 0, .d (.str (⟨#[41]⟩))] [(1000, .blk 95 [.d (strsD l7), .d (.int e7)])] (.tuple []) [(1000, .blk 95 [.d (strsD l8), .d (.int e8)])]] ?_ (hr := by conv => lhs; simp [Tm.row, Tm.rows_eq, Cs.rows_eq, h1x, hd24, q1t, q2, q3, q4t])
          refine AWp.rg [] [] ?_ (hr := by conv => lhs; simp [Tm.row, Tm.rows_eq, Cs.rows_eq, h1x, hd24, q1t, q2, q3, q4t])
          refine AWp.ret ?_
          try dsimp only [thenQ, blockQ]
          apply endC.ret
          · rfl
          · conv => lhs; simp [resAV, Tryd.results89]
          · first | rfl | simp [resVal, tmAV, Tm.row, Tm.rows_eq, Cs.rows_eq, AV.nilD, nilDL, strsD]
          · simp [moEnd, memGet]
        refine AWp.rg [] [] ?_ (hr := by conv => lhs; simp [Tm.row, Tm.rows_eq, Cs.rows_eq, h1x, hd24, q1t, q2, q3, q4])
        refine AWp.cn ?_
        refine AWp.skip ?_
        refine AWp.rg [] [] ?_ (hr := by conv => lhs; simp [Tm.row, Tm.rows_eq, Cs.rows_eq, h1x, hd24, q1t, q2, q3, q4])
        refine ⟨⟨i + 1, hi1, fun y hy => by
            rw [List.take_add_one, h1x] at hy
            rcases List.mem_append.1 hy with h | h
            · exact hw y h
            · rw [Option.toList_some, List.mem_singleton] at h
              rw [h]; exact q4⟩, by simp; omega, ?_⟩
        dsimp only
        exact Le.sub (by simp) (by simp)
      have hi1 : i = PL.length := by have := of_decide_eq_false hc; omega
      subst hi1
      clear hc
      rw [List.take_length] at hw
      have hp0 := prim_none (w := W2) (fun x hx => hw x (by rw [hPL]; exact hx))
      refine AWp.exit ?_
      rw [if_neg (by rw [hsh]; exact Bool.false_ne_true), if_neg q2, if_neg q3, hp0, if_neg (by decide)] at hR
      have hnm := cs_tname l2 e2 o2.len (fun s hs => sp_tName s (by omega)) o2.hd
      have hav5 := (namT_av (l2, e2)).toTst
      generalize namT (l2, e2) = z5 at hnm hav5 hR
      obtain ⟨nm, l5, e5⟩ := z5
      have o5 : Lok l5 := Lok.of (p := (l2, e2)) o2 hav5
      have n5 := hav5.le
      dsimp only at hnm hR n5
      have hmn := cs_terms l5 e5 N n hT (by omega) hNm o5
      rw [← hdp] at hmn
      generalize manyT (Tm.ts N n) N (l5, e5) = y at hmn hR
      obtain ⟨us, l6, e6⟩ := y
      dsimp only [tmsAV] at hmn hR
      rw [hR]
      dsimp only
      refine AWp.rg [] [.c [] [.ptr 1000 0] [(1000, .blk 95 [.d (strsD l2), .d (.int e2)])] (.d (.str nm)) [(1000, .blk 95 [.d (strsD l5), .d (.int e5)])], .c [] [.ptr 1000 0, .d (.int (dp + 1))] [(1000, .blk 95 [.d (strsD l5), .d (.int e5)])] (.d (.sl (us.map Tm.row))) [(1000, .blk 95 [.d (strsD l6), .d (.int e6)])]] ?_ (hr := by conv => lhs; simp [Tm.row, Tm.rows_eq, Cs.rows_eq, hd24, q1t, q2, q3])
      refine AWp.ret ?_
      try dsimp only [thenQ, blockQ]
      apply endC.ret
      · rfl
      · conv => lhs; simp [resAV, Tryd.results89]
      · first | rfl | simp [resVal, tmAV, Tm.row, Tm.rows_eq, Cs.rows_eq, AV.nilD, nilDL, strsD]
      · simp [moEnd, memGet]
    have hs0 : 0 < W2.size := Nat.pos_of_ne_zero fun h => hz (bsize_zero h)
    have h1c : W2[0]? = some W2[0] := by rw [getElem?_pos]
    generalize W2[0] = c at h1c
    have hsh := sharp_of h1c
    obtain ⟨cn, hcn⟩ : ∃ n : Int, (c.toNat : Int) = n := ⟨_, rfl⟩
    rw [hcn] at hsh
    by_cases q5 : cn = 35
    · have q5t := eq_true q5
      refine AWp.rg [] [] ?_ (hr := by conv => lhs; simp [Tm.row, Tm.rows_eq, Cs.rows_eq, h1c, hcn, hd24, q1t, hz, q5t])
      refine AWp.cy ?_
      rw [show decide (cn = 35) = true from decide_eq_true q5] at hsh
      rw [if_pos hsh] at hR
      have htg := cs_ttag l2 e2 o2
      have hav2 := (tagT_av (l2, e2)).toTst
      generalize tagT (l2, e2) = t at htg hav2 hR
      obtain ⟨tg, l4, e4⟩ := t
      have o4 : Lok l4 := Lok.of (p := (l2, e2)) o2 hav2
      have n4 := hav2.le
      dsimp only at htg hR n4
      have hmn := cs_terms l4 e4 N n hT (by omega) hNm o4
      rw [← hdp] at hmn
      generalize manyT (Tm.ts N n) N (l4, e4) = y at hmn hR
      obtain ⟨us, l5, e5⟩ := y
      dsimp only [tmsAV] at hmn hR
      rw [hR]
      dsimp only
      refine AWp.rg [] [.c [] [.ptr 1000 0] [(1000, .blk 95 [.d (strsD l2), .d (.int e2)])] (.d (.int tg)) [(1000, .blk 95 [.d (strsD l4), .d (.int e4)])], .c [] [.ptr 1000 0, .d (.int (dp + 1))] [(1000, .blk 95 [.d (strsD l4), .d (.int e4)])] (.d (.sl (us.map Tm.row))) [(1000, .blk 95 [.d (strsD l5), .d (.int e5)])]] ?_ (hr := by conv => lhs; simp [Tm.row, Tm.rows_eq, Cs.rows_eq, hd24, q1t])
      refine AWp.ret ?_
      try dsimp only [thenQ, blockQ]
      apply endC.ret
      · rfl
      · conv => lhs; simp [resAV, Tryd.results89]
      · first | rfl | simp [resVal, tmAV, Tm.row, Tm.rows_eq, Cs.rows_eq, AV.nilD, nilDL, strsD]
      · simp [moEnd, memGet]
    refine AWp.rg [] [] ?_ (hr := by conv => lhs; simp [Tm.row, Tm.rows_eq, Cs.rows_eq, h1c, hcn, hd24, q1t, hz, q5])
    refine AWp.cn ?_
    by_cases q6 : W2 = ⟨#[108, 101, 116]⟩
    · have q6t := eq_true q6
      refine AWp.rg [] [] ?_ (hr := by conv => lhs; simp [Tm.row, Tm.rows_eq, Cs.rows_eq, h1c, hcn, hd24, q1t, hz, q5, q6t])
      refine AWp.cy ?_
      rw [show decide (cn = 35) = false from decide_eq_false q5] at hsh
      rw [if_neg (by rw [hsh]; exact Bool.false_ne_true), if_pos q6] at hR
      have htk2 := cs_take l2 e2 o2.len
      rw [← hW2] at htk2
      have hav2 := (nxT_av (l2, e2)).toTst
      generalize nxT (l2, e2) = p4 at htk2 hR hav2
      obtain ⟨l4, e4⟩ := p4
      have o4 : Lok l4 := Lok.of (p := (l2, e2)) o2 hav2
      have n4 := hav2.le
      dsimp only at htk2 hR n4
      have hnm := cs_tname l4 e4 o4.len (fun s hs => sp_tName s (by omega)) o4.hd
      have hav5 := (namT_av (l4, e4)).toTst
      generalize namT (l4, e4) = z5 at hnm hav5 hR
      obtain ⟨nm, l5, e5⟩ := z5
      have o5 : Lok l5 := Lok.of (p := (l4, e4)) o4 hav5
      have n5 := hav5.le
      dsimp only at hnm hR n5
      have hg1 := hx l5 e5 (by omega) o5
      have hv1 := (ts_av N n (l5, e5)).toTst
      generalize Tm.ts N n (l5, e5) = z1 at hg1 hv1 hR
      obtain ⟨x, l6, e6⟩ := z1
      have ol6 : Lok l6 := Lok.of (p := (l5, e5)) o5 hv1
      have nl6 := hv1.le
      obtain ⟨xk, xn, xa, xb, xvs, xxs, xcs⟩ := x
      dsimp only [tmAV] at hg1 hR nl6
      have hg2 := hx l6 e6 (by omega) ol6
      have hv2 := (ts_av N n (l6, e6)).toTst
      generalize Tm.ts N n (l6, e6) = z2 at hg2 hv2 hR
      obtain ⟨y, l7, e7⟩ := z2
      have ol7 : Lok l7 := Lok.of (p := (l6, e6)) ol6 hv2
      have nl7 := hv2.le
      obtain ⟨yk, yn, ya, yb, yvs, yxs, ycs⟩ := y
      dsimp only [tmAV] at hg2 hR nl7
      have hwt := cs_must l7 rbr e7 ol7.len
      generalize wantT rbr (l7, e7) = z9 at hwt hR
      obtain ⟨l8, e8⟩ := z9
      dsimp only at hwt hR
      rw [hR]
      dsimp only
      refine AWp.rg [] [.c [] [.ptr 1000 0] [(1000, .blk 95 [.d (strsD l2), .d (.int e2)])] (.d (.str W2)) [(1000, .blk 95 [.d (strsD l4), .d (.int e4)])]] ?_ (hr := by conv => lhs; simp [Tm.row, Tm.rows_eq, Cs.rows_eq, hd24, q1t, q6t])
      refine AWp.rg [] [.c [] [.ptr 1000 0] [(1000, .blk 95 [.d (strsD l4), .d (.int e4)])] (.d (.str nm)) [(1000, .blk 95 [.d (strsD l5), .d (.int e5)])]] ?_ (hr := by conv => lhs; simp [Tm.row, Tm.rows_eq, Cs.rows_eq, hd24, q1t, q6t])
      refine AWp.rg [8] [.c [] [.ptr 1000 0, .d (.int (dp + 1))] [(1000, .blk 95 [.d (strsD l5), .d (.int e5)])] (.agg [.d (.int xk), .d (.int xn), .d (.str xa), .d (.str xb), .d (strsD xvs), .d (.sl (xxs.map Tm.row)), .d (.sl (xcs.map Cs.row))]) [(1000, .blk 95 [.d (strsD l6), .d (.int e6)])], .c [] [.ptr 1000 0, .d (.int (dp + 1))] [(1000, .blk 95 [.d (strsD l6), .d (.int e6)])] (.agg [.d (.int yk), .d (.int yn), .d (.str ya), .d (.str yb), .d (strsD yvs), .d (.sl (yxs.map Tm.row)), .d (.sl (ycs.map Cs.row))]) [(1000, .blk 95 [.d (strsD l7), .d (.int e7)])]] ?_ (hr := by conv => lhs; simp [Tm.row, Tm.rows_eq, Cs.rows_eq, hd24, q1t, q6t])
      refine AWp.rg [] [.c [] [.ptr 1000 0, .d (.str (⟨#[41]⟩))] [(1000, .blk 95 [.d (strsD l7), .d (.int e7)])] (.tuple []) [(1000, .blk 95 [.d (strsD l8), .d (.int e8)])]] ?_ (hr := by conv => lhs; simp [Tm.row, Tm.rows_eq, Cs.rows_eq, hd24, q1t, q6t])
      refine AWp.rg [] [] ?_ (hr := by conv => lhs; simp [Tm.row, Tm.rows_eq, Cs.rows_eq, hd24, q1t, q6t])
      refine AWp.ret ?_
      try dsimp only [thenQ, blockQ]
      apply endC.ret
      · rfl
      · conv => lhs; simp [resAV, Tryd.results89]
      · first | rfl | simp [resVal, tmAV, Tm.row, Tm.rows_eq, Cs.rows_eq, AV.nilD, nilDL, strsD]
      · simp [moEnd, memGet]
    refine AWp.rg [] [] ?_ (hr := by conv => lhs; simp [Tm.row, Tm.rows_eq, Cs.rows_eq, h1c, hcn, hd24, q1t, hz, q5, q6])
    refine AWp.cn ?_
    by_cases q7 : W2 = ⟨#[109, 97, 116, 99, 104]⟩
    · have q7t := eq_true q7
      refine AWp.rg [] [] ?_ (hr := by conv => lhs; simp [Tm.row, Tm.rows_eq, Cs.rows_eq, h1c, hcn, hd24, q1t, hz, q5, q6, q7t])
      refine AWp.cy ?_
      rw [show decide (cn = 35) = false from decide_eq_false q5] at hsh
      rw [if_neg (by rw [hsh]; exact Bool.false_ne_true), if_neg q6, if_pos q7] at hR
      have htk2 := cs_take l2 e2 o2.len
      rw [← hW2] at htk2
      have hav2 := (nxT_av (l2, e2)).toTst
      generalize nxT (l2, e2) = p4 at htk2 hR hav2
      obtain ⟨l4, e4⟩ := p4
      have o4 : Lok l4 := Lok.of (p := (l2, e2)) o2 hav2
      have n4 := hav2.le
      dsimp only at htk2 hR n4
      have hg1 := hx l4 e4 (by omega) o4
      have hv1 := (ts_av N n (l4, e4)).toTst
      generalize Tm.ts N n (l4, e4) = z1 at hg1 hv1 hR
      obtain ⟨x, l6, e6⟩ := z1
      have ol6 : Lok l6 := Lok.of (p := (l4, e4)) o4 hv1
      have nl6 := hv1.le
      obtain ⟨xk, xn, xa, xb, xvs, xxs, xcs⟩ := x
      dsimp only [tmAV] at hg1 hR nl6
      have hmn := cs_cases l6 e6 N n hT (by omega) hNm ol6
      rw [← hdp] at hmn
      generalize manyT (casT N (Tm.ts N n)) N (l6, e6) = y at hmn hR
      obtain ⟨us, l7, e7⟩ := y
      dsimp only at hmn hR
      rw [hR]
      dsimp only
      refine AWp.rg [] [.c [] [.ptr 1000 0] [(1000, .blk 95 [.d (strsD l2), .d (.int e2)])] (.d (.str W2)) [(1000, .blk 95 [.d (strsD l4), .d (.int e4)])]] ?_ (hr := by conv => lhs; simp [Tm.row, Tm.rows_eq, Cs.rows_eq, hd24, q1t, q6, q7t])
      refine AWp.rg [4] [.c [] [.ptr 1000 0, .d (.int (dp + 1))] [(1000, .blk 95 [.d (strsD l4), .d (.int e4)])] (.agg [.d (.int xk), .d (.int xn), .d (.str xa), .d (.str xb), .d (strsD xvs), .d (.sl (xxs.map Tm.row)), .d (.sl (xcs.map Cs.row))]) [(1000, .blk 95 [.d (strsD l6), .d (.int e6)])]] ?_ (hr := by conv => lhs; simp [Tm.row, Tm.rows_eq, Cs.rows_eq, hd24, q1t, q6, q7t])
      refine AWp.rg [] [.c [] [.ptr 1000 0, .d (.int (dp + 1))] [(1000, .blk 95 [.d (strsD l6), .d (.int e6)])] (.d (.sl (us.map Cs.row))) [(1000, .blk 95 [.d (strsD l7), .d (.int e7)])]] ?_ (hr := by conv => lhs; simp [Tm.row, Tm.rows_eq, Cs.rows_eq, hd24, q1t, q6, q7t])
      refine AWp.rg [] [] ?_ (hr := by conv => lhs; simp [Tm.row, Tm.rows_eq, Cs.rows_eq, hd24, q1t, q6, q7t])
      refine AWp.ret ?_
      try dsimp only [thenQ, blockQ]
      apply endC.ret
      · rfl
      · conv => lhs; simp [resAV, Tryd.results89]
      · first | rfl | simp [resVal, tmAV, Tm.row, Tm.rows_eq, Cs.rows_eq, AV.nilD, nilDL, strsD]
      · simp [moEnd, memGet]
    refine AWp.rg [] [] ?_ (hr := by conv => lhs; simp [Tm.row, Tm.rows_eq, Cs.rows_eq, h1c, hcn, hd24, q1t, hz, q5, q6, q7])
    refine AWp.cn ?_
    refine AWp.skip ?_
    rw [show decide (cn = 35) = false from decide_eq_false q5] at hsh
    obtain ⟨PL, hPL⟩ : ∃ PL, PL = primsL := ⟨_, rfl⟩
    have hpr := sp_prims
    rw [← hPL] at hpr
    have hPLl : PL.length = 5 := by rw [hPL]; rfl
    refine AWp.rg [] [.p (fun _ => .d (strsD PL)) none] ?_ (hr := by conv => lhs; simp [Tm.row, Tm.rows_eq, Cs.rows_eq, hd24, q1t, q6, q7])
    repeat (first | refine AWp.seq ?_ | refine AWp.block ?_)
    refine AWp.loop (σ := fun u : {u : Nat // u ≤ PL.length ∧ ∀ y ∈ PL.take u, ¬ W2 = y} => ⟨131, [(0, .ptr 1000 0), (1, .d (.int dp)), (4, .ptr 4 0), (8, .d (.str W2)), (96, .d (strsD PL)), (97, .d (.int (PL.length : Int))), (98, .d (.int (u.1 : Int)))], [(4, some (.blk 34 [.d (.int 0), .d (.int 0), .d (.str ByteArray.empty), .d (.str ByteArray.empty), .lit (.slice none 0 0), .lit (.slice none 0 0), .lit (.slice none 0 0)])), (1000, some (.blk 95 [.d (strsD l2), .d (.int e2)]))]⟩)
      (μ := fun u => PL.length - u.1) ⟨0, ⟨Nat.zero_le _, by simp⟩⟩ (Le.sub (by simp) (by simp)) (fun ⟨i, ⟨hi28, hw⟩⟩ => ?_)
    dsimp only
    refine AWp.rg [] [] ?_ (hr := by conv => lhs; simp [Tm.row, Tm.rows_eq, Cs.rows_eq, hd24, q1t, q6, q7])
    repeat (first | refine AWp.seq ?_ | refine AWp.block ?_)
    refine AWp.cond rfl (fun hc => ?_) (fun hc => ?_)
    · have hi1 : i < PL.length := by have := of_decide_eq_true hc; omega
      clear hc
      have h1x : PL[i]? = some PL[i] := List.getElem?_eq_getElem hi1
      have hmx : PL[i] ∈ PL := List.getElem_mem hi1
      have hdx : PL.drop i = PL[i] :: PL.drop (i + 1) := List.drop_eq_getElem_cons hi1
      generalize PL[i] = x at h1x hmx hdx
      refine AWp.skip ?_
      refine AWp.rg [] [] ?_ (hr := by conv => lhs; simp [Tm.row, Tm.rows_eq, Cs.rows_eq, h1x, hd24, q1t, q6, q7])
      by_cases q8 : W2 = x
      · have q8t := eq_true q8
        refine AWp.rg [] [] ?_ (hr := by conv => lhs; simp [Tm.row, Tm.rows_eq, Cs.rows_eq, h1x, hd24, q1t, q6, q7, q8t])
        refine AWp.cy ?_
        have hpi : primI W2 primsL 0 0 = (i : Int) + 1 := by
          rw [q8]
          exact prim_at i x (by rw [← hPL]; exact h1x)
        rw [if_neg (by rw [hsh]; exact Bool.false_ne_true), if_neg q6, if_neg q7, hpi, if_pos (by omega)] at hR
        have htk2 := cs_take l2 e2 o2.len
        rw [← hW2] at htk2
        have hav2 := (nxT_av (l2, e2)).toTst
        generalize nxT (l2, e2) = p4 at htk2 hR hav2
        obtain ⟨l4, e4⟩ := p4
        have o4 : Lok l4 := Lok.of (p := (l2, e2)) o2 hav2
        have n4 := hav2.le
        dsimp only at htk2 hR n4
        have hg1 := hx l4 e4 (by omega) o4
        have hv1 := (ts_av N n (l4, e4)).toTst
        generalize Tm.ts N n (l4, e4) = z1 at hg1 hv1 hR
        obtain ⟨u, l6, e6⟩ := z1
        have ol6 : Lok l6 := Lok.of (p := (l4, e4)) o4 hv1
        have nl6 := hv1.le
        obtain ⟨uk, un, ua, ub, uvs, uxs, ucs⟩ := u
        dsimp only [tmAV] at hg1 hR nl6
        have hg2 := hx l6 e6 (by omega) ol6
        have hv2 := (ts_av N n (l6, e6)).toTst
        generalize Tm.ts N n (l6, e6) = z2 at hg2 hv2 hR
        obtain ⟨y, l7, e7⟩ := z2
        have ol7 : Lok l7 := Lok.of (p := (l6, e6)) ol6 hv2
        have nl7 := hv2.le
        obtain ⟨yk, yn, ya, yb, yvs, yxs, ycs⟩ := y
        dsimp only [tmAV] at hg2 hR nl7
        have hwt := cs_must l7 rbr e7 ol7.len
        generalize wantT rbr (l7, e7) = z9 at hwt hR
        obtain ⟨l8, e8⟩ := z9
        dsimp only at hwt hR
        rw [hR]
        dsimp only
        refine AWp.rg [] [.c [] [.ptr 1000 0] [(1000, .blk 95 [.d (strsD l2), .d (.int e2)])] (.d (.str W2)) [(1000, .blk 95 [.d (strsD l4), .d (.int e4)])]] ?_ (hr := by conv => lhs; simp [Tm.row, Tm.rows_eq, Cs.rows_eq, h1x, hd24, q1t, q6, q7, q8t])
        refine AWp.rg [10] [.c [] [.ptr 1000 0, .d (.int (dp + 1))] [(1000, .blk 95 [.d (strsD l4), .d (.int e4)])] (.agg [.d (.int uk), .d (.int un), .d (.str ua), .d (.str ub), .d (strsD uvs), .d (.sl (uxs.map Tm.row)), .d (.sl (ucs.map Cs.row))]) [(1000, .blk 95 [.d (strsD l6), .d (.int e6)])], .c [] [.ptr 1000 0, .d (.int (dp + 1))] [(1000, .blk 95 [.d (strsD l6), .d (.int e6)])] (.agg [.d (.int yk), .d (.int yn), .d (.str ya), .d (.str yb), .d (strsD yvs), .d (.sl (yxs.map Tm.row)), .d (.sl (ycs.map Cs.row))]) [(1000, .blk 95 [.d (strsD l7), .d (.int e7)])]] ?_ (hr := by conv => lhs; simp [Tm.row, Tm.rows_eq, Cs.rows_eq, h1x, hd24, q1t, q6, q7, q8t])
        refine AWp.rg [] [.c [] [.ptr 1000 0, .d (.str (⟨#[41]⟩))] [(1000, .blk 95 [.d (strsD l7), .d (.int e7)])] (.tuple []) [(1000, .blk 95 [.d (strsD l8), .d (.int e8)])]] ?_ (hr := by conv => lhs; simp [Tm.row, Tm.rows_eq, Cs.rows_eq, h1x, hd24, q1t, q6, q7, q8t])
        refine AWp.rg [] [] ?_ (hr := by conv => lhs; simp [Tm.row, Tm.rows_eq, Cs.rows_eq, h1x, hd24, q1t, q6, q7, q8t])
        refine AWp.ret ?_
        try dsimp only [thenQ, blockQ]
        apply endC.ret
        · rfl
        · conv => lhs; simp [resAV, Tryd.results89]
        · first | rfl | simp [resVal, tmAV, Tm.row, Tm.rows_eq, Cs.rows_eq, AV.nilD, nilDL, strsD]
        · simp [moEnd, memGet]
      refine AWp.rg [] [] ?_ (hr := by conv => lhs; simp [Tm.row, Tm.rows_eq, Cs.rows_eq, h1x, hd24, q1t, q6, q7, q8])
      refine AWp.cn ?_
      refine AWp.skip ?_
      refine AWp.rg [] [] ?_ (hr := by conv => lhs; simp [Tm.row, Tm.rows_eq, Cs.rows_eq, h1x, hd24, q1t, q6, q7, q8])
      refine ⟨⟨i + 1, hi1, fun y hy => by
          rw [List.take_add_one, h1x] at hy
          rcases List.mem_append.1 hy with h | h
          · exact hw y h
          · rw [Option.toList_some, List.mem_singleton] at h
            rw [h]; exact q8⟩, by simp; omega, ?_⟩
      dsimp only
      exact Le.sub (by simp) (by simp)
    have hi1 : i = PL.length := by have := of_decide_eq_false hc; omega
    subst hi1
    clear hc
    rw [List.take_length] at hw
    have hp0 := prim_none (w := W2) (fun x hx => hw x (by rw [hPL]; exact hx))
    refine AWp.exit ?_
    rw [if_neg (by rw [hsh]; exact Bool.false_ne_true), if_neg q6, if_neg q7, hp0, if_neg (by decide)] at hR
    have hnm := cs_tname l2 e2 o2.len (fun s hs => sp_tName s (by omega)) o2.hd
    have hav5 := (namT_av (l2, e2)).toTst
    generalize namT (l2, e2) = z5 at hnm hav5 hR
    obtain ⟨nm, l5, e5⟩ := z5
    have o5 : Lok l5 := Lok.of (p := (l2, e2)) o2 hav5
    have n5 := hav5.le
    dsimp only at hnm hR n5
    have hmn := cs_terms l5 e5 N n hT (by omega) hNm o5
    rw [← hdp] at hmn
    generalize manyT (Tm.ts N n) N (l5, e5) = y at hmn hR
    obtain ⟨us, l6, e6⟩ := y
    dsimp only [tmsAV] at hmn hR
    rw [hR]
    dsimp only
    refine AWp.rg [] [.c [] [.ptr 1000 0] [(1000, .blk 95 [.d (strsD l2), .d (.int e2)])] (.d (.str nm)) [(1000, .blk 95 [.d (strsD l5), .d (.int e5)])], .c [] [.ptr 1000 0, .d (.int (dp + 1))] [(1000, .blk 95 [.d (strsD l5), .d (.int e5)])] (.d (.sl (us.map Tm.row))) [(1000, .blk 95 [.d (strsD l6), .d (.int e6)])]] ?_ (hr := by conv => lhs; simp [Tm.row, Tm.rows_eq, Cs.rows_eq, hd24, q1t, q6, q7])
    refine AWp.ret ?_
    try dsimp only [thenQ, blockQ]
    apply endC.ret
    · rfl
    · conv => lhs; simp [resAV, Tryd.results89]
    · first | rfl | simp [resVal, tmAV, Tm.row, Tm.rows_eq, Cs.rows_eq, AV.nilD, nilDL, strsD]
    · simp [moEnd, memGet]
  refine AWp.rg [] [.c [] [.ptr 1000 0] [(1000, .blk 95 [.d (strsD l), .d (.int e)])] (.d (.str W)) [(1000, .blk 95 [.d (strsD l), .d (.int e)])]] ?_ (hr := by conv => lhs; simp [Tm.row, Tm.rows_eq, Cs.rows_eq, hd24, q1])
  refine AWp.cy ?_
  rw [if_neg q1] at hR
  unfold atomT badT at hR
  dsimp only at hR
  rw [← hW] at hR
  have htk := cs_take l e hl.len
  rw [← hW] at htk
  generalize nxT (l, e) = p2 at htk hR
  obtain ⟨l2, e2⟩ := p2
  dsimp only at htk hR
  refine AWp.rg [] [.c [] [.ptr 1000 0] [(1000, .blk 95 [.d (strsD l), .d (.int e)])] (.d (.str W)) [(1000, .blk 95 [.d (strsD l2), .d (.int e2)])]] ?_ (hr := by conv => lhs; simp [Tm.row, Tm.rows_eq, Cs.rows_eq, hd24, q1])
  have hnu := sp_number W (by omega)
  generalize numP W = nq at *
  obtain ⟨nn, q⟩ := nq
  dsimp only at hnu hR
  refine AWp.rg [] [.p (fun _ => .tuple [.d (.int nn), .d (.bool q)]) none] ?_ (hr := by conv => lhs; simp [Tm.row, Tm.rows_eq, Cs.rows_eq, hd24, q1])
  cases q with
  | true =>
    refine AWp.rg [] [] ?_ (hr := by conv => lhs; simp [Tm.row, Tm.rows_eq, Cs.rows_eq, hd24, q1])
    refine AWp.cy ?_
    rw [if_pos rfl] at hR
    rw [hR]
    dsimp only
    refine AWp.rg [] [] ?_ (hr := by conv => lhs; simp [Tm.row, Tm.rows_eq, Cs.rows_eq, hd24, q1])
    refine AWp.ret ?_
    try dsimp only [thenQ, blockQ]
    apply endC.ret
    · rfl
    · conv => lhs; simp [resAV, Tryd.results89]
    · first | rfl | simp [resVal, tmAV, Tm.row, Tm.rows_eq, Cs.rows_eq, AV.nilD, nilDL, strsD]
    · simp [moEnd, memGet]
  | false =>
    refine AWp.rg [] [] ?_ (hr := by conv => lhs; simp [Tm.row, Tm.rows_eq, Cs.rows_eq, hd24, q1])
    refine AWp.cn ?_
    refine AWp.skip ?_
    rw [if_neg Bool.false_ne_true] at hR
    have hna := sp_tName W (by omega)
    generalize nameB W = q2 at *
    cases q2 with
    | true =>
      refine AWp.rg [] [.p (fun _ => .d (.bool true)) none] ?_ (hr := by conv => lhs; simp [Tm.row, Tm.rows_eq, Cs.rows_eq, hd24, q1])
      refine AWp.cn ?_
      refine AWp.skip ?_
      rw [if_pos rfl] at hR
      rw [hR]
      dsimp only
      refine AWp.rg [] [] ?_ (hr := by conv => lhs; simp [Tm.row, Tm.rows_eq, Cs.rows_eq, hd24, q1])
      refine AWp.ret ?_
      try dsimp only [thenQ, blockQ]
      apply endC.ret
      · rfl
      · conv => lhs; simp [resAV, Tryd.results89]
      · first | rfl | simp [resVal, tmAV, Tm.row, Tm.rows_eq, Cs.rows_eq, AV.nilD, nilDL, strsD]
      · simp [moEnd, memGet]
    | false =>
      refine AWp.rg [] [.p (fun _ => .d (.bool false)) none] ?_ (hr := by conv => lhs; simp [Tm.row, Tm.rows_eq, Cs.rows_eq, hd24, q1])
      refine AWp.cy ?_
      have hbd := cs_tfail l2 e2 7
      refine AWp.rg [] [.c [] [.ptr 1000 0, .d (.int 7)] [(1000, .blk 95 [.d (strsD l2), .d (.int e2)])] (.tuple []) [(1000, .blk 95 [.d (strsD l2), .d (.int (badE e2 7))])]] ?_ (hr := by conv => lhs; simp [Tm.row, Tm.rows_eq, Cs.rows_eq, hd24, q1])
      rw [if_neg Bool.false_ne_true] at hR
      rw [hR]
      dsimp only
      refine AWp.rg [] [] ?_ (hr := by conv => lhs; simp [Tm.row, Tm.rows_eq, Cs.rows_eq, hd24, q1])
      refine AWp.ret ?_
      try dsimp only [thenQ, blockQ]
      apply endC.ret
      · rfl
      · conv => lhs; simp [resAV, Tryd.results89]
      · first | rfl | simp [resVal, tmAV, Tm.row, Tm.rows_eq, Cs.rows_eq, AV.nilD, nilDL, strsD]
      · simp [moEnd, memGet]
theorem cs_tterm (N : Nat) (hNm : N ≤ 1600) : ∀ n : Nat, n ≤ 25 → TermT N n := by
  intro n
  induction n with
  | zero => intro _; exact cs_tterm0 N
  | succ n ih =>
    intro h l e hN hl
    exact cs_ttermS N n _ l e hN hNm hl (by push_cast; omega) (by push_cast; omega) (by push_cast; omega) (ih (by omega))
end Go.Proofs.YtapiiklnnkkdlaaDoor

namespace Go.Proofs.YtapiiklnnkkdlaaDoor
open Go.RowKit
attribute [local simp] runD mkRc ldOf stOf stOk ldArg noAny dstOk guardOk opEff opEff0 effOp pureOp callOp zEff evA constAV scalAV Value.oneCell' frGet memGet startAS frOf isGoCall idIn AS.after nextR opnIds objIds AV.ids idsL AObj.ids frNo memNo opnAny isAny mkVal rdCells wrCells fldAddr idxAddr srcRows litRows toD1 toDs setAt sliceAV optI partAV bldAV fillAV binAV binI AV.cells callEff calleeOf frKill memKill AV.kill AObj.kill AV.has AV.hasL Op.operands Call.operands keepF keepM viewIds cChk renOf moGet moWs moQ cEff moLike moHave AV.ren renL AObj.ren AObj.like kept startC moMem AV.frz frz1 frzL frSub memSub frzs AS.frz frFrz memFrz AObj.frz takeMap takeLen bleF Nat.ble_eq memAny objAny mapOp D.keyOk rowAV valRow extOp wrapOp phO frLow memLow memLow1 objLow memEmpty Low LowL
set_option linter.unusedVariables false
set_option linter.unusedSimpArgs false
theorem isBl_of {c : UInt8} : isBl c = true ↔ ((c.toNat : Int) = 32 ∨ (c.toNat : Int) = 10 ∨ (c.toNat : Int) = 9) := by
  unfold isBl
  simp only [Bool.or_eq_true, beq_iff_eq]
  omega
theorem isBr_iff {c : UInt8} : isBr c = true ↔ ((c.toNat : Int) = 40 ∨ (c.toNat : Int) = 41) := by
  rw [isBr_of, Bool.or_eq_true, decide_eq_true_eq, decide_eq_true_eq]
theorem wds_blank {s : ByteArray} {j : Nat} {c : UInt8} (h : s[j]? = some c) (hb : isBl c = true) : wds s j = wds s (j + 1) := by
  rw [← wds_pkA, ← pkA_on h hb, wds_pkA]
theorem wds_word {s : ByteArray} {j k : Nat} {c : UInt8} (hj : j ≤ s.size) (h : s[j]? = some c) (hb : isBl c = false) (hk : pkE s j = k) (hjk : j < k) (hks : k ≤ s.size) : wds s j = s.extract j k :: wds s k := by
  have hA := pkA_stop h hb
  have hW : pkW s j = s.extract j k := by unfold pkW; rw [hA, hk]
  rw [wds_cons hj (by rw [hW, ByteArray.size_extract]; omega), hW, hA, hk]
theorem wds_out {s : ByteArray} {j : Nat} (h : s.size ≤ j) (hj : j ≤ s.size) : wds s j = [] := by
  refine wds_nil ?_
  have h1 := pkA_le hj
  have h2 := pkE_le h1.2
  have h3 := pkW_size hj
  omega
theorem ext_one {s : ByteArray} {j : Nat} {c : UInt8} (h : s[j]? = some c) : s.extract j (j + 1) = ⟨#[c]⟩ := by
  have h0 : s.data.toList.drop j = c :: s.data.toList.drop (j + 1) := drop_of h
  apply ByteArray.ext
  apply Array.ext'
  rw [ByteArray.data_extract, Array.toList_extract, List.extract_eq_take_drop, h0]
  simp
set_option maxRecDepth 20000 in
set_option maxHeartbeats 16000000 in
theorem sp_words (s : ByteArray) (hs : s.size ≤ 1500) : PSpec Tryd.prog 85 [.d (.str s)] (fun _ => strsAV (wds s 0)) none := by
  obtain ⟨N, hN⟩ : ∃ N : Int, (s.size : Int) = N := ⟨_, rfl⟩
  refine PSpec.of Tryd.func85 rfl rfl rfl (Nat.le_of_ble_eq_true rfl) ?_
  show AWp _ _ (endQ _ Tryd.f85 _ _ _) (startAS 76 _)
  refine AWp.rg [] [] ?_ (hr := by conv => lhs; simp [hN])
  refine AWp.rg [] [] ?_ (hr := by conv => lhs; simp [hN])
  refine AWp.rg [] [] ?_ (hr := by conv => lhs; simp [hN])
  repeat (first | refine AWp.seq ?_ | refine AWp.block ?_)
  refine AWp.le (Le.low [400] [] (fr := [(0, .d (.str s)), (3, .arr 400 0 ([] : List ByteArray).length), (4, .d (.int ((0 : Nat) : Int)))]) (mem := [(400, some (.arr 9 1 (([] : List ByteArray).map strR)))]) rfl (by simp) (by simp)) ?_
  refine AWp.loop (σ := fun u : {u : List ByteArray × Nat // (wds s 0 = u.1 ++ wds s u.2 ∧ u.2 ≤ s.size ∧ u.1.length ≤ u.2)} => ⟨76, [(0, .d (.str s)), (3, .arr 400 0 u.1.1.length), (4, .d (.int (u.1.2 : Int)))], [(400, some (.arr 9 1 (u.1.1.map strR)))]⟩)
    (μ := fun u => s.size - u.1.2) ⟨([], 0), ⟨rfl, Nat.zero_le _, Nat.le_refl _⟩⟩ (Le.sub (by simp) (by simp)) (fun ⟨(us, j), hw⟩ => ?_)
  dsimp only at hw ⊢
  obtain ⟨hws, hjl, hul⟩ := hw
  by_cases hjc : (j : Int) < N
  · have hkc : j < s.size := by omega
    have h1c : s[j]? = some s[j] := by rw [getElem?_pos]
    generalize s[j] = c at h1c
    obtain ⟨cn, hcn⟩ : ∃ n : Int, (c.toNat : Int) = n := ⟨_, rfl⟩
    refine AWp.rg [] [] ?_ (hr := by conv => lhs; simp [hN, h1c, hcn, hjc])
    refine AWp.cy ?_
    refine AWp.skip ?_
    refine AWp.rg [] [] ?_ (hr := by conv => lhs; simp [hN, h1c, hcn, hjc])
    refine AWp.rg [] [] ?_ (hr := by conv => lhs; simp [hN, h1c, hcn, hjc])
    by_cases q1 : cn = 32
    · have q1t := eq_true q1
      refine AWp.rg [] [] ?_ (hr := by conv => lhs; simp [hN, h1c, hcn, hjc, q1t])
      refine AWp.cy ?_
      refine AWp.skip ?_
      refine AWp.cy ?_
      refine AWp.rg [] [] ?_ (hr := by conv => lhs; simp [hN, h1c, hcn, hjc, q1t])
      refine ⟨⟨(us, j + 1), ⟨by rw [hws, wds_blank h1c (isBl_of.2 (by omega))], by omega, by dsimp only; omega⟩⟩, by dsimp only; omega, ?_⟩
      dsimp only
      exact Le.sub (by simp [hN]) (by simp [hN])
    refine AWp.rg [] [] ?_ (hr := by conv => lhs; simp [hN, h1c, hcn, hjc, q1])
    refine AWp.cn ?_
    by_cases q2 : cn = 10
    · have q2t := eq_true q2
      refine AWp.rg [] [] ?_ (hr := by conv => lhs; simp [hN, h1c, hcn, hjc, q1, q2t])
      refine AWp.cy ?_
      refine AWp.skip ?_
      refine AWp.cy ?_
      refine AWp.rg [] [] ?_ (hr := by conv => lhs; simp [hN, h1c, hcn, hjc, q1, q2t])
      refine ⟨⟨(us, j + 1), ⟨by rw [hws, wds_blank h1c (isBl_of.2 (by omega))], by omega, by dsimp only; omega⟩⟩, by dsimp only; omega, ?_⟩
      dsimp only
      exact Le.sub (by simp [hN]) (by simp [hN])
    refine AWp.rg [] [] ?_ (hr := by conv => lhs; simp [hN, h1c, hcn, hjc, q1, q2])
    refine AWp.cn ?_
    by_cases q3 : cn = 9
    · have q3t := eq_true q3
      refine AWp.rg [] [] ?_ (hr := by conv => lhs; simp [hN, h1c, hcn, hjc, q1, q2, q3t])
      refine AWp.cy ?_
      refine AWp.rg [] [] ?_ (hr := by conv => lhs; simp [hN, h1c, hcn, hjc, q1, q2, q3t])
      refine ⟨⟨(us, j + 1), ⟨by rw [hws, wds_blank h1c (isBl_of.2 (by omega))], by omega, by dsimp only; omega⟩⟩, by dsimp only; omega, ?_⟩
      dsimp only
      exact Le.sub (by simp [hN]) (by simp [hN])
    refine AWp.rg [] [] ?_ (hr := by conv => lhs; simp [hN, h1c, hcn, hjc, q1, q2, q3])
    refine AWp.cn ?_
    by_cases q4 : cn = 40
    · have q4t := eq_true q4
      refine AWp.rg [] [] ?_ (hr := by conv => lhs; simp [hN, h1c, hcn, hjc, q1, q2, q3, q4t])
      refine AWp.cy ?_
      refine AWp.skip ?_
      refine AWp.cy ?_
      have hbr : isBr c = true := isBr_iff.2 (by omega)
      have hnb : isBl c = false := by rw [Bool.eq_false_iff, ne_eq, isBl_of]; omega
      have hc : c = 40 := by
        have h : c.toNat = 40 := by omega
        exact UInt8.toNat_inj.1 h
      have hex : s.extract j (j + 1) = ⟨#[40]⟩ := by rw [ext_one h1c, hc]
      have hen : Utf8.encode cn = ⟨#[40]⟩ := by rw [show cn = 40 from by omega]; rfl
      obtain ⟨us2, hus2⟩ : ∃ z, z = us ++ [s.extract j (j + 1)] := ⟨_, rfl⟩
      have hus2l : us.length + 1 = us2.length := by rw [hus2]; simp
      have hmx : us2.length ≤ maxLen := by unfold maxLen; omega
      have hmu : List.map strR us ++ [[D.str ⟨#[40]⟩]] = List.map strR us2 := by rw [hus2]; simp [hex]
      have hws2 : wds s 0 = us2 ++ wds s (j + 1) := by rw [hws, wds_word hjl h1c hnb (pkE_br h1c hbr) (by omega) (by omega), hus2]; simp
      refine AWp.rg [3] [] ?_ (hr := by conv => lhs; simp [hN, h1c, hcn, hmu, hus2l, hen, hjc, q1, q2, q3, q4t])
      refine AWp.rg [] [] ?_ (hr := by conv => lhs; simp [hN, h1c, hcn, hjc, q1, q2, q3, q4t])
      refine ⟨⟨(us2, j + 1), ⟨hws2, by omega, by dsimp only; omega⟩⟩, by dsimp only; omega, ?_⟩
      dsimp only
      exact Le.sub (by simp [hN]) (by simp [hN])
    refine AWp.rg [] [] ?_ (hr := by conv => lhs; simp [hN, h1c, hcn, hjc, q1, q2, q3, q4])
    refine AWp.cn ?_
    by_cases q5 : cn = 41
    · have q5t := eq_true q5
      refine AWp.rg [] [] ?_ (hr := by conv => lhs; simp [hN, h1c, hcn, hjc, q1, q2, q3, q4, q5t])
      refine AWp.cy ?_
      have hbr : isBr c = true := isBr_iff.2 (by omega)
      have hnb : isBl c = false := by rw [Bool.eq_false_iff, ne_eq, isBl_of]; omega
      have hc : c = 41 := by
        have h : c.toNat = 41 := by omega
        exact UInt8.toNat_inj.1 h
      have hex : s.extract j (j + 1) = ⟨#[41]⟩ := by rw [ext_one h1c, hc]
      have hen : Utf8.encode cn = ⟨#[41]⟩ := by rw [show cn = 41 from by omega]; rfl
      obtain ⟨us2, hus2⟩ : ∃ z, z = us ++ [s.extract j (j + 1)] := ⟨_, rfl⟩
      have hus2l : us.length + 1 = us2.length := by rw [hus2]; simp
      have hmx : us2.length ≤ maxLen := by unfold maxLen; omega
      have hmu : List.map strR us ++ [[D.str ⟨#[41]⟩]] = List.map strR us2 := by rw [hus2]; simp [hex]
      have hws2 : wds s 0 = us2 ++ wds s (j + 1) := by rw [hws, wds_word hjl h1c hnb (pkE_br h1c hbr) (by omega) (by omega), hus2]; simp
      refine AWp.rg [3] [] ?_ (hr := by conv => lhs; simp [hN, h1c, hcn, hmu, hus2l, hen, hjc, q1, q2, q3, q4, q5t])
      refine AWp.rg [] [] ?_ (hr := by conv => lhs; simp [hN, h1c, hcn, hjc, q1, q2, q3, q4, q5t])
      refine ⟨⟨(us2, j + 1), ⟨hws2, by omega, by dsimp only; omega⟩⟩, by dsimp only; omega, ?_⟩
      dsimp only
      exact Le.sub (by simp [hN]) (by simp [hN])
    refine AWp.rg [] [] ?_ (hr := by conv => lhs; simp [hN, h1c, hcn, hjc, q1, q2, q3, q4, q5])
    refine AWp.cn ?_
    have hnb : isBl c = false := by rw [Bool.eq_false_iff, ne_eq, isBl_of]; omega
    have hnr : isBr c = false := by rw [Bool.eq_false_iff, ne_eq, isBr_iff]; omega
    refine AWp.rg [] [] ?_ (hr := by conv => lhs; simp [hN])
    repeat (first | refine AWp.seq ?_ | refine AWp.block ?_)
    refine AWp.loop (σ := fun u : {u : Nat // (pkV s u = pkV s j ∧ j ≤ u ∧ u ≤ s.size)} => ⟨76, [(0, .d (.str s)), (3, .arr 400 0 us.length), (4, .d (.int (u.1 : Int))), (6, .d (.int (j : Int)))], [(400, some (.arr 9 1 (us.map strR)))]⟩)
      (μ := fun u => s.size - u.1) ⟨j, ⟨rfl, Nat.le_refl _, hjl⟩⟩ (Le.sub (by simp) (by simp)) (fun ⟨k, hw⟩ => ?_)
    dsimp only
    obtain ⟨hpk, hk0, hkl⟩ := hw
    by_cases hjd : (k : Int) < N
    · have hkd : k < s.size := by omega
      have h1d : s[k]? = some s[k] := by rw [getElem?_pos]
      generalize s[k] = d at h1d
      obtain ⟨dn, hdn⟩ : ∃ n : Int, (d.toNat : Int) = n := ⟨_, rfl⟩
      by_cases q6 : dn = 32
      · have q6t := eq_true q6
        refine AWp.rg [] [] ?_ (hr := by conv => lhs; simp [hN, h1d, hdn, hjd, q6t])
        refine AWp.cn ?_
        refine AWp.exit ?_
        have hst := pkV_stop h1d (by rw [Bool.or_eq_true, isBl_of, isBr_iff]; omega)
        have hE : pkE s j = k := by rw [pkE_wd h1c hnr, ← hpk, hst]
        have hjk : j < k := by
          have h := pkV_on h1c hnb hnr
          have h2 : j + 1 ≤ pkV s (j + 1) := by unfold pkV; omega
          omega
        obtain ⟨us2, hus2⟩ : ∃ z, z = us ++ [s.extract j k] := ⟨_, rfl⟩
        have hus2l : us.length + 1 = us2.length := by rw [hus2]; simp
        have hmx : us2.length ≤ maxLen := by unfold maxLen; omega
        have hmu : List.map strR us ++ [[D.str (s.extract j k)]] = List.map strR us2 := by rw [hus2]; simp
        have hws2 : wds s 0 = us2 ++ wds s k := by rw [hws, wds_word hjl h1c hnb hE hjk hkl, hus2]; simp
        refine AWp.rg [5] [] ?_ (hr := by conv => lhs; simp [hN, hmu, hus2l])
        refine ⟨⟨(us2, k), ⟨hws2, by omega, by dsimp only; omega⟩⟩, by dsimp only; omega, ?_⟩
        dsimp only
        exact Le.sub (by simp [hN]) (by simp [hN])
      by_cases q7 : dn = 10
      · have q7t := eq_true q7
        refine AWp.rg [] [] ?_ (hr := by conv => lhs; simp [hN, h1d, hdn, hjd, q6, q7t])
        refine AWp.cn ?_
        refine AWp.exit ?_
        have hst := pkV_stop h1d (by rw [Bool.or_eq_true, isBl_of, isBr_iff]; omega)
        have hE : pkE s j = k := by rw [pkE_wd h1c hnr, ← hpk, hst]
        have hjk : j < k := by
          have h := pkV_on h1c hnb hnr
          have h2 : j + 1 ≤ pkV s (j + 1) := by unfold pkV; omega
          omega
        obtain ⟨us2, hus2⟩ : ∃ z, z = us ++ [s.extract j k] := ⟨_, rfl⟩
        have hus2l : us.length + 1 = us2.length := by rw [hus2]; simp
        have hmx : us2.length ≤ maxLen := by unfold maxLen; omega
        have hmu : List.map strR us ++ [[D.str (s.extract j k)]] = List.map strR us2 := by rw [hus2]; simp
        have hws2 : wds s 0 = us2 ++ wds s k := by rw [hws, wds_word hjl h1c hnb hE hjk hkl, hus2]; simp
        refine AWp.rg [5] [] ?_ (hr := by conv => lhs; simp [hN, hmu, hus2l])
        refine ⟨⟨(us2, k), ⟨hws2, by omega, by dsimp only; omega⟩⟩, by dsimp only; omega, ?_⟩
        dsimp only
        exact Le.sub (by simp [hN]) (by simp [hN])
      by_cases q8 : dn = 9
      · have q8t := eq_true q8
        refine AWp.rg [] [] ?_ (hr := by conv => lhs; simp [hN, h1d, hdn, hjd, q6, q7, q8t])
        refine AWp.cn ?_
        refine AWp.exit ?_
        have hst := pkV_stop h1d (by rw [Bool.or_eq_true, isBl_of, isBr_iff]; omega)
        have hE : pkE s j = k := by rw [pkE_wd h1c hnr, ← hpk, hst]
        have hjk : j < k := by
          have h := pkV_on h1c hnb hnr
          have h2 : j + 1 ≤ pkV s (j + 1) := by unfold pkV; omega
          omega
        obtain ⟨us2, hus2⟩ : ∃ z, z = us ++ [s.extract j k] := ⟨_, rfl⟩
        have hus2l : us.length + 1 = us2.length := by rw [hus2]; simp
        have hmx : us2.length ≤ maxLen := by unfold maxLen; omega
        have hmu : List.map strR us ++ [[D.str (s.extract j k)]] = List.map strR us2 := by rw [hus2]; simp
        have hws2 : wds s 0 = us2 ++ wds s k := by rw [hws, wds_word hjl h1c hnb hE hjk hkl, hus2]; simp
        refine AWp.rg [5] [] ?_ (hr := by conv => lhs; simp [hN, hmu, hus2l])
        refine ⟨⟨(us2, k), ⟨hws2, by omega, by dsimp only; omega⟩⟩, by dsimp only; omega, ?_⟩
        dsimp only
        exact Le.sub (by simp [hN]) (by simp [hN])
      by_cases q9 : dn = 40
      · have q9t := eq_true q9
        refine AWp.rg [] [] ?_ (hr := by conv => lhs; simp [hN, h1d, hdn, hjd, q6, q7, q8, q9t])
        refine AWp.cn ?_
        refine AWp.exit ?_
        have hst := pkV_stop h1d (by rw [Bool.or_eq_true, isBl_of, isBr_iff]; omega)
        have hE : pkE s j = k := by rw [pkE_wd h1c hnr, ← hpk, hst]
        have hjk : j < k := by
          have h := pkV_on h1c hnb hnr
          have h2 : j + 1 ≤ pkV s (j + 1) := by unfold pkV; omega
          omega
        obtain ⟨us2, hus2⟩ : ∃ z, z = us ++ [s.extract j k] := ⟨_, rfl⟩
        have hus2l : us.length + 1 = us2.length := by rw [hus2]; simp
        have hmx : us2.length ≤ maxLen := by unfold maxLen; omega
        have hmu : List.map strR us ++ [[D.str (s.extract j k)]] = List.map strR us2 := by rw [hus2]; simp
        have hws2 : wds s 0 = us2 ++ wds s k := by rw [hws, wds_word hjl h1c hnb hE hjk hkl, hus2]; simp
        refine AWp.rg [5] [] ?_ (hr := by conv => lhs; simp [hN, hmu, hus2l])
        refine ⟨⟨(us2, k), ⟨hws2, by omega, by dsimp only; omega⟩⟩, by dsimp only; omega, ?_⟩
        dsimp only
        exact Le.sub (by simp [hN]) (by simp [hN])
      by_cases q10 : dn = 41
      · have q10t := eq_true q10
        refine AWp.rg [] [] ?_ (hr := by conv => lhs; simp [hN, h1d, hdn, hjd, q6, q7, q8, q9, q10t])
        refine AWp.cn ?_
        refine AWp.exit ?_
        have hst := pkV_stop h1d (by rw [Bool.or_eq_true, isBl_of, isBr_iff]; omega)
        have hE : pkE s j = k := by rw [pkE_wd h1c hnr, ← hpk, hst]
        have hjk : j < k := by
          have h := pkV_on h1c hnb hnr
          have h2 : j + 1 ≤ pkV s (j + 1) := by unfold pkV; omega
          omega
        obtain ⟨us2, hus2⟩ : ∃ z, z = us ++ [s.extract j k] := ⟨_, rfl⟩
        have hus2l : us.length + 1 = us2.length := by rw [hus2]; simp
        have hmx : us2.length ≤ maxLen := by unfold maxLen; omega
        have hmu : List.map strR us ++ [[D.str (s.extract j k)]] = List.map strR us2 := by rw [hus2]; simp
        have hws2 : wds s 0 = us2 ++ wds s k := by rw [hws, wds_word hjl h1c hnb hE hjk hkl, hus2]; simp
        refine AWp.rg [5] [] ?_ (hr := by conv => lhs; simp [hN, hmu, hus2l])
        refine ⟨⟨(us2, k), ⟨hws2, by omega, by dsimp only; omega⟩⟩, by dsimp only; omega, ?_⟩
        dsimp only
        exact Le.sub (by simp [hN]) (by simp [hN])
      refine AWp.rg [] [] ?_ (hr := by conv => lhs; simp [hN, h1d, hdn, hjd, q6, q7, q8, q9, q10])
      refine AWp.cy ?_
      refine AWp.skip ?_
      refine AWp.rg [] [] ?_ (hr := by conv => lhs; simp [hN, h1d, hdn, hjd, q6, q7, q8, q9, q10])
      refine ⟨⟨k + 1, ⟨by rw [pkV_on h1d (by rw [Bool.eq_false_iff, ne_eq, isBl_of]; omega) (by rw [Bool.eq_false_iff, ne_eq, isBr_iff]; omega)]; exact hpk, by omega, by omega⟩⟩, by dsimp only; omega, ?_⟩
      dsimp only
      exact Le.sub (by simp [hN]) (by simp [hN])
    have hkd : s.size ≤ k := by omega
    refine AWp.rg [] [] ?_ (hr := by conv => lhs; simp [hN, hjd])
    refine AWp.cn ?_
    refine AWp.exit ?_
    have hst := pkV_end hkd
    have hE : pkE s j = k := by rw [pkE_wd h1c hnr, ← hpk, hst]
    have hjk : j < k := by
      have h := pkV_on h1c hnb hnr
      have h2 : j + 1 ≤ pkV s (j + 1) := by unfold pkV; omega
      omega
    obtain ⟨us2, hus2⟩ : ∃ z, z = us ++ [s.extract j k] := ⟨_, rfl⟩
    have hus2l : us.length + 1 = us2.length := by rw [hus2]; simp
    have hmx : us2.length ≤ maxLen := by unfold maxLen; omega
    have hmu : List.map strR us ++ [[D.str (s.extract j k)]] = List.map strR us2 := by rw [hus2]; simp
    have hws2 : wds s 0 = us2 ++ wds s k := by rw [hws, wds_word hjl h1c hnb hE hjk hkl, hus2]; simp
    refine AWp.rg [5] [] ?_ (hr := by conv => lhs; simp [hN, hmu, hus2l])
    refine ⟨⟨(us2, k), ⟨hws2, by omega, by dsimp only; omega⟩⟩, by dsimp only; omega, ?_⟩
    dsimp only
    exact Le.sub (by simp [hN]) (by simp [hN])
  have hkc : s.size ≤ j := by omega
  refine AWp.rg [] [] ?_ (hr := by conv => lhs; simp [hN, hjc])
  refine AWp.cn ?_
  refine AWp.exit ?_
  refine AWp.rg [] [] ?_ (hr := by conv => lhs; simp [hN, hjc])
  refine AWp.ret ?_
  rw [hws, wds_out (by omega) hjl, List.append_nil]
  try dsimp only [thenQ, blockQ]
  apply endQ.retF [400]
  · rfl
  · conv => lhs; simp
  · conv => lhs; simp [resAV, Tryd.results85]
  first | rfl | simp [resVal]
end Go.Proofs.YtapiiklnnkkdlaaDoor
