import Derived.Test.YtapiiklnnkkdlaaDoorParseD
/- xcref1's P: Term. Printed by a small program. -/
namespace Go.Proofs.YtapiiklnnkkdlaaDoor
open Go.RowKit
attribute [local simp] runD mkRc ldOf stOf stOk ldArg noAny dstOk guardOk opEff opEff0 effOp pureOp callOp zEff evA constAV scalAV Value.oneCell' frGet memGet startAS frOf isGoCall idIn AS.after nextR opnIds objIds AV.ids idsL AObj.ids frNo memNo opnAny isAny mkVal rdCells wrCells fldAddr idxAddr srcRows litRows toD1 toDs setAt sliceAV optI partAV bldAV fillAV binAV binI AV.cells callEff calleeOf frKill memKill AV.kill AObj.kill AV.has AV.hasL Op.operands Call.operands keepF keepM viewIds cChk renOf moGet moWs moQ cEff moLike moHave AV.ren renL AObj.ren AObj.like kept startC moMem AV.frz frz1 frzL frSub memSub frzs AS.frz frFrz memFrz AObj.frz takeMap takeLen bleF Nat.ble_eq memAny objAny mapOp D.keyOk rowAV valRow extOp wrapOp phO frLow memLow memLow1 objLow memEmpty Low LowL
set_option linter.unusedVariables false
set_option linter.unusedSimpArgs false
theorem nBl_drop : ∀ l : List UInt8, nBl (l.drop (nBl l)) = 0
  | [] => rfl
  | c :: r => by
    rw [nBl]
    split
    · rw [List.drop_succ_cons]; exact nBl_drop r
    · rename_i h
      rw [List.drop_zero, nBl, if_neg h]
theorem pkA_pk (s : ByteArray) (a : Nat) : pkA s (pkA s a) = pkA s a := by
  have h : nBl (s.data.toList.drop (pkA s a)) = 0 := by
    unfold pkA
    rw [← List.drop_drop]
    exact nBl_drop _
  unfold pkA at h ⊢
  rw [h]; rfl
theorem pkW_pk (s : ByteArray) (a : Nat) : pkW s (pkA s a) = pkW s a := by
  unfold pkW
  rw [pkA_pk]
theorem nxS_pk (s : ByteArray) (a : Nat) (e : Int) : nxS s (pkA s a, e) = nxS s (a, e) := by
  unfold nxS
  dsimp only
  rw [pkW_pk, pkA_pk]
theorem sharp_zero {w : ByteArray} (h : w.size = 0) : sharp w = false := by
  rw [size_zero h]; rfl
@[simp] theorem le_maxLen40 (c : UInt8) : (⟨#[c]⟩ : ByteArray).size ≤ maxLen := by show 1 ≤ maxLen; decide
def TermP (s : ByteArray) (n : Nat) : Prop := ∀ (a : Nat) (e : Int), a ≤ s.size → CSpec Tryd.prog 95 [.ptr 1000 0, .d (.int (25 - (n : Int)))] [(1000, pO s a e)] (tmAV (Tm.ps false s n (a, e)).1) [(1000, pO s (Tm.ps false s n (a, e)).2.1 (Tm.ps false s n (a, e)).2.2)]
set_option maxRecDepth 20000 in
set_option maxHeartbeats 16000000 in
theorem cs_Term0 (s : ByteArray) : TermP s 0 := by
  intro a e ha
  rw [Tm.ps]
  dsimp only
  show CSpec Tryd.prog 95 [.ptr 1000 0, .d (.int 25)] _ _ _
  unfold pO at *
  refine CSpec.of Tryd.func95 rfl rfl (Nat.le_of_ble_eq_true rfl) ?_
  show AWp _ _ (endC _ Tryd.f95 _ _) (startC 122 _ _)
  refine AWp.rg [] [] ?_
  refine AWp.rg [] [] ?_
  refine AWp.cy ?_
  have hbd := cs_bad s a e 9
  refine AWp.rg [] [.c [] [.ptr 1000 0, .d (.int 9)] [(1000, .blk 102 [.d (.str s), .d (.int (a : Int)), .d (.int e)])] (.tuple []) [(1000, .blk 102 [.d (.str s), .d (.int (a : Int)), .d (.int (badE e 9))])]] ?_
  refine AWp.rg [] [] ?_
  refine AWp.ret ?_
  try dsimp only [thenQ, blockQ]
  apply endC.ret
  · rfl
  · conv => lhs; simp [resAV, Tryd.results95]
  · first | rfl | simp [resVal, tmAV, Tm.row, Tm.rows_eq, Cs.rows_eq, AV.nilD, nilDL, strsD]
  · simp [moEnd, memGet]
set_option maxRecDepth 20000 in
set_option maxHeartbeats 16000000 in
theorem cs_TermS (s : ByteArray) (n : Nat) (dp : Int) (a : Nat) (e : Int) (ha : a ≤ s.size) (hs : s.size ≤ 1500) (hd0 : 0 ≤ dp) (hd1 : dp ≤ 24)
    (hx : ∀ (a : Nat) (e : Int), a ≤ s.size → CSpec Tryd.prog 95 [.ptr 1000 0, .d (.int (dp + 1))] [(1000, pO s a e)] (tmAV (Tm.ps false s n (a, e)).1) [(1000, pO s (Tm.ps false s n (a, e)).2.1 (Tm.ps false s n (a, e)).2.2)]) :
    CSpec Tryd.prog 95 [.ptr 1000 0, .d (.int dp)] [(1000, pO s a e)] (tmAV (Tm.ps false s (n + 1) (a, e)).1) [(1000, pO s (Tm.ps false s (n + 1) (a, e)).2.1 (Tm.ps false s (n + 1) (a, e)).2.2)] := by
  have hd24 : ¬ 24 < dp := by omega
  obtain ⟨R, hR⟩ : ∃ R, R = Tm.ps false s (n + 1) (a, e) := ⟨_, rfl⟩
  rw [← hR]
  rw [Tm.ps] at hR
  unfold pO at *
  refine CSpec.of Tryd.func95 rfl rfl (Nat.le_of_ble_eq_true rfl) ?_
  show AWp _ _ (endC _ Tryd.f95 _ _) (startC 122 _ _)
  refine AWp.rg [] [] ?_ (hr := by conv => lhs; simp [hd24])
  refine AWp.rg [] [] ?_ (hr := by conv => lhs; simp [hd24])
  refine AWp.cn ?_
  refine AWp.skip ?_
  have hpk := cs_Peek s a e ha hs
  have hWs := pkW_size ha
  have hA1 := pkA_le ha
  have hE1 := pkE_le hA1.2
  have hWk := pkW_pk s a
  have hNk := nxS_pk s a e
  have hWz : (pkW s a).size ≤ 1500 := by omega
  have hA2 : pkA s a ≤ s.size := hA1.2
  clear hWs hA1 hE1
  obtain ⟨W, hW⟩ : ∃ W, W = pkW s a := ⟨_, rfl⟩
  obtain ⟨A, hA⟩ : ∃ A, A = pkA s a := ⟨_, rfl⟩
  rw [← hA] at hpk hWk hNk hA2 hR
  rw [← hW] at hpk hWk hWz hR
  refine AWp.rg [] [.c [] [.ptr 1000 0] [(1000, .blk 102 [.d (.str s), .d (.int (a : Int)), .d (.int e)])] (.d (.str W)) [(1000, .blk 102 [.d (.str s), .d (.int (A : Int)), .d (.int e)])]] ?_ (hr := by conv => lhs; simp [hd24])
  by_cases q1 : W = ⟨#[40]⟩
  · have q1t := eq_true q1
    refine AWp.rg [] [] ?_ (hr := by conv => lhs; simp [hd24, q1t])
    refine AWp.cn ?_
    refine AWp.skip ?_
    rw [if_pos q1] at hR
    have hnx := cs_Next s A e hA2 hs
    have hnA := nxS_adv (s := s) (p := (A, e)) hA2
    rw [hWk] at hnx
    rw [← hNk] at hR
    generalize nxS s (A, e) = p2 at hnx hR hnA
    obtain ⟨A2, e2⟩ := p2
    have h2s := hnA.sz
    dsimp only at hnx hR h2s
    have hpk2 := cs_Peek s A2 e2 h2s hs
    have hWs2 := pkW_size h2s
    have hA12 := pkA_le h2s
    have hE12 := pkE_le hA12.2
    have hWz2 : (pkW s A2).size ≤ 1500 := by omega
    have hA22 : pkA s A2 ≤ s.size := hA12.2
    clear hWs2 hA12 hE12 hnA
    obtain ⟨W2, hW2⟩ : ∃ W, W = pkW s A2 := ⟨_, rfl⟩
    obtain ⟨A3, hA3⟩ : ∃ A, A = pkA s A2 := ⟨_, rfl⟩
    rw [← hA3] at hpk2 hA22 hR
    rw [← hW2] at hpk2 hWz2 hR
    refine AWp.rg [] [.c [] [.ptr 1000 0] [(1000, .blk 102 [.d (.str s), .d (.int (A : Int)), .d (.int e)])] (.d (.str W)) [(1000, .blk 102 [.d (.str s), .d (.int (A2 : Int)), .d (.int e2)])]] ?_ (hr := by conv => lhs; simp [hd24, q1t])
    refine AWp.rg [] [.c [] [.ptr 1000 0] [(1000, .blk 102 [.d (.str s), .d (.int (A2 : Int)), .d (.int e2)])] (.d (.str W2)) [(1000, .blk 102 [.d (.str s), .d (.int (A3 : Int)), .d (.int e2)])]] ?_ (hr := by conv => lhs; simp [hd24, q1t])
    refine AWp.rg [] [] ?_ (hr := by conv => lhs; simp [hd24, q1t])
    refine AWp.rg [] [] ?_ (hr := by conv => lhs; simp [hd24, q1t])
    refine AWp.rg [] [] ?_ (hr := by conv => lhs; simp [hd24, q1t])
    refine AWp.rg [0] [] ?_ (hr := by conv => lhs; simp [hd24, q1t])
    obtain ⟨PL, hPL⟩ : ∃ PL, PL = primsL := ⟨_, rfl⟩
    have hPLm : PL.map strR = [[.str ⟨#[43]⟩], [.str ⟨#[45]⟩], [.str ⟨#[42]⟩], [.str ⟨#[60]⟩], [.str ⟨#[61]⟩]] := by rw [hPL]; rfl
    have hPLl : PL.length = 5 := by rw [hPL]; rfl
    repeat (first | refine AWp.seq ?_ | refine AWp.block ?_)
    refine AWp.le (Le.low [] [] (fr := [(2, .ptr 2 0), (3, .ptr 3 0), (4, .ptr 4 0), (5, .d (.str W2)), (8, .ptr 8 0), (9, .clo 138 [.ptr 8 0, .ptr 2 0, .ptr 3 0]), (10, .d (.int 0)), (45, .d (strsD PL)), (46, .d (.int (PL.length : Int))), (47, .d (.int 0))]) (mem := [(2, some (.blk 100 [.ptr 1000 0])), (3, some (.blk 3 [.d (.int dp)])), (4, some (.blk 34 [.d (.int 0), .d (.int 0), .d (.str ByteArray.empty), .d (.str ByteArray.empty), .lit (.slice none 0 0), .lit (.slice none 0 0), .lit (.slice none 0 0)])), (8, some (.blk 34 [.d (.int 0), .d (.int 0), .d (.str ByteArray.empty), .d (.str ByteArray.empty), .lit (.slice none 0 0), .lit (.slice none 0 0), .lit (.slice none 0 0)])), (1000, some (.blk 102 [.d (.str s), .d (.int (A3 : Int)), .d (.int e2)]))]) rfl (by simp [hPLm, hPLl]) (by simp [hPLm, hPLl])) ?_
    repeat (first | refine AWp.seq ?_ | refine AWp.block ?_)
    refine AWp.loop (σ := fun u : {u : Nat × Int // u.1 ≤ PL.length ∧ primI W2 primsL 0 0 = primI W2 (PL.drop u.1) (u.1 : Int) u.2} => ⟨122, [(2, .ptr 2 0), (3, .ptr 3 0), (4, .ptr 4 0), (5, .d (.str W2)), (8, .ptr 8 0), (9, .clo 138 [.ptr 8 0, .ptr 2 0, .ptr 3 0]), (10, .d (.int u.1.2)), (45, .d (strsD PL)), (46, .d (.int (PL.length : Int))), (47, .d (.int (u.1.1 : Int)))], [(2, some (.blk 100 [.ptr 1000 0])), (3, some (.blk 3 [.d (.int dp)])), (4, some (.blk 34 [.d (.int 0), .d (.int 0), .d (.str ByteArray.empty), .d (.str ByteArray.empty), .lit (.slice none 0 0), .lit (.slice none 0 0), .lit (.slice none 0 0)])), (8, some (.blk 34 [.d (.int 0), .d (.int 0), .d (.str ByteArray.empty), .d (.str ByteArray.empty), .lit (.slice none 0 0), .lit (.slice none 0 0), .lit (.slice none 0 0)])), (1000, some (.blk 102 [.d (.str s), .d (.int (A3 : Int)), .d (.int e2)]))]⟩)
      (μ := fun u => PL.length - u.1.1) ⟨(0, 0), ⟨Nat.zero_le _, by rw [hPL, List.drop_zero]; rfl⟩⟩ (Le.sub (by simp) (by simp)) (fun ⟨(i, r), ⟨hi19, hw⟩⟩ => ?_)
    dsimp only at hi19 hw ⊢
    refine AWp.rg [] [] ?_ (hr := by conv => lhs; simp [hd24, q1t])
    repeat (first | refine AWp.seq ?_ | refine AWp.block ?_)
    refine AWp.cond rfl (fun hc => ?_) (fun hc => ?_)
    · have hi1 : i < PL.length := by have := of_decide_eq_true hc; omega
      clear hc
      have h1x : PL[i]? = some PL[i] := List.getElem?_eq_getElem hi1
      have hmx : PL[i] ∈ PL := List.getElem_mem hi1
      have hdx : PL.drop i = PL[i] :: PL.drop (i + 1) := List.drop_eq_getElem_cons hi1
      generalize PL[i] = x at h1x hmx hdx
      rw [hdx, primI] at hw
      refine AWp.skip ?_
      refine AWp.rg [] [] ?_ (hr := by conv => lhs; simp [h1x, hd24, q1t])
      by_cases q2 : W2 = x
      · have q2t := eq_true q2
        refine AWp.rg [] [] ?_ (hr := by conv => lhs; simp [h1x, hd24, q1t, q2t])
        refine AWp.cy ?_
        refine AWp.rg [] [] ?_ (hr := by conv => lhs; simp [h1x, hd24, q1t, q2t])
        refine AWp.rg [] [] ?_ (hr := by conv => lhs; simp [h1x, hd24, q1t, q2t])
        refine ⟨⟨(i + 1, ((i : Int) + 1)), hi1, by push_cast; rw [hw, if_pos (q2)]⟩, by simp; omega, ?_⟩
        dsimp only
        exact Le.sub (by simp) (by simp)
      refine AWp.rg [] [] ?_ (hr := by conv => lhs; simp [h1x, hd24, q1t, q2])
      refine AWp.cn ?_
      refine AWp.skip ?_
      refine AWp.rg [] [] ?_ (hr := by conv => lhs; simp [h1x, hd24, q1t, q2])
      refine ⟨⟨(i + 1, r), hi1, by push_cast; rw [hw, if_neg q2]⟩, by simp; omega, ?_⟩
      dsimp only
      exact Le.sub (by simp) (by simp)
    have hi1 : i = PL.length := by have := of_decide_eq_false hc; omega
    subst hi1
    clear hc
    rw [List.drop_length, primI] at hw
    refine AWp.exit ?_
    obtain ⟨M, hM⟩ : ∃ M : Int, (W2.size : Int) = M := ⟨_, rfl⟩
    by_cases hl : 0 < M
    · have h1c : W2[0]? = some W2[0] := by rw [getElem?_pos]
      generalize W2[0] = c at h1c
      have hsh := sharp_of h1c
      obtain ⟨cn, hcn⟩ : ∃ n : Int, (c.toNat : Int) = n := ⟨_, rfl⟩
      rw [hcn] at hsh
      by_cases q3 : cn = 35
      · have q3t := eq_true q3
        refine AWp.rg [] [] ?_ (hr := by conv => lhs; simp [hM, h1c, hcn, hd24, q1t, hl, q3t])
        refine AWp.cy ?_
        rw [show decide (cn = 35) = true from decide_eq_true q3] at hsh
        rw [formP] at hR
        rw [if_pos hsh] at hR
        have htg := cs_tag s A3 e2 hA22 hs
        have ht := tagP_adv (g := false) (s := s) (p := (A3, e2)) hA22
        generalize tagP false s (A3, e2) = t at htg ht hR
        obtain ⟨tg, A4, e4⟩ := t
        have h4s := ht.sz
        dsimp only at htg h4s hR
        have hmn := cs_manyT s 3 tg .empty n dp A4 e4 h4s hs (fun us a e hul ha => cs_pT1 s 3 tg .empty dp n us a e hd0 hd1 hul (hx a e ha))
        simp only [List.length_nil, List.map_nil] at hmn
        generalize manyP s (Tm.ps false s n) (s.size + 2) (A4, e4) = y at hmn hR
        obtain ⟨us, A5, e5⟩ := y
        dsimp only at hmn hR
        refine AWp.rg [] [.c [] [.ptr 1000 0] [(1000, .blk 102 [.d (.str s), .d (.int (A3 : Int)), .d (.int e2)])] (.d (.int tg)) [(1000, .blk 102 [.d (.str s), .d (.int (A4 : Int)), .d (.int e4)])]] ?_ (hr := by conv => lhs; simp [hd24, q1t])
        repeat (first | refine AWp.seq ?_ | refine AWp.block ?_)
        refine AWp.le (Le.low [400] [] (fr := [(2, .ptr 2 0), (3, .ptr 3 0), (4, .ptr 4 0), (5, .d (.str W2)), (8, .ptr 8 0), (9, .clo 138 [.ptr 8 0, .ptr 2 0, .ptr 3 0])]) (mem := [(2, some (.blk 100 [.ptr 1000 0])), (3, some (.blk 3 [.d (.int dp)])), (4, some (.blk 34 [.d (.int 0), .d (.int 0), .d (.str ByteArray.empty), .d (.str ByteArray.empty), .lit (.slice none 0 0), .lit (.slice none 0 0), .lit (.slice none 0 0)])), (8, some (.blk 34 [.d (.int 3), .d (.int tg), .d (.str .empty), .d (.str ByteArray.empty), .lit (.slice none 0 0), .arr 400 0 0, .lit (.slice none 0 0)])), (400, some (.arr 34 7 ([]))), (1000, some (.blk 102 [.d (.str s), .d (.int (A4 : Int)), .d (.int e4)]))]) rfl (by simp) (by simp)) ?_
        refine AWp.rg [] [.c [(1001, 8), (1002, 2), (1003, 3), (500, 400)] [.ptr 1000 0, .clo 138 [.ptr 1001 0, .ptr 1002 0, .ptr 1003 0]] [(1000, .blk 102 [.d (.str s), .d (.int (A4 : Int)), .d (.int e4)]), (1001, .blk 34 [.d (.int 3), .d (.int tg), .d (.str .empty), .d (.str ByteArray.empty), .lit (.slice none 0 0), .arr 500 0 0, .lit (.slice none 0 0)]), (1002, .blk 100 [.ptr 1000 0]), (1003, .blk 3 [.d (.int dp)]), (500, .arr 34 7 ([]))] (.tuple []) [(1000, .blk 102 [.d (.str s), .d (.int (A5 : Int)), .d (.int e5)]), (1001, .blk 34 [.d (.int 3), .d (.int tg), .d (.str .empty), .d (.str ByteArray.empty), .lit (.slice none 0 0), .arr 500 0 us.length, .lit (.slice none 0 0)]), (1002, .blk 100 [.ptr 1000 0]), (1003, .blk 3 [.d (.int dp)]), (500, .arr 34 7 (us.map Tm.row))]] ?_ (hr := by conv => lhs; simp [hd24, q1t])
        rw [hR]
        dsimp only
        apply AWp.frzs [400]
        · conv => lhs; simp
        refine AWp.rg [] [] ?_ (hr := by conv => lhs; simp [hd24, q1t])
        refine AWp.ret ?_
        try dsimp only [thenQ, blockQ]
        apply endC.ret
        · rfl
        · conv => lhs; simp [resAV, Tryd.results95]
        · first | rfl | simp [resVal, tmAV, Tm.row, Tm.rows_eq, Cs.rows_eq, AV.nilD, nilDL, strsD]
        · simp [moEnd, memGet]
      refine AWp.rg [] [] ?_ (hr := by conv => lhs; simp [hM, h1c, hcn, hd24, q1t, hl, q3])
      refine AWp.cn ?_
      by_cases q4 : W2 = ⟨#[108, 101, 116]⟩
      · have q4t := eq_true q4
        refine AWp.rg [] [] ?_ (hr := by conv => lhs; simp [hM, h1c, hcn, hd24, q1t, hl, q3, q4t])
        refine AWp.cy ?_
        rw [show decide (cn = 35) = false from decide_eq_false q3] at hsh
        rw [formP] at hR
        rw [if_neg (by rw [hsh]; exact Bool.false_ne_true), if_pos q4] at hR
        have hn4 := cs_Next s A3 e2 hA22 hs
        have hn4a := nxS_adv (s := s) (p := (A3, e2)) hA22
        rw [show pkW s A3 = W2 from by rw [hA3, pkW_pk, hW2]] at hn4
        generalize nxS s (A3, e2) = o4 at hn4 hn4a hR
        obtain ⟨A4, e4⟩ := o4
        have h4s := hn4a.sz
        dsimp only at hn4 h4s hR
        have hnm := cs_pname s A4 e4 h4s hs
        have hna := namP_adv (s := s) (p := (A4, e4)) h4s
        generalize namP s (A4, e4) = o5 at hnm hna hR
        obtain ⟨nm, A5, e5⟩ := o5
        have h5s := hna.sz
        dsimp only at hnm h5s hR
        have hg1 := cs_pT1 s 6 0 nm dp n [] A5 e5 hd0 hd1 (by simp) (hx A5 e5 h5s)
        have hps1 := ps_adv (g := false) (s := s) n (A5, e5) h5s
        generalize Tm.ps false s n (A5, e5) = o6 at hg1 hps1 hR
        obtain ⟨x, A6, e6⟩ := o6
        have h6s := hps1.sz
        dsimp only at hg1 h6s hR
        obtain ⟨u1, hu1⟩ : ∃ u, u = ([] : List Tm) ++ [x] := ⟨_, rfl⟩
        rw [← hu1] at hg1
        have hu1l : u1.length = 1 := by rw [hu1]; rfl
        simp only [List.length_nil, List.map_nil] at hg1
        have hg2 := cs_pT1 s 6 0 nm dp n u1 A6 e6 hd0 hd1 (by omega) (hx A6 e6 h6s)
        have hps2 := ps_adv (g := false) (s := s) n (A6, e6) h6s
        generalize Tm.ps false s n (A6, e6) = o7 at hg2 hps2 hR
        obtain ⟨y, A7, e7⟩ := o7
        have h7s := hps2.sz
        dsimp only at hg2 h7s hR
        obtain ⟨u2, hu2⟩ : ∃ u, u = u1 ++ [y] := ⟨_, rfl⟩
        rw [← hu2] at hg2
        have hu2l : u2.length = 2 := by rw [hu2]; rw [List.length_append, hu1l]; rfl
        have hwt := cs_want s rbr A7 e7 h7s hs
        generalize wantS s rbr (A7, e7) = o9 at hwt hR
        obtain ⟨A8, e8⟩ := o9
        dsimp only at hwt hR
        rw [show [x, y] = u2 from by rw [hu2, hu1]; rfl] at hR
        refine AWp.rg [] [.c [] [.ptr 1000 0] [(1000, .blk 102 [.d (.str s), .d (.int (A3 : Int)), .d (.int e2)])] (.d (.str W2)) [(1000, .blk 102 [.d (.str s), .d (.int (A4 : Int)), .d (.int e4)])]] ?_ (hr := by conv => lhs; simp [hd24, q1t, q4t])
        refine AWp.rg [] [.c [] [.ptr 1000 0] [(1000, .blk 102 [.d (.str s), .d (.int (A4 : Int)), .d (.int e4)])] (.d (.str nm)) [(1000, .blk 102 [.d (.str s), .d (.int (A5 : Int)), .d (.int e5)])]] ?_ (hr := by conv => lhs; simp [hd24, q1t, q4t])
        repeat (first | refine AWp.seq ?_ | refine AWp.block ?_)
        refine AWp.le (Le.low [400] [] (fr := [(2, .ptr 2 0), (3, .ptr 3 0), (4, .ptr 4 0), (5, .d (.str W2)), (8, .ptr 8 0), (9, .clo 138 [.ptr 8 0, .ptr 2 0, .ptr 3 0])]) (mem := [(2, some (.blk 100 [.ptr 1000 0])), (3, some (.blk 3 [.d (.int dp)])), (4, some (.blk 34 [.d (.int 0), .d (.int 0), .d (.str ByteArray.empty), .d (.str ByteArray.empty), .lit (.slice none 0 0), .lit (.slice none 0 0), .lit (.slice none 0 0)])), (8, some (.blk 34 [.d (.int 6), .d (.int 0), .d (.str nm), .d (.str ByteArray.empty), .lit (.slice none 0 0), .arr 400 0 0, .lit (.slice none 0 0)])), (400, some (.arr 34 7 ([]))), (1000, some (.blk 102 [.d (.str s), .d (.int (A5 : Int)), .d (.int e5)]))]) rfl (by simp) (by simp)) ?_
        refine AWp.rg [] [.c [(1001, 8), (1002, 2), (1003, 3), (500, 400)] [.ptr 1001 0, .ptr 1002 0, .ptr 1003 0] [(1000, .blk 102 [.d (.str s), .d (.int (A5 : Int)), .d (.int e5)]), (1001, .blk 34 [.d (.int 6), .d (.int 0), .d (.str nm), .d (.str ByteArray.empty), .lit (.slice none 0 0), .arr 500 0 0, .lit (.slice none 0 0)]), (1002, .blk 100 [.ptr 1000 0]), (1003, .blk 3 [.d (.int dp)]), (500, .arr 34 7 ([]))] (.tuple []) [(1000, .blk 102 [.d (.str s), .d (.int (A6 : Int)), .d (.int e6)]), (1001, .blk 34 [.d (.int 6), .d (.int 0), .d (.str nm), .d (.str ByteArray.empty), .lit (.slice none 0 0), .arr 500 0 u1.length, .lit (.slice none 0 0)]), (1002, .blk 100 [.ptr 1000 0]), (1003, .blk 3 [.d (.int dp)]), (500, .arr 34 7 (u1.map Tm.row))]] ?_ (hr := by conv => lhs; simp [hd24, q1t, q4t])
        refine AWp.rg [] [.c [(1001, 8), (1002, 2), (1003, 3), (500, 400)] [.ptr 1001 0, .ptr 1002 0, .ptr 1003 0] [(1000, .blk 102 [.d (.str s), .d (.int (A6 : Int)), .d (.int e6)]), (1001, .blk 34 [.d (.int 6), .d (.int 0), .d (.str nm), .d (.str ByteArray.empty), .lit (.slice none 0 0), .arr 500 0 u1.length, .lit (.slice none 0 0)]), (1002, .blk 100 [.ptr 1000 0]), (1003, .blk 3 [.d (.int dp)]), (500, .arr 34 7 (u1.map Tm.row))] (.tuple []) [(1000, .blk 102 [.d (.str s), .d (.int (A7 : Int)), .d (.int e7)]), (1001, .blk 34 [.d (.int 6), .d (.int 0), .d (.str nm), .d (.str ByteArray.empty), .lit (.slice none 0 0), .arr 500 0 u2.length, .lit (.slice none 0 0)]), (1002, .blk 100 [.ptr 1000 0]), (1003, .blk 3 [.d (.int dp)]), (500, .arr 34 7 (u2.map Tm.row))]] ?_ (hr := by conv => lhs; simp [hd24, q1t, q4t])
        refine AWp.rg [] [.c [] [.ptr 1000 0, .d (.str (⟨#[41]⟩))] [(1000, .blk 102 [.d (.str s), .d (.int (A7 : Int)), .d (.int e7)])] (.tuple []) [(1000, .blk 102 [.d (.str s), .d (.int (A8 : Int)), .d (.int e8)])]] ?_ (hr := by conv => lhs; simp [hd24, q1t, q4t])
        rw [hR]
        dsimp only
        apply AWp.frzs [400]
        · conv => lhs; simp
        refine AWp.rg [] [] ?_ (hr := by conv => lhs; simp [hd24, q1t, q4t])
        refine AWp.ret ?_
        try dsimp only [thenQ, blockQ]
        apply endC.ret
        · rfl
        · conv => lhs; simp [resAV, Tryd.results95]
        · first | rfl | simp [resVal, tmAV, Tm.row, Tm.rows_eq, Cs.rows_eq, AV.nilD, nilDL, strsD]
        · simp [moEnd, memGet]
      refine AWp.rg [] [] ?_ (hr := by conv => lhs; simp [hM, h1c, hcn, hd24, q1t, hl, q3, q4])
      refine AWp.cn ?_
      by_cases q5 : W2 = ⟨#[109, 97, 116, 99, 104]⟩
      · have q5t := eq_true q5
        refine AWp.rg [] [] ?_ (hr := by conv => lhs; simp [hM, h1c, hcn, hd24, q1t, hl, q3, q4, q5t])
        refine AWp.cy ?_
        rw [show decide (cn = 35) = false from decide_eq_false q3] at hsh
        rw [formP] at hR
        rw [if_neg (by rw [hsh]; exact Bool.false_ne_true), if_neg q4, if_pos q5] at hR
        have hn4 := cs_Next s A3 e2 hA22 hs
        have hn4a := nxS_adv (s := s) (p := (A3, e2)) hA22
        rw [show pkW s A3 = W2 from by rw [hA3, pkW_pk, hW2]] at hn4
        generalize nxS s (A3, e2) = o4 at hn4 hn4a hR
        obtain ⟨A4, e4⟩ := o4
        have h4s := hn4a.sz
        dsimp only at hn4 h4s hR
        have hg1 := cs_pT1 s 7 0 .empty dp n [] A4 e4 hd0 hd1 (by simp) (hx A4 e4 h4s)
        have hps1 := ps_adv (g := false) (s := s) n (A4, e4) h4s
        generalize Tm.ps false s n (A4, e4) = o5 at hg1 hps1 hR
        obtain ⟨x, A5, e5⟩ := o5
        have h5s := hps1.sz
        dsimp only at hg1 h5s hR
        obtain ⟨u1, hu1⟩ : ∃ u, u = ([] : List Tm) ++ [x] := ⟨_, rfl⟩
        rw [← hu1] at hg1
        have hu1l : u1.length = 1 := by rw [hu1]; rfl
        simp only [List.length_nil, List.map_nil] at hg1
        rw [show [x] = u1 from by rw [hu1]; rfl] at hR
        have hmn := cs_manyC s 7 0 .empty n u1 dp A5 e5 h5s hs (fun us a e hul ha => cs_pT2 s 7 0 .empty dp n u1 us a e hd0 hd1 hul ha hs hx)
        simp only [List.length_nil, List.map_nil] at hmn
        generalize manyP s (casP false s (Tm.ps false s n)) (s.size + 2) (A5, e5) = y at hmn hR
        obtain ⟨us, A6, e6⟩ := y
        dsimp only at hmn hR
        refine AWp.rg [] [.c [] [.ptr 1000 0] [(1000, .blk 102 [.d (.str s), .d (.int (A3 : Int)), .d (.int e2)])] (.d (.str W2)) [(1000, .blk 102 [.d (.str s), .d (.int (A4 : Int)), .d (.int e4)])]] ?_ (hr := by conv => lhs; simp [hd24, q1t, q4, q5t])
        refine AWp.rg [] [] ?_ (hr := by conv => lhs; simp [hd24, q1t, q4, q5t])
        repeat (first | refine AWp.seq ?_ | refine AWp.block ?_)
        refine AWp.le (Le.low [400] [] (fr := [(2, .ptr 2 0), (3, .ptr 3 0), (4, .ptr 4 0), (5, .d (.str W2)), (8, .ptr 8 0), (9, .clo 138 [.ptr 8 0, .ptr 2 0, .ptr 3 0])]) (mem := [(2, some (.blk 100 [.ptr 1000 0])), (3, some (.blk 3 [.d (.int dp)])), (4, some (.blk 34 [.d (.int 0), .d (.int 0), .d (.str ByteArray.empty), .d (.str ByteArray.empty), .lit (.slice none 0 0), .lit (.slice none 0 0), .lit (.slice none 0 0)])), (8, some (.blk 34 [.d (.int 7), .d (.int 0), .d (.str .empty), .d (.str ByteArray.empty), .lit (.slice none 0 0), .arr 400 0 0, .lit (.slice none 0 0)])), (400, some (.arr 34 7 ([]))), (1000, some (.blk 102 [.d (.str s), .d (.int (A4 : Int)), .d (.int e4)]))]) rfl (by simp) (by simp)) ?_
        refine AWp.rg [] [.c [(1001, 8), (1002, 2), (1003, 3), (500, 400)] [.ptr 1001 0, .ptr 1002 0, .ptr 1003 0] [(1000, .blk 102 [.d (.str s), .d (.int (A4 : Int)), .d (.int e4)]), (1001, .blk 34 [.d (.int 7), .d (.int 0), .d (.str .empty), .d (.str ByteArray.empty), .lit (.slice none 0 0), .arr 500 0 0, .lit (.slice none 0 0)]), (1002, .blk 100 [.ptr 1000 0]), (1003, .blk 3 [.d (.int dp)]), (500, .arr 34 7 ([]))] (.tuple []) [(1000, .blk 102 [.d (.str s), .d (.int (A5 : Int)), .d (.int e5)]), (1001, .blk 34 [.d (.int 7), .d (.int 0), .d (.str .empty), .d (.str ByteArray.empty), .lit (.slice none 0 0), .arr 500 0 u1.length, .lit (.slice none 0 0)]), (1002, .blk 100 [.ptr 1000 0]), (1003, .blk 3 [.d (.int dp)]), (500, .arr 34 7 (u1.map Tm.row))]] ?_ (hr := by conv => lhs; simp [hd24, q1t, q4, q5t])
        repeat (first | refine AWp.seq ?_ | refine AWp.block ?_)
        refine AWp.le (Le.low [401] [] (fr := [(2, .ptr 2 0), (3, .ptr 3 0), (4, .ptr 4 0), (5, .d (.str W2)), (8, .ptr 8 0), (9, .clo 138 [.ptr 8 0, .ptr 2 0, .ptr 3 0])]) (mem := [(2, some (.blk 100 [.ptr 1000 0])), (3, some (.blk 3 [.d (.int dp)])), (4, some (.blk 34 [.d (.int 0), .d (.int 0), .d (.str ByteArray.empty), .d (.str ByteArray.empty), .lit (.slice none 0 0), .lit (.slice none 0 0), .lit (.slice none 0 0)])), (8, some (.blk 34 [.d (.int 7), .d (.int 0), .d (.str .empty), .d (.str ByteArray.empty), .lit (.slice none 0 0), .arr 400 0 u1.length, .arr 401 0 0])), (400, some (.arr 34 7 (u1.map Tm.row))), (401, some (.arr 40 9 ([]))), (1000, some (.blk 102 [.d (.str s), .d (.int (A5 : Int)), .d (.int e5)]))]) rfl (by simp) (by simp)) ?_
        refine AWp.rg [] [.c [(1001, 8), (1002, 2), (1003, 3), (500, 400), (501, 401)] [.ptr 1000 0, .clo 140 [.ptr 1002 0, .ptr 1003 0, .ptr 1001 0]] [(1000, .blk 102 [.d (.str s), .d (.int (A5 : Int)), .d (.int e5)]), (1001, .blk 34 [.d (.int 7), .d (.int 0), .d (.str .empty), .d (.str ByteArray.empty), .lit (.slice none 0 0), .arr 500 0 u1.length, .arr 501 0 0]), (1002, .blk 100 [.ptr 1000 0]), (1003, .blk 3 [.d (.int dp)]), (500, .arr 34 7 (u1.map Tm.row)), (501, .arr 40 9 ([]))] (.tuple []) [(1000, .blk 102 [.d (.str s), .d (.int (A6 : Int)), .d (.int e6)]), (1001, .blk 34 [.d (.int 7), .d (.int 0), .d (.str .empty), .d (.str ByteArray.empty), .lit (.slice none 0 0), .arr 500 0 u1.length, .arr 501 0 us.length]), (1002, .blk 100 [.ptr 1000 0]), (1003, .blk 3 [.d (.int dp)]), (500, .arr 34 7 (u1.map Tm.row)), (501, .arr 40 9 (us.map Cs.row))]] ?_ (hr := by conv => lhs; simp [hd24, q1t, q4, q5t])
        rw [hR]
        dsimp only
        apply AWp.frzs [400, 401]
        · conv => lhs; simp
        refine AWp.rg [] [] ?_ (hr := by conv => lhs; simp [hd24, q1t, q4, q5t])
        refine AWp.ret ?_
        try dsimp only [thenQ, blockQ]
        apply endC.ret
        · rfl
        · conv => lhs; simp [resAV, Tryd.results95]
        · first | rfl | simp [resVal, tmAV, Tm.row, Tm.rows_eq, Cs.rows_eq, AV.nilD, nilDL, strsD]
        · simp [moEnd, memGet]
      refine AWp.rg [] [] ?_ (hr := by conv => lhs; simp [hM, h1c, hcn, hd24, q1t, hl, q3, q4, q5])
      refine AWp.cn ?_
      by_cases q6 : 0 < r
      · refine AWp.rg [] [] ?_ (hr := by conv => lhs; simp [hM, h1c, hcn, hd24, q1t, hl, q3, q4, q5, q6])
        refine AWp.cy ?_
        rw [show decide (cn = 35) = false from decide_eq_false q3] at hsh
        rw [formP] at hR
        rw [if_neg (by rw [hsh]; exact Bool.false_ne_true), if_neg q4, if_neg q5, hw, if_pos q6] at hR
        have hn4 := cs_Next s A3 e2 hA22 hs
        have hn4a := nxS_adv (s := s) (p := (A3, e2)) hA22
        rw [show pkW s A3 = W2 from by rw [hA3, pkW_pk, hW2]] at hn4
        generalize nxS s (A3, e2) = o4 at hn4 hn4a hR
        obtain ⟨A4, e4⟩ := o4
        have h4s := hn4a.sz
        dsimp only at hn4 h4s hR
        have hg1 := cs_pT1 s 5 r .empty dp n [] A4 e4 hd0 hd1 (by simp) (hx A4 e4 h4s)
        have hps1 := ps_adv (g := false) (s := s) n (A4, e4) h4s
        generalize Tm.ps false s n (A4, e4) = o5 at hg1 hps1 hR
        obtain ⟨x, A5, e5⟩ := o5
        have h5s := hps1.sz
        dsimp only at hg1 h5s hR
        obtain ⟨u1, hu1⟩ : ∃ u, u = ([] : List Tm) ++ [x] := ⟨_, rfl⟩
        rw [← hu1] at hg1
        have hu1l : u1.length = 1 := by rw [hu1]; rfl
        simp only [List.length_nil, List.map_nil] at hg1
        have hg2 := cs_pT1 s 5 r .empty dp n u1 A5 e5 hd0 hd1 (by omega) (hx A5 e5 h5s)
        have hps2 := ps_adv (g := false) (s := s) n (A5, e5) h5s
        generalize Tm.ps false s n (A5, e5) = o6 at hg2 hps2 hR
        obtain ⟨y, A6, e6⟩ := o6
        have h6s := hps2.sz
        dsimp only at hg2 h6s hR
        obtain ⟨u2, hu2⟩ : ∃ u, u = u1 ++ [y] := ⟨_, rfl⟩
        rw [← hu2] at hg2
        have hu2l : u2.length = 2 := by rw [hu2]; rw [List.length_append, hu1l]; rfl
        have hwt := cs_want s rbr A6 e6 h6s hs
        generalize wantS s rbr (A6, e6) = o9 at hwt hR
        obtain ⟨A7, e7⟩ := o9
        dsimp only at hwt hR
        rw [show [x, y] = u2 from by rw [hu2, hu1]; rfl] at hR
        refine AWp.rg [] [.c [] [.ptr 1000 0] [(1000, .blk 102 [.d (.str s), .d (.int (A3 : Int)), .d (.int e2)])] (.d (.str W2)) [(1000, .blk 102 [.d (.str s), .d (.int (A4 : Int)), .d (.int e4)])]] ?_ (hr := by conv => lhs; simp [hd24, q1t, q4, q5, q6])
        refine AWp.rg [] [] ?_ (hr := by conv => lhs; simp [hd24, q1t, q4, q5, q6])
        repeat (first | refine AWp.seq ?_ | refine AWp.block ?_)
        refine AWp.le (Le.low [400] [] (fr := [(2, .ptr 2 0), (3, .ptr 3 0), (4, .ptr 4 0), (5, .d (.str W2)), (8, .ptr 8 0), (9, .clo 138 [.ptr 8 0, .ptr 2 0, .ptr 3 0])]) (mem := [(2, some (.blk 100 [.ptr 1000 0])), (3, some (.blk 3 [.d (.int dp)])), (4, some (.blk 34 [.d (.int 0), .d (.int 0), .d (.str ByteArray.empty), .d (.str ByteArray.empty), .lit (.slice none 0 0), .lit (.slice none 0 0), .lit (.slice none 0 0)])), (8, some (.blk 34 [.d (.int 5), .d (.int r), .d (.str .empty), .d (.str ByteArray.empty), .lit (.slice none 0 0), .arr 400 0 0, .lit (.slice none 0 0)])), (400, some (.arr 34 7 ([]))), (1000, some (.blk 102 [.d (.str s), .d (.int (A4 : Int)), .d (.int e4)]))]) rfl (by simp) (by simp)) ?_
        refine AWp.rg [] [.c [(1001, 8), (1002, 2), (1003, 3), (500, 400)] [.ptr 1001 0, .ptr 1002 0, .ptr 1003 0] [(1000, .blk 102 [.d (.str s), .d (.int (A4 : Int)), .d (.int e4)]), (1001, .blk 34 [.d (.int 5), .d (.int r), .d (.str .empty), .d (.str ByteArray.empty), .lit (.slice none 0 0), .arr 500 0 0, .lit (.slice none 0 0)]), (1002, .blk 100 [.ptr 1000 0]), (1003, .blk 3 [.d (.int dp)]), (500, .arr 34 7 ([]))] (.tuple []) [(1000, .blk 102 [.d (.str s), .d (.int (A5 : Int)), .d (.int e5)]), (1001, .blk 34 [.d (.int 5), .d (.int r), .d (.str .empty), .d (.str ByteArray.empty), .lit (.slice none 0 0), .arr 500 0 u1.length, .lit (.slice none 0 0)]), (1002, .blk 100 [.ptr 1000 0]), (1003, .blk 3 [.d (.int dp)]), (500, .arr 34 7 (u1.map Tm.row))]] ?_ (hr := by conv => lhs; simp [hd24, q1t, q4, q5, q6])
        refine AWp.rg [] [.c [(1001, 8), (1002, 2), (1003, 3), (500, 400)] [.ptr 1001 0, .ptr 1002 0, .ptr 1003 0] [(1000, .blk 102 [.d (.str s), .d (.int (A5 : Int)), .d (.int e5)]), (1001, .blk 34 [.d (.int 5), .d (.int r), .d (.str .empty), .d (.str ByteArray.empty), .lit (.slice none 0 0), .arr 500 0 u1.length, .lit (.slice none 0 0)]), (1002, .blk 100 [.ptr 1000 0]), (1003, .blk 3 [.d (.int dp)]), (500, .arr 34 7 (u1.map Tm.row))] (.tuple []) [(1000, .blk 102 [.d (.str s), .d (.int (A6 : Int)), .d (.int e6)]), (1001, .blk 34 [.d (.int 5), .d (.int r), .d (.str .empty), .d (.str ByteArray.empty), .lit (.slice none 0 0), .arr 500 0 u2.length, .lit (.slice none 0 0)]), (1002, .blk 100 [.ptr 1000 0]), (1003, .blk 3 [.d (.int dp)]), (500, .arr 34 7 (u2.map Tm.row))]] ?_ (hr := by conv => lhs; simp [hd24, q1t, q4, q5, q6])
        refine AWp.rg [] [.c [] [.ptr 1000 0, .d (.str (⟨#[41]⟩))] [(1000, .blk 102 [.d (.str s), .d (.int (A6 : Int)), .d (.int e6)])] (.tuple []) [(1000, .blk 102 [.d (.str s), .d (.int (A7 : Int)), .d (.int e7)])]] ?_ (hr := by conv => lhs; simp [hd24, q1t, q4, q5, q6])
        rw [hR]
        dsimp only
        apply AWp.frzs [400]
        · conv => lhs; simp
        refine AWp.rg [] [] ?_ (hr := by conv => lhs; simp [hd24, q1t, q4, q5, q6])
        refine AWp.ret ?_
        try dsimp only [thenQ, blockQ]
        apply endC.ret
        · rfl
        · conv => lhs; simp [resAV, Tryd.results95]
        · first | rfl | simp [resVal, tmAV, Tm.row, Tm.rows_eq, Cs.rows_eq, AV.nilD, nilDL, strsD]
        · simp [moEnd, memGet]
      refine AWp.rg [] [] ?_ (hr := by conv => lhs; simp [hM, h1c, hcn, hd24, q1t, hl, q3, q4, q5, q6])
      refine AWp.cn ?_
      rw [show decide (cn = 35) = false from decide_eq_false q3] at hsh
      rw [formP] at hR
      rw [if_neg (by rw [hsh]; exact Bool.false_ne_true), if_neg q4, if_neg q5, hw, if_neg q6] at hR
      have hnm := cs_pname s A3 e2 hA22 hs
      have hna := namP_adv (s := s) (p := (A3, e2)) hA22
      generalize namP s (A3, e2) = o4 at hnm hna hR
      obtain ⟨nm, A4, e4⟩ := o4
      have h4s := hna.sz
      dsimp only at hnm h4s hR
      have hmn := cs_manyT s 4 0 nm n dp A4 e4 h4s hs (fun us a e hul ha => cs_pT1 s 4 0 nm dp n us a e hd0 hd1 hul (hx a e ha))
      simp only [List.length_nil, List.map_nil] at hmn
      generalize manyP s (Tm.ps false s n) (s.size + 2) (A4, e4) = y at hmn hR
      obtain ⟨us, A5, e5⟩ := y
      dsimp only at hmn hR
      refine AWp.rg [] [.c [] [.ptr 1000 0] [(1000, .blk 102 [.d (.str s), .d (.int (A3 : Int)), .d (.int e2)])] (.d (.str nm)) [(1000, .blk 102 [.d (.str s), .d (.int (A4 : Int)), .d (.int e4)])]] ?_ (hr := by conv => lhs; simp [hd24, q1t, q4, q5, q6])
      repeat (first | refine AWp.seq ?_ | refine AWp.block ?_)
      refine AWp.le (Le.low [400] [] (fr := [(2, .ptr 2 0), (3, .ptr 3 0), (4, .ptr 4 0), (5, .d (.str W2)), (8, .ptr 8 0), (9, .clo 138 [.ptr 8 0, .ptr 2 0, .ptr 3 0])]) (mem := [(2, some (.blk 100 [.ptr 1000 0])), (3, some (.blk 3 [.d (.int dp)])), (4, some (.blk 34 [.d (.int 0), .d (.int 0), .d (.str ByteArray.empty), .d (.str ByteArray.empty), .lit (.slice none 0 0), .lit (.slice none 0 0), .lit (.slice none 0 0)])), (8, some (.blk 34 [.d (.int 4), .d (.int 0), .d (.str nm), .d (.str ByteArray.empty), .lit (.slice none 0 0), .arr 400 0 0, .lit (.slice none 0 0)])), (400, some (.arr 34 7 ([]))), (1000, some (.blk 102 [.d (.str s), .d (.int (A4 : Int)), .d (.int e4)]))]) rfl (by simp) (by simp)) ?_
      refine AWp.rg [] [.c [(1001, 8), (1002, 2), (1003, 3), (500, 400)] [.ptr 1000 0, .clo 138 [.ptr 1001 0, .ptr 1002 0, .ptr 1003 0]] [(1000, .blk 102 [.d (.str s), .d (.int (A4 : Int)), .d (.int e4)]), (1001, .blk 34 [.d (.int 4), .d (.int 0), .d (.str nm), .d (.str ByteArray.empty), .lit (.slice none 0 0), .arr 500 0 0, .lit (.slice none 0 0)]), (1002, .blk 100 [.ptr 1000 0]), (1003, .blk 3 [.d (.int dp)]), (500, .arr 34 7 ([]))] (.tuple []) [(1000, .blk 102 [.d (.str s), .d (.int (A5 : Int)), .d (.int e5)]), (1001, .blk 34 [.d (.int 4), .d (.int 0), .d (.str nm), .d (.str ByteArray.empty), .lit (.slice none 0 0), .arr 500 0 us.length, .lit (.slice none 0 0)]), (1002, .blk 100 [.ptr 1000 0]), (1003, .blk 3 [.d (.int dp)]), (500, .arr 34 7 (us.map Tm.row))]] ?_ (hr := by conv => lhs; simp [hd24, q1t, q4, q5, q6])
      rw [hR]
      dsimp only
      apply AWp.frzs [400]
      · conv => lhs; simp
      refine AWp.rg [] [] ?_ (hr := by conv => lhs; simp [hd24, q1t, q4, q5, q6])
      refine AWp.ret ?_
      try dsimp only [thenQ, blockQ]
      apply endC.ret
      · rfl
      · conv => lhs; simp [resAV, Tryd.results95]
      · first | rfl | simp [resVal, tmAV, Tm.row, Tm.rows_eq, Cs.rows_eq, AV.nilD, nilDL, strsD]
      · simp [moEnd, memGet]
    have hsh : sharp W2 = false := sharp_zero (by omega)
    refine AWp.rg [] [] ?_ (hr := by conv => lhs; simp [hM, hd24, q1t, hl])
    refine AWp.cn ?_
    by_cases q7 : W2 = ⟨#[108, 101, 116]⟩
    · have q7t := eq_true q7
      refine AWp.rg [] [] ?_ (hr := by conv => lhs; simp [hM, hd24, q1t, hl, q7t])
      refine AWp.cy ?_
      rw [formP] at hR
      rw [if_neg (by rw [hsh]; exact Bool.false_ne_true), if_pos q7] at hR
      have hn4 := cs_Next s A3 e2 hA22 hs
      have hn4a := nxS_adv (s := s) (p := (A3, e2)) hA22
      rw [show pkW s A3 = W2 from by rw [hA3, pkW_pk, hW2]] at hn4
      generalize nxS s (A3, e2) = o4 at hn4 hn4a hR
      obtain ⟨A4, e4⟩ := o4
      have h4s := hn4a.sz
      dsimp only at hn4 h4s hR
      have hnm := cs_pname s A4 e4 h4s hs
      have hna := namP_adv (s := s) (p := (A4, e4)) h4s
      generalize namP s (A4, e4) = o5 at hnm hna hR
      obtain ⟨nm, A5, e5⟩ := o5
      have h5s := hna.sz
      dsimp only at hnm h5s hR
      have hg1 := cs_pT1 s 6 0 nm dp n [] A5 e5 hd0 hd1 (by simp) (hx A5 e5 h5s)
      have hps1 := ps_adv (g := false) (s := s) n (A5, e5) h5s
      generalize Tm.ps false s n (A5, e5) = o6 at hg1 hps1 hR
      obtain ⟨x, A6, e6⟩ := o6
      have h6s := hps1.sz
      dsimp only at hg1 h6s hR
      obtain ⟨u1, hu1⟩ : ∃ u, u = ([] : List Tm) ++ [x] := ⟨_, rfl⟩
      rw [← hu1] at hg1
      have hu1l : u1.length = 1 := by rw [hu1]; rfl
      simp only [List.length_nil, List.map_nil] at hg1
      have hg2 := cs_pT1 s 6 0 nm dp n u1 A6 e6 hd0 hd1 (by omega) (hx A6 e6 h6s)
      have hps2 := ps_adv (g := false) (s := s) n (A6, e6) h6s
      generalize Tm.ps false s n (A6, e6) = o7 at hg2 hps2 hR
      obtain ⟨y, A7, e7⟩ := o7
      have h7s := hps2.sz
      dsimp only at hg2 h7s hR
      obtain ⟨u2, hu2⟩ : ∃ u, u = u1 ++ [y] := ⟨_, rfl⟩
      rw [← hu2] at hg2
      have hu2l : u2.length = 2 := by rw [hu2]; rw [List.length_append, hu1l]; rfl
      have hwt := cs_want s rbr A7 e7 h7s hs
      generalize wantS s rbr (A7, e7) = o9 at hwt hR
      obtain ⟨A8, e8⟩ := o9
      dsimp only at hwt hR
      rw [show [x, y] = u2 from by rw [hu2, hu1]; rfl] at hR
      refine AWp.rg [] [.c [] [.ptr 1000 0] [(1000, .blk 102 [.d (.str s), .d (.int (A3 : Int)), .d (.int e2)])] (.d (.str W2)) [(1000, .blk 102 [.d (.str s), .d (.int (A4 : Int)), .d (.int e4)])]] ?_ (hr := by conv => lhs; simp [hd24, q1t, q7t])
      refine AWp.rg [] [.c [] [.ptr 1000 0] [(1000, .blk 102 [.d (.str s), .d (.int (A4 : Int)), .d (.int e4)])] (.d (.str nm)) [(1000, .blk 102 [.d (.str s), .d (.int (A5 : Int)), .d (.int e5)])]] ?_ (hr := by conv => lhs; simp [hd24, q1t, q7t])
      repeat (first | refine AWp.seq ?_ | refine AWp.block ?_)
      refine AWp.le (Le.low [400] [] (fr := [(2, .ptr 2 0), (3, .ptr 3 0), (4, .ptr 4 0), (5, .d (.str W2)), (8, .ptr 8 0), (9, .clo 138 [.ptr 8 0, .ptr 2 0, .ptr 3 0])]) (mem := [(2, some (.blk 100 [.ptr 1000 0])), (3, some (.blk 3 [.d (.int dp)])), (4, some (.blk 34 [.d (.int 0), .d (.int 0), .d (.str ByteArray.empty), .d (.str ByteArray.empty), .lit (.slice none 0 0), .lit (.slice none 0 0), .lit (.slice none 0 0)])), (8, some (.blk 34 [.d (.int 6), .d (.int 0), .d (.str nm), .d (.str ByteArray.empty), .lit (.slice none 0 0), .arr 400 0 0, .lit (.slice none 0 0)])), (400, some (.arr 34 7 ([]))), (1000, some (.blk 102 [.d (.str s), .d (.int (A5 : Int)), .d (.int e5)]))]) rfl (by simp) (by simp)) ?_
      refine AWp.rg [] [.c [(1001, 8), (1002, 2), (1003, 3), (500, 400)] [.ptr 1001 0, .ptr 1002 0, .ptr 1003 0] [(1000, .blk 102 [.d (.str s), .d (.int (A5 : Int)), .d (.int e5)]), (1001, .blk 34 [.d (.int 6), .d (.int 0), .d (.str nm), .d (.str ByteArray.empty), .lit (.slice none 0 0), .arr 500 0 0, .lit (.slice none 0 0)]), (1002, .blk 100 [.ptr 1000 0]), (1003, .blk 3 [.d (.int dp)]), (500, .arr 34 7 ([]))] (.tuple []) [(1000, .blk 102 [.d (.str s), .d (.int (A6 : Int)), .d (.int e6)]), (1001, .blk 34 [.d (.int 6), .d (.int 0), .d (.str nm), .d (.str ByteArray.empty), .lit (.slice none 0 0), .arr 500 0 u1.length, .lit (.slice none 0 0)]), (1002, .blk 100 [.ptr 1000 0]), (1003, .blk 3 [.d (.int dp)]), (500, .arr 34 7 (u1.map Tm.row))]] ?_ (hr := by conv => lhs; simp [hd24, q1t, q7t])
      refine AWp.rg [] [.c [(1001, 8), (1002, 2), (1003, 3), (500, 400)] [.ptr 1001 0, .ptr 1002 0, .ptr 1003 0] [(1000, .blk 102 [.d (.str s), .d (.int (A6 : Int)), .d (.int e6)]), (1001, .blk 34 [.d (.int 6), .d (.int 0), .d (.str nm), .d (.str ByteArray.empty), .lit (.slice none 0 0), .arr 500 0 u1.length, .lit (.slice none 0 0)]), (1002, .blk 100 [.ptr 1000 0]), (1003, .blk 3 [.d (.int dp)]), (500, .arr 34 7 (u1.map Tm.row))] (.tuple []) [(1000, .blk 102 [.d (.str s), .d (.int (A7 : Int)), .d (.int e7)]), (1001, .blk 34 [.d (.int 6), .d (.int 0), .d (.str nm), .d (.str ByteArray.empty), .lit (.slice none 0 0), .arr 500 0 u2.length, .lit (.slice none 0 0)]), (1002, .blk 100 [.ptr 1000 0]), (1003, .blk 3 [.d (.int dp)]), (500, .arr 34 7 (u2.map Tm.row))]] ?_ (hr := by conv => lhs; simp [hd24, q1t, q7t])
      refine AWp.rg [] [.c [] [.ptr 1000 0, .d (.str (⟨#[41]⟩))] [(1000, .blk 102 [.d (.str s), .d (.int (A7 : Int)), .d (.int e7)])] (.tuple []) [(1000, .blk 102 [.d (.str s), .d (.int (A8 : Int)), .d (.int e8)])]] ?_ (hr := by conv => lhs; simp [hd24, q1t, q7t])
      rw [hR]
      dsimp only
      apply AWp.frzs [400]
      · conv => lhs; simp
      refine AWp.rg [] [] ?_ (hr := by conv => lhs; simp [hd24, q1t, q7t])
      refine AWp.ret ?_
      try dsimp only [thenQ, blockQ]
      apply endC.ret
      · rfl
      · conv => lhs; simp [resAV, Tryd.results95]
      · first | rfl | simp [resVal, tmAV, Tm.row, Tm.rows_eq, Cs.rows_eq, AV.nilD, nilDL, strsD]
      · simp [moEnd, memGet]
    refine AWp.rg [] [] ?_ (hr := by conv => lhs; simp [hM, hd24, q1t, hl, q7])
    refine AWp.cn ?_
    by_cases q8 : W2 = ⟨#[109, 97, 116, 99, 104]⟩
    · have q8t := eq_true q8
      refine AWp.rg [] [] ?_ (hr := by conv => lhs; simp [hM, hd24, q1t, hl, q7, q8t])
      refine AWp.cy ?_
      rw [formP] at hR
      rw [if_neg (by rw [hsh]; exact Bool.false_ne_true), if_neg q7, if_pos q8] at hR
      have hn4 := cs_Next s A3 e2 hA22 hs
      have hn4a := nxS_adv (s := s) (p := (A3, e2)) hA22
      rw [show pkW s A3 = W2 from by rw [hA3, pkW_pk, hW2]] at hn4
      generalize nxS s (A3, e2) = o4 at hn4 hn4a hR
      obtain ⟨A4, e4⟩ := o4
      have h4s := hn4a.sz
      dsimp only at hn4 h4s hR
      have hg1 := cs_pT1 s 7 0 .empty dp n [] A4 e4 hd0 hd1 (by simp) (hx A4 e4 h4s)
      have hps1 := ps_adv (g := false) (s := s) n (A4, e4) h4s
      generalize Tm.ps false s n (A4, e4) = o5 at hg1 hps1 hR
      obtain ⟨x, A5, e5⟩ := o5
      have h5s := hps1.sz
      dsimp only at hg1 h5s hR
      obtain ⟨u1, hu1⟩ : ∃ u, u = ([] : List Tm) ++ [x] := ⟨_, rfl⟩
      rw [← hu1] at hg1
      have hu1l : u1.length = 1 := by rw [hu1]; rfl
      simp only [List.length_nil, List.map_nil] at hg1
      rw [show [x] = u1 from by rw [hu1]; rfl] at hR
      have hmn := cs_manyC s 7 0 .empty n u1 dp A5 e5 h5s hs (fun us a e hul ha => cs_pT2 s 7 0 .empty dp n u1 us a e hd0 hd1 hul ha hs hx)
      simp only [List.length_nil, List.map_nil] at hmn
      generalize manyP s (casP false s (Tm.ps false s n)) (s.size + 2) (A5, e5) = y at hmn hR
      obtain ⟨us, A6, e6⟩ := y
      dsimp only at hmn hR
      refine AWp.rg [] [.c [] [.ptr 1000 0] [(1000, .blk 102 [.d (.str s), .d (.int (A3 : Int)), .d (.int e2)])] (.d (.str W2)) [(1000, .blk 102 [.d (.str s), .d (.int (A4 : Int)), .d (.int e4)])]] ?_ (hr := by conv => lhs; simp [hd24, q1t, q7, q8t])
      refine AWp.rg [] [] ?_ (hr := by conv => lhs; simp [hd24, q1t, q7, q8t])
      repeat (first | refine AWp.seq ?_ | refine AWp.block ?_)
      refine AWp.le (Le.low [400] [] (fr := [(2, .ptr 2 0), (3, .ptr 3 0), (4, .ptr 4 0), (5, .d (.str W2)), (8, .ptr 8 0), (9, .clo 138 [.ptr 8 0, .ptr 2 0, .ptr 3 0])]) (mem := [(2, some (.blk 100 [.ptr 1000 0])), (3, some (.blk 3 [.d (.int dp)])), (4, some (.blk 34 [.d (.int 0), .d (.int 0), .d (.str ByteArray.empty), .d (.str ByteArray.empty), .lit (.slice none 0 0), .lit (.slice none 0 0), .lit (.slice none 0 0)])), (8, some (.blk 34 [.d (.int 7), .d (.int 0), .d (.str .empty), .d (.str ByteArray.empty), .lit (.slice none 0 0), .arr 400 0 0, .lit (.slice none 0 0)])), (400, some (.arr 34 7 ([]))), (1000, some (.blk 102 [.d (.str s), .d (.int (A4 : Int)), .d (.int e4)]))]) rfl (by simp) (by simp)) ?_
      refine AWp.rg [] [.c [(1001, 8), (1002, 2), (1003, 3), (500, 400)] [.ptr 1001 0, .ptr 1002 0, .ptr 1003 0] [(1000, .blk 102 [.d (.str s), .d (.int (A4 : Int)), .d (.int e4)]), (1001, .blk 34 [.d (.int 7), .d (.int 0), .d (.str .empty), .d (.str ByteArray.empty), .lit (.slice none 0 0), .arr 500 0 0, .lit (.slice none 0 0)]), (1002, .blk 100 [.ptr 1000 0]), (1003, .blk 3 [.d (.int dp)]), (500, .arr 34 7 ([]))] (.tuple []) [(1000, .blk 102 [.d (.str s), .d (.int (A5 : Int)), .d (.int e5)]), (1001, .blk 34 [.d (.int 7), .d (.int 0), .d (.str .empty), .d (.str ByteArray.empty), .lit (.slice none 0 0), .arr 500 0 u1.length, .lit (.slice none 0 0)]), (1002, .blk 100 [.ptr 1000 0]), (1003, .blk 3 [.d (.int dp)]), (500, .arr 34 7 (u1.map Tm.row))]] ?_ (hr := by conv => lhs; simp [hd24, q1t, q7, q8t])
      repeat (first | refine AWp.seq ?_ | refine AWp.block ?_)
      refine AWp.le (Le.low [401] [] (fr := [(2, .ptr 2 0), (3, .ptr 3 0), (4, .ptr 4 0), (5, .d (.str W2)), (8, .ptr 8 0), (9, .clo 138 [.ptr 8 0, .ptr 2 0, .ptr 3 0])]) (mem := [(2, some (.blk 100 [.ptr 1000 0])), (3, some (.blk 3 [.d (.int dp)])), (4, some (.blk 34 [.d (.int 0), .d (.int 0), .d (.str ByteArray.empty), .d (.str ByteArray.empty), .lit (.slice none 0 0), .lit (.slice none 0 0), .lit (.slice none 0 0)])), (8, some (.blk 34 [.d (.int 7), .d (.int 0), .d (.str .empty), .d (.str ByteArray.empty), .lit (.slice none 0 0), .arr 400 0 u1.length, .arr 401 0 0])), (400, some (.arr 34 7 (u1.map Tm.row))), (401, some (.arr 40 9 ([]))), (1000, some (.blk 102 [.d (.str s), .d (.int (A5 : Int)), .d (.int e5)]))]) rfl (by simp) (by simp)) ?_
      refine AWp.rg [] [.c [(1001, 8), (1002, 2), (1003, 3), (500, 400), (501, 401)] [.ptr 1000 0, .clo 140 [.ptr 1002 0, .ptr 1003 0, .ptr 1001 0]] [(1000, .blk 102 [.d (.str s), .d (.int (A5 : Int)), .d (.int e5)]), (1001, .blk 34 [.d (.int 7), .d (.int 0), .d (.str .empty), .d (.str ByteArray.empty), .lit (.slice none 0 0), .arr 500 0 u1.length, .arr 501 0 0]), (1002, .blk 100 [.ptr 1000 0]), (1003, .blk 3 [.d (.int dp)]), (500, .arr 34 7 (u1.map Tm.row)), (501, .arr 40 9 ([]))] (.tuple []) [(1000, .blk 102 [.d (.str s), .d (.int (A6 : Int)), .d (.int e6)]), (1001, .blk 34 [.d (.int 7), .d (.int 0), .d (.str .empty), .d (.str ByteArray.empty), .lit (.slice none 0 0), .arr 500 0 u1.length, .arr 501 0 us.length]), (1002, .blk 100 [.ptr 1000 0]), (1003, .blk 3 [.d (.int dp)]), (500, .arr 34 7 (u1.map Tm.row)), (501, .arr 40 9 (us.map Cs.row))]] ?_ (hr := by conv => lhs; simp [hd24, q1t, q7, q8t])
      rw [hR]
      dsimp only
      apply AWp.frzs [400, 401]
      · conv => lhs; simp
      refine AWp.rg [] [] ?_ (hr := by conv => lhs; simp [hd24, q1t, q7, q8t])
      refine AWp.ret ?_
      try dsimp only [thenQ, blockQ]
      apply endC.ret
      · rfl
      · conv => lhs; simp [resAV, Tryd.results95]
      · first | rfl | simp [resVal, tmAV, Tm.row, Tm.rows_eq, Cs.rows_eq, AV.nilD, nilDL, strsD]
      · simp [moEnd, memGet]
    refine AWp.rg [] [] ?_ (hr := by conv => lhs; simp [hM, hd24, q1t, hl, q7, q8])
    refine AWp.cn ?_
    by_cases q9 : 0 < r
    · refine AWp.rg [] [] ?_ (hr := by conv => lhs; simp [hM, hd24, q1t, hl, q7, q8, q9])
      refine AWp.cy ?_
      rw [formP] at hR
      rw [if_neg (by rw [hsh]; exact Bool.false_ne_true), if_neg q7, if_neg q8, hw, if_pos q9] at hR
      have hn4 := cs_Next s A3 e2 hA22 hs
      have hn4a := nxS_adv (s := s) (p := (A3, e2)) hA22
      rw [show pkW s A3 = W2 from by rw [hA3, pkW_pk, hW2]] at hn4
      generalize nxS s (A3, e2) = o4 at hn4 hn4a hR
      obtain ⟨A4, e4⟩ := o4
      have h4s := hn4a.sz
      dsimp only at hn4 h4s hR
      have hg1 := cs_pT1 s 5 r .empty dp n [] A4 e4 hd0 hd1 (by simp) (hx A4 e4 h4s)
      have hps1 := ps_adv (g := false) (s := s) n (A4, e4) h4s
      generalize Tm.ps false s n (A4, e4) = o5 at hg1 hps1 hR
      obtain ⟨x, A5, e5⟩ := o5
      have h5s := hps1.sz
      dsimp only at hg1 h5s hR
      obtain ⟨u1, hu1⟩ : ∃ u, u = ([] : List Tm) ++ [x] := ⟨_, rfl⟩
      rw [← hu1] at hg1
      have hu1l : u1.length = 1 := by rw [hu1]; rfl
      simp only [List.length_nil, List.map_nil] at hg1
      have hg2 := cs_pT1 s 5 r .empty dp n u1 A5 e5 hd0 hd1 (by omega) (hx A5 e5 h5s)
      have hps2 := ps_adv (g := false) (s := s) n (A5, e5) h5s
      generalize Tm.ps false s n (A5, e5) = o6 at hg2 hps2 hR
      obtain ⟨y, A6, e6⟩ := o6
      have h6s := hps2.sz
      dsimp only at hg2 h6s hR
      obtain ⟨u2, hu2⟩ : ∃ u, u = u1 ++ [y] := ⟨_, rfl⟩
      rw [← hu2] at hg2
      have hu2l : u2.length = 2 := by rw [hu2]; rw [List.length_append, hu1l]; rfl
      have hwt := cs_want s rbr A6 e6 h6s hs
      generalize wantS s rbr (A6, e6) = o9 at hwt hR
      obtain ⟨A7, e7⟩ := o9
      dsimp only at hwt hR
      rw [show [x, y] = u2 from by rw [hu2, hu1]; rfl] at hR
      refine AWp.rg [] [.c [] [.ptr 1000 0] [(1000, .blk 102 [.d (.str s), .d (.int (A3 : Int)), .d (.int e2)])] (.d (.str W2)) [(1000, .blk 102 [.d (.str s), .d (.int (A4 : Int)), .d (.int e4)])]] ?_ (hr := by conv => lhs; simp [hd24, q1t, q7, q8, q9])
      refine AWp.rg [] [] ?_ (hr := by conv => lhs; simp [hd24, q1t, q7, q8, q9])
      repeat (first | refine AWp.seq ?_ | refine AWp.block ?_)
      refine AWp.le (Le.low [400] [] (fr := [(2, .ptr 2 0), (3, .ptr 3 0), (4, .ptr 4 0), (5, .d (.str W2)), (8, .ptr 8 0), (9, .clo 138 [.ptr 8 0, .ptr 2 0, .ptr 3 0])]) (mem := [(2, some (.blk 100 [.ptr 1000 0])), (3, some (.blk 3 [.d (.int dp)])), (4, some (.blk 34 [.d (.int 0), .d (.int 0), .d (.str ByteArray.empty), .d (.str ByteArray.empty), .lit (.slice none 0 0), .lit (.slice none 0 0), .lit (.slice none 0 0)])), (8, some (.blk 34 [.d (.int 5), .d (.int r), .d (.str .empty), .d (.str ByteArray.empty), .lit (.slice none 0 0), .arr 400 0 0, .lit (.slice none 0 0)])), (400, some (.arr 34 7 ([]))), (1000, some (.blk 102 [.d (.str s), .d (.int (A4 : Int)), .d (.int e4)]))]) rfl (by simp) (by simp)) ?_
      refine AWp.rg [] [.c [(1001, 8), (1002, 2), (1003, 3), (500, 400)] [.ptr 1001 0, .ptr 1002 0, .ptr 1003 0] [(1000, .blk 102 [.d (.str s), .d (.int (A4 : Int)), .d (.int e4)]), (1001, .blk 34 [.d (.int 5), .d (.int r), .d (.str .empty), .d (.str ByteArray.empty), .lit (.slice none 0 0), .arr 500 0 0, .lit (.slice none 0 0)]), (1002, .blk 100 [.ptr 1000 0]), (1003, .blk 3 [.d (.int dp)]), (500, .arr 34 7 ([]))] (.tuple []) [(1000, .blk 102 [.d (.str s), .d (.int (A5 : Int)), .d (.int e5)]), (1001, .blk 34 [.d (.int 5), .d (.int r), .d (.str .empty), .d (.str ByteArray.empty), .lit (.slice none 0 0), .arr 500 0 u1.length, .lit (.slice none 0 0)]), (1002, .blk 100 [.ptr 1000 0]), (1003, .blk 3 [.d (.int dp)]), (500, .arr 34 7 (u1.map Tm.row))]] ?_ (hr := by conv => lhs; simp [hd24, q1t, q7, q8, q9])
      refine AWp.rg [] [.c [(1001, 8), (1002, 2), (1003, 3), (500, 400)] [.ptr 1001 0, .ptr 1002 0, .ptr 1003 0] [(1000, .blk 102 [.d (.str s), .d (.int (A5 : Int)), .d (.int e5)]), (1001, .blk 34 [.d (.int 5), .d (.int r), .d (.str .empty), .d (.str ByteArray.empty), .lit (.slice none 0 0), .arr 500 0 u1.length, .lit (.slice none 0 0)]), (1002, .blk 100 [.ptr 1000 0]), (1003, .blk 3 [.d (.int dp)]), (500, .arr 34 7 (u1.map Tm.row))] (.tuple []) [(1000, .blk 102 [.d (.str s), .d (.int (A6 : Int)), .d (.int e6)]), (1001, .blk 34 [.d (.int 5), .d (.int r), .d (.str .empty), .d (.str ByteArray.empty), .lit (.slice none 0 0), .arr 500 0 u2.length, .lit (.slice none 0 0)]), (1002, .blk 100 [.ptr 1000 0]), (1003, .blk 3 [.d (.int dp)]), (500, .arr 34 7 (u2.map Tm.row))]] ?_ (hr := by conv => lhs; simp [hd24, q1t, q7, q8, q9])
      refine AWp.rg [] [.c [] [.ptr 1000 0, .d (.str (⟨#[41]⟩))] [(1000, .blk 102 [.d (.str s), .d (.int (A6 : Int)), .d (.int e6)])] (.tuple []) [(1000, .blk 102 [.d (.str s), .d (.int (A7 : Int)), .d (.int e7)])]] ?_ (hr := by conv => lhs; simp [hd24, q1t, q7, q8, q9])
      rw [hR]
      dsimp only
      apply AWp.frzs [400]
      · conv => lhs; simp
      refine AWp.rg [] [] ?_ (hr := by conv => lhs; simp [hd24, q1t, q7, q8, q9])
      refine AWp.ret ?_
      try dsimp only [thenQ, blockQ]
      apply endC.ret
      · rfl
      · conv => lhs; simp [resAV, Tryd.results95]
      · first | rfl | simp [resVal, tmAV, Tm.row, Tm.rows_eq, Cs.rows_eq, AV.nilD, nilDL, strsD]
      · simp [moEnd, memGet]
    refine AWp.rg [] [] ?_ (hr := by conv => lhs; simp [hM, hd24, q1t, hl, q7, q8, q9])
    refine AWp.cn ?_
    rw [formP] at hR
    rw [if_neg (by rw [hsh]; exact Bool.false_ne_true), if_neg q7, if_neg q8, hw, if_neg q9] at hR
    have hnm := cs_pname s A3 e2 hA22 hs
    have hna := namP_adv (s := s) (p := (A3, e2)) hA22
    generalize namP s (A3, e2) = o4 at hnm hna hR
    obtain ⟨nm, A4, e4⟩ := o4
    have h4s := hna.sz
    dsimp only at hnm h4s hR
    have hmn := cs_manyT s 4 0 nm n dp A4 e4 h4s hs (fun us a e hul ha => cs_pT1 s 4 0 nm dp n us a e hd0 hd1 hul (hx a e ha))
    simp only [List.length_nil, List.map_nil] at hmn
    generalize manyP s (Tm.ps false s n) (s.size + 2) (A4, e4) = y at hmn hR
    obtain ⟨us, A5, e5⟩ := y
    dsimp only at hmn hR
    refine AWp.rg [] [.c [] [.ptr 1000 0] [(1000, .blk 102 [.d (.str s), .d (.int (A3 : Int)), .d (.int e2)])] (.d (.str nm)) [(1000, .blk 102 [.d (.str s), .d (.int (A4 : Int)), .d (.int e4)])]] ?_ (hr := by conv => lhs; simp [hd24, q1t, q7, q8, q9])
    repeat (first | refine AWp.seq ?_ | refine AWp.block ?_)
    refine AWp.le (Le.low [400] [] (fr := [(2, .ptr 2 0), (3, .ptr 3 0), (4, .ptr 4 0), (5, .d (.str W2)), (8, .ptr 8 0), (9, .clo 138 [.ptr 8 0, .ptr 2 0, .ptr 3 0])]) (mem := [(2, some (.blk 100 [.ptr 1000 0])), (3, some (.blk 3 [.d (.int dp)])), (4, some (.blk 34 [.d (.int 0), .d (.int 0), .d (.str ByteArray.empty), .d (.str ByteArray.empty), .lit (.slice none 0 0), .lit (.slice none 0 0), .lit (.slice none 0 0)])), (8, some (.blk 34 [.d (.int 4), .d (.int 0), .d (.str nm), .d (.str ByteArray.empty), .lit (.slice none 0 0), .arr 400 0 0, .lit (.slice none 0 0)])), (400, some (.arr 34 7 ([]))), (1000, some (.blk 102 [.d (.str s), .d (.int (A4 : Int)), .d (.int e4)]))]) rfl (by simp) (by simp)) ?_
    refine AWp.rg [] [.c [(1001, 8), (1002, 2), (1003, 3), (500, 400)] [.ptr 1000 0, .clo 138 [.ptr 1001 0, .ptr 1002 0, .ptr 1003 0]] [(1000, .blk 102 [.d (.str s), .d (.int (A4 : Int)), .d (.int e4)]), (1001, .blk 34 [.d (.int 4), .d (.int 0), .d (.str nm), .d (.str ByteArray.empty), .lit (.slice none 0 0), .arr 500 0 0, .lit (.slice none 0 0)]), (1002, .blk 100 [.ptr 1000 0]), (1003, .blk 3 [.d (.int dp)]), (500, .arr 34 7 ([]))] (.tuple []) [(1000, .blk 102 [.d (.str s), .d (.int (A5 : Int)), .d (.int e5)]), (1001, .blk 34 [.d (.int 4), .d (.int 0), .d (.str nm), .d (.str ByteArray.empty), .lit (.slice none 0 0), .arr 500 0 us.length, .lit (.slice none 0 0)]), (1002, .blk 100 [.ptr 1000 0]), (1003, .blk 3 [.d (.int dp)]), (500, .arr 34 7 (us.map Tm.row))]] ?_ (hr := by conv => lhs; simp [hd24, q1t, q7, q8, q9])
    rw [hR]
    dsimp only
    apply AWp.frzs [400]
    · conv => lhs; simp
    refine AWp.rg [] [] ?_ (hr := by conv => lhs; simp [hd24, q1t, q7, q8, q9])
    refine AWp.ret ?_
    try dsimp only [thenQ, blockQ]
    apply endC.ret
    · rfl
    · conv => lhs; simp [resAV, Tryd.results95]
    · first | rfl | simp [resVal, tmAV, Tm.row, Tm.rows_eq, Cs.rows_eq, AV.nilD, nilDL, strsD]
    · simp [moEnd, memGet]
  refine AWp.rg [] [] ?_ (hr := by conv => lhs; simp [hd24, q1])
  refine AWp.cy ?_
  rw [if_neg q1] at hR
  unfold atomP at hR
  dsimp only at hR
  have hnx := cs_Next s A e hA2 hs
  rw [hWk] at hR hnx
  generalize nxS s (A, e) = p2 at hnx hR
  obtain ⟨A2, e2⟩ := p2
  dsimp only at hnx hR
  refine AWp.rg [] [.c [] [.ptr 1000 0] [(1000, .blk 102 [.d (.str s), .d (.int (A : Int)), .d (.int e)])] (.d (.str W)) [(1000, .blk 102 [.d (.str s), .d (.int (A2 : Int)), .d (.int e2)])]] ?_ (hr := by conv => lhs; simp [hd24, q1])
  have hnu := sp_Number W (by omega)
  generalize numP W = nq at *
  obtain ⟨nn, q⟩ := nq
  dsimp only at hnu hR
  refine AWp.rg [] [.p (fun _ => .tuple [.d (.int nn), .d (.bool q)]) none] ?_ (hr := by conv => lhs; simp [hd24, q1])
  cases q with
  | true =>
    refine AWp.rg [] [] ?_ (hr := by conv => lhs; simp [hd24, q1])
    refine AWp.cy ?_
    rw [if_pos rfl] at hR
    rw [hR]
    dsimp only
    refine AWp.rg [] [] ?_ (hr := by conv => lhs; simp [hd24, q1])
    refine AWp.ret ?_
    try dsimp only [thenQ, blockQ]
    apply endC.ret
    · rfl
    · conv => lhs; simp [resAV, Tryd.results95]
    · first | rfl | simp [resVal, tmAV, Tm.row, Tm.rows_eq, Cs.rows_eq, AV.nilD, nilDL, strsD]
    · simp [moEnd, memGet]
  | false =>
    refine AWp.rg [] [] ?_ (hr := by conv => lhs; simp [hd24, q1])
    refine AWp.cn ?_
    refine AWp.skip ?_
    rw [if_neg Bool.false_ne_true] at hR
    have hna := sp_Name W (by omega)
    generalize nameB W = q2 at *
    cases q2 with
    | true =>
      refine AWp.rg [] [.p (fun _ => .d (.bool true)) none] ?_ (hr := by conv => lhs; simp [hd24, q1])
      refine AWp.cn ?_
      refine AWp.skip ?_
      rw [if_pos rfl] at hR
      rw [hR]
      dsimp only
      refine AWp.rg [] [] ?_ (hr := by conv => lhs; simp [hd24, q1])
      refine AWp.ret ?_
      try dsimp only [thenQ, blockQ]
      apply endC.ret
      · rfl
      · conv => lhs; simp [resAV, Tryd.results95]
      · first | rfl | simp [resVal, tmAV, Tm.row, Tm.rows_eq, Cs.rows_eq, AV.nilD, nilDL, strsD]
      · simp [moEnd, memGet]
    | false =>
      refine AWp.rg [] [.p (fun _ => .d (.bool false)) none] ?_ (hr := by conv => lhs; simp [hd24, q1])
      refine AWp.cy ?_
      have hbd := cs_bad s A2 e2 7
      refine AWp.rg [] [.c [] [.ptr 1000 0, .d (.int 7)] [(1000, .blk 102 [.d (.str s), .d (.int (A2 : Int)), .d (.int e2)])] (.tuple []) [(1000, .blk 102 [.d (.str s), .d (.int (A2 : Int)), .d (.int (badE e2 7))])]] ?_ (hr := by conv => lhs; simp [hd24, q1])
      rw [if_neg Bool.false_ne_true] at hR
      rw [hR]
      dsimp only
      refine AWp.rg [] [] ?_ (hr := by conv => lhs; simp [hd24, q1])
      refine AWp.ret ?_
      try dsimp only [thenQ, blockQ]
      apply endC.ret
      · rfl
      · conv => lhs; simp [resAV, Tryd.results95]
      · first | rfl | simp [resVal, tmAV, Tm.row, Tm.rows_eq, Cs.rows_eq, AV.nilD, nilDL, strsD]
      · simp [moEnd, memGet]
theorem cs_Term (s : ByteArray) (hs : s.size ≤ 1500) : ∀ n : Nat, n ≤ 25 → TermP s n := by
  intro n
  induction n with
  | zero => intro _; exact cs_Term0 s
  | succ n ih =>
    intro h a e ha
    refine cs_TermS s n _ a e ha hs (by push_cast; omega) (by push_cast; omega) fun a e ha => ?_
    have := ih (by omega) a e ha
    rw [show 25 - ((n + 1 : Nat) : Int) + 1 = 25 - (n : Int) from by push_cast; omega]
    exact this
end Go.Proofs.YtapiiklnnkkdlaaDoor
