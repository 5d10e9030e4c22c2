import Derived.Test.YtapiiklnnkkdlaaDoorTextF
import Derived.Test.YtapiiklnnkkdlaaDoorTextC
/- text.Parse. Printed by a small program. -/
namespace Go.Proofs.YtapiiklnnkkdlaaDoor
open Go.RowKit
attribute [local simp] runD mkRc ldOf stOf stOk ldArg noAny dstOk guardOk opEff opEff0 effOp pureOp callOp zEff evA constAV scalAV Value.oneCell' frGet memGet startAS frOf isGoCall idIn AS.after nextR opnIds objIds AV.ids idsL AObj.ids frNo memNo opnAny isAny mkVal rdCells wrCells fldAddr idxAddr srcRows litRows toD1 toDs setAt sliceAV optI partAV bldAV fillAV binAV binI AV.cells callEff calleeOf frKill memKill AV.kill AObj.kill AV.has AV.hasL Op.operands Call.operands keepF keepM viewIds cChk renOf moGet moWs moQ cEff moLike moHave AV.ren renL AObj.ren AObj.like kept startC moMem AV.frz frz1 frzL frSub memSub frzs AS.frz frFrz memFrz AObj.frz takeMap takeLen bleF Nat.ble_eq memAny objAny mapOp D.keyOk rowAV valRow extOp wrapOp phO frLow memLow memLow1 objLow memEmpty Low LowL
set_option linter.unusedVariables false
set_option linter.unusedSimpArgs false
theorem fnsT_one {N m : Nat} {p : TS} {us : List Fn} {R : List Fn × TS} (he : p.2 = 0) (hl : ¬ p.1 = []) : (R = (us ++ (fnsT N (m + 1) p).1, (fnsT N (m + 1) p).2)) = (R = (us ++ ((fnT N p).1 :: (fnsT N m (fnT N p).2).1), (fnsT N m (fnT N p).2).2)) := by
  rw [fnsT, if_pos he, if_neg hl]
theorem fnsT_end {N m : Nat} {p : TS} {us : List Fn} {R : List Fn × TS} (h : p.2 ≠ 0 ∨ p.1 = []) : (R = (us ++ (fnsT N (m + 1) p).1, (fnsT N (m + 1) p).2)) = (R = (us, p)) := by
  rw [fnsT]
  by_cases he : p.2 = 0
  · rw [if_pos he, if_pos (h.resolve_left (fun hn => hn he)), List.append_nil]
  · rw [if_neg he, List.append_nil]
theorem wds_lok {s : ByteArray} (hs : s.size ≤ 1500) : Lok (wds s 0) ∧ (wds s 0).length ≤ s.size := by
  have key : ∀ (n a : Nat), a ≤ s.size → (∀ w ∈ wdsF s n a, w.size ≤ 1500) ∧ (wdsF s n a).length ≤ s.size - a := by
    intro n
    induction n with
    | zero => intro a _; exact ⟨fun w h => by simp [wdsF] at h, by simp [wdsF]⟩
    | succ n ih =>
      intro a ha
      rw [wdsF]
      by_cases hw : (pkW s a).size = 0
      · rw [if_pos hw]; exact ⟨fun w h => by simp at h, by simp⟩
      · rw [if_neg hw]
        have h1 := pkW_on ha hw
        have h2 := pkW_size ha
        obtain ⟨g1, g2⟩ := ih _ h1.2
        refine ⟨fun w h => ?_, by rw [List.length_cons]; omega⟩
        rcases List.mem_cons.1 h with rfl | h
        · have := pkE_le (pkA_le ha).2; omega
        · exact g1 w h
  obtain ⟨g1, g2⟩ := key (s.size + 1) 0 (Nat.zero_le _)
  exact ⟨⟨by unfold wds; omega, fun w h => Nat.le_trans (g1 w h) (by omega)⟩, g2⟩
set_option maxRecDepth 20000 in
set_option maxHeartbeats 16000000 in
theorem sp_tParse (s : ByteArray) : PSpec Tryd.prog 41 [.d (.str s)] (fun _ => .tuple [fnsAV (parseT s).1, .d (.int (parseT s).2)]) none := by
  obtain ⟨N, hN⟩ : ∃ N : Int, (s.size : Int) = N := ⟨_, rfl⟩
  obtain ⟨R, hR⟩ : ∃ R, R = parseT s := ⟨_, rfl⟩
  rw [← hR]
  unfold parseT at hR
  refine PSpec.of Tryd.func41 rfl rfl rfl (Nat.le_of_ble_eq_true rfl) ?_
  show AWp _ _ (endQ _ Tryd.f41 _ _ _) (startAS 58 _)
  refine AWp.rg [] [] ?_ (hr := by conv => lhs; simp [Fn.row, Tm.row, Tm.rows_eq, Cs.rows_eq, hN])
  by_cases q1 : 1500 < N
  · refine AWp.rg [] [] ?_ (hr := by conv => lhs; simp [Fn.row, Tm.row, Tm.rows_eq, Cs.rows_eq, hN, q1])
    refine AWp.cy ?_
    rw [if_pos (show 1500 < s.size by omega)] at hR
    rw [hR]
    refine AWp.rg [] [] ?_ (hr := by conv => lhs; simp [Fn.row, Tm.row, Tm.rows_eq, Cs.rows_eq, hN, q1])
    refine AWp.ret ?_
    try dsimp only [thenQ, blockQ]
    apply endQ.ret
    · rfl
    · conv => lhs; simp [resAV, Tryd.results41]
    first | rfl | simp [resVal, AV.nilD, nilDL]
  refine AWp.rg [] [] ?_ (hr := by conv => lhs; simp [Fn.row, Tm.row, Tm.rows_eq, Cs.rows_eq, hN, q1])
  refine AWp.cn ?_
  refine AWp.skip ?_
  have hs15 : s.size ≤ 1500 := by omega
  rw [if_neg (show ¬ 1500 < s.size by omega)] at hR
  have hwd := sp_words s hs15
  obtain ⟨hl, hll⟩ := wds_lok hs15
  obtain ⟨wl, hwl⟩ : ∃ z, z = wds s 0 := ⟨_, rfl⟩
  rw [← hwl] at hwd hl hll hR
  obtain ⟨NN, hNN⟩ : ∃ n, n = s.size + 2 := ⟨_, rfl⟩
  rw [← hNN] at hR
  have hNm : NN ≤ 1600 := by omega
  refine AWp.rg [] [.p (fun _ => .d (strsD wl)) none] ?_ (hr := by conv => lhs; simp [Fn.row, Tm.row, Tm.rows_eq, Cs.rows_eq, hN, q1])
  refine AWp.rg [] [] ?_ (hr := by conv => lhs; simp [Fn.row, Tm.row, Tm.rows_eq, Cs.rows_eq, hN, q1])
  repeat (first | refine AWp.seq ?_ | refine AWp.block ?_)
  refine AWp.le (Le.low [400] [] (fr := [(4, .ptr 13 0), (5, .arr 400 0 ([] : List Fn).length)]) (mem := [(13, some (.blk 95 [.d (strsD (wl : List ByteArray)), .d (.int (0 : Int))])), (400, some (.arr 36 9 (([] : List Fn).map Fn.row)))]) rfl (by simp) (by simp)) ?_
  refine AWp.loop (σ := fun u : {u : List Fn × List ByteArray × Int × Nat // (fnsT NN NN (wl, 0) = (u.1 ++ (fnsT NN u.2.2.2 (u.2.1, u.2.2.1)).1, (fnsT NN u.2.2.2 (u.2.1, u.2.2.1)).2) ∧ Lok u.2.1 ∧ u.1.length + u.2.2.2 = NN ∧ 0 < u.2.2.2 ∧ u.2.1.length + 1 < NN ∧ (u.2.2.1 ≠ 0 ∨ u.2.1.length + 1 < u.2.2.2))} => ⟨58, [(4, .ptr 13 0), (5, .arr 400 0 u.1.1.length)], [(13, some (.blk 95 [.d (strsD u.1.2.1), .d (.int u.1.2.2.1)])), (400, some (.arr 36 9 (u.1.1.map Fn.row)))]⟩)
    (μ := fun u => u.1.2.2.2) ⟨([], wl, 0, NN), ⟨by simp, hl, by simp, by dsimp only; omega, by dsimp only; omega, .inr (by dsimp only; omega)⟩⟩ (Le.sub (by simp) (by simp)) (fun ⟨(us, c, ee, m), hw⟩ => ?_)
  dsimp only at hw ⊢
  obtain ⟨hmm, hck, hum, hm0, hcN, hon⟩ := hw
  obtain ⟨m, rfl⟩ : ∃ k, m = k + 1 := ⟨m - 1, by omega⟩
  obtain ⟨C, hC⟩ : ∃ C : Int, (c.length : Int) = C := ⟨_, rfl⟩
  by_cases q2 : ee = 0
  · have q2t := eq_true q2
    by_cases q3 : 0 < C
    · refine AWp.rg [] [] ?_ (hr := by conv => lhs; simp [Fn.row, Tm.row, Tm.rows_eq, Cs.rows_eq, hN, hC, q1, q2t, q3])
      refine AWp.cy ?_
      refine AWp.skip ?_
      rw [fnsT_one q2 (by intro h; dsimp only at h; rw [h] at hC; simp at hC; omega)] at hmm
      have hav := fnT_av NN (c, ee)
      obtain ⟨⟨l1, g1⟩, h1⟩ : ∃ P, P = wantT lbr (c, ee) := ⟨_, rfl⟩
      obtain ⟨⟨l2, g2⟩, h2⟩ : ∃ P, P = wantT wFn (l1, g1) := ⟨_, rfl⟩
      obtain ⟨⟨nm, l3, g3⟩, h3⟩ : ∃ P, P = namT (l2, g2) := ⟨_, rfl⟩
      obtain ⟨⟨l4, g4⟩, h4⟩ : ∃ P, P = wantT lbr (l3, g3) := ⟨_, rfl⟩
      obtain ⟨⟨ws, l5, g5⟩, h5⟩ : ∃ P, P = manyT namT NN (l4, g4) := ⟨_, rfl⟩
      obtain ⟨⟨y, l6, g6⟩, h6⟩ : ∃ P, P = Tm.ts NN 25 (l5, g5) := ⟨_, rfl⟩
      obtain ⟨⟨c2, e2⟩, h7⟩ : ∃ P, P = wantT rbr (l6, g6) := ⟨_, rfl⟩
      have hfn : fnT NN (c, ee) = (⟨nm, ws, y⟩, (c2, e2)) := by unfold fnT; rw [← h1, ← h2, ← h3, ← h4, ← h5, ← h6, ← h7]
      rw [hfn] at hmm hav
      have k1 : Tst (c, ee) (l1, g1) := h1 ▸ (wantT_av lbr (c, ee)).toTst
      have k2 : Tst (l1, g1) (l2, g2) := h2 ▸ (wantT_av wFn (l1, g1)).toTst
      have k3 : Tst (l2, g2) (l3, g3) := (show (l3, g3) = (namT (l2, g2)).2 by rw [← h3]) ▸ (namT_av (l2, g2)).toTst
      have k4 : Tst (l3, g3) (l4, g4) := h4 ▸ (wantT_av lbr (l3, g3)).toTst
      have k5 : Tst (l4, g4) (l5, g5) := (show (l5, g5) = (manyT namT NN (l4, g4)).2 by rw [← h5]) ▸ (manyT_st namT_av NN (l4, g4))
      have k6 : Tst (l5, g5) (l6, g6) := (show (l6, g6) = (Tm.ts NN 25 (l5, g5)).2 by rw [← h6]) ▸ (ts_av NN 25 (l5, g5)).toTst
      have o1 : Lok l1 := Lok.of (p := (c, ee)) hck k1
      have o2 : Lok l2 := Lok.of (p := (l1, g1)) o1 k2
      have o3 : Lok l3 := Lok.of (p := (l2, g2)) o2 k3
      have o4 : Lok l4 := Lok.of (p := (l3, g3)) o3 k4
      have o5 : Lok l5 := Lok.of (p := (l4, g4)) o4 k5
      have o6 : Lok l6 := Lok.of (p := (l5, g5)) o5 k6
      have oc : Lok c2 := Lok.of (p := (c, ee)) hck hav.toTst
      have n1 := k1.le
      have n2 := k2.le
      have n3 := k3.le
      have n4 := k4.le
      have n5 := k5.le
      have hlen := hav.le
      have hon2 := hav.on
      dsimp only at n1 n2 n3 n4 n5 hlen hon2
      have m1 := cs_must c lbr ee hck.len
      rw [← h1] at m1
      have m2 := cs_must l1 wFn g1 o1.len
      rw [← h2] at m2
      have m3 := cs_tname l2 g2 o2.len (fun s hs => sp_tName s (by omega)) o2.hd
      rw [← h3] at m3
      have m4 := cs_must l3 lbr g3 o3.len
      rw [← h4] at m4
      have m5 := cs_names l4 g4 NN (by omega) hNm o4
      rw [← h5] at m5
      have m6 := cs_tterm NN hNm 25 (by omega) l5 g5 (by omega) o5
      rw [← h6, show (25 : Int) - ((25 : Nat) : Int) = 0 from rfl] at m6
      have m7 := cs_must l6 rbr g6 o6.len
      rw [← h7] at m7
      obtain ⟨x, hx⟩ : ∃ x, x = Fn.mk nm ws y := ⟨_, rfl⟩
      rw [← hx] at hmm
      obtain ⟨us2, hus2⟩ : ∃ z, z = us ++ [x] := ⟨_, rfl⟩
      have hus2l : us.length + 1 = us2.length := by rw [hus2]; simp
      have hmx : us2.length ≤ maxLen := by unfold maxLen; omega
      obtain ⟨yk, yn, ya, yb, yvs, yxs, ycs⟩ := y
      have hmu : List.map Fn.row us ++ [[.str nm, strsD ws, .int yk, .int yn, .str ya, .str yb, strsD yvs, .sl (yxs.map Tm.row), .sl (ycs.map Cs.row)]] = List.map Fn.row us2 := by rw [hus2, hx]; simp [Fn.row, Tm.row, Tm.rows_eq, Cs.rows_eq]
      unfold rO at m1 m2 m3 m4 m5 m6 m7
      dsimp only [tmAV] at m1 m2 m3 m4 m5 m6 m7 hmm
      clear h1 h2 h3 h4 h5 h6 h7 hfn k1 k2 k3 k4 k5 k6 hav
      refine AWp.rg [] [.c [(1000, 13)] [.ptr 1000 0, .d (.str (⟨#[40]⟩))] [(1000, .blk 95 [.d (strsD c), .d (.int ee)])] (.tuple []) [(1000, .blk 95 [.d (strsD l1), .d (.int g1)])]] ?_ (hr := by conv => lhs; simp [Fn.row, Tm.row, Tm.rows_eq, Cs.rows_eq, hN, hC, q1, q2t, q3])
      refine AWp.rg [] [.c [(1000, 13)] [.ptr 1000 0, .d (.str (⟨#[102, 110]⟩))] [(1000, .blk 95 [.d (strsD l1), .d (.int g1)])] (.tuple []) [(1000, .blk 95 [.d (strsD l2), .d (.int g2)])]] ?_ (hr := by conv => lhs; simp [Fn.row, Tm.row, Tm.rows_eq, Cs.rows_eq, hN, hC, q1, q2t, q3])
      refine AWp.rg [] [.c [(1000, 13)] [.ptr 1000 0] [(1000, .blk 95 [.d (strsD l2), .d (.int g2)])] (.d (.str nm)) [(1000, .blk 95 [.d (strsD l3), .d (.int g3)])]] ?_ (hr := by conv => lhs; simp [Fn.row, Tm.row, Tm.rows_eq, Cs.rows_eq, hN, hC, q1, q2t, q3])
      refine AWp.rg [] [.c [(1000, 13)] [.ptr 1000 0, .d (.str (⟨#[40]⟩))] [(1000, .blk 95 [.d (strsD l3), .d (.int g3)])] (.tuple []) [(1000, .blk 95 [.d (strsD l4), .d (.int g4)])]] ?_ (hr := by conv => lhs; simp [Fn.row, Tm.row, Tm.rows_eq, Cs.rows_eq, hN, hC, q1, q2t, q3])
      refine AWp.rg [] [.c [(1000, 13)] [.ptr 1000 0] [(1000, .blk 95 [.d (strsD l4), .d (.int g4)])] (.d (strsD ws)) [(1000, .blk 95 [.d (strsD l5), .d (.int g5)])]] ?_ (hr := by conv => lhs; simp [Fn.row, Tm.row, Tm.rows_eq, Cs.rows_eq, hN, hC, q1, q2t, q3])
      refine AWp.rg [] [.c [(1000, 13)] [.ptr 1000 0, .d (.int 0)] [(1000, .blk 95 [.d (strsD l5), .d (.int g5)])] (.agg [.d (.int yk), .d (.int yn), .d (.str ya), .d (.str yb), .d (strsD yvs), .d (.sl (yxs.map Tm.row)), .d (.sl (ycs.map Cs.row))]) [(1000, .blk 95 [.d (strsD l6), .d (.int g6)])]] ?_ (hr := by conv => lhs; simp [Fn.row, Tm.row, Tm.rows_eq, Cs.rows_eq, hN, hC, q1, q2t, q3])
      refine AWp.rg [] [.c [(1000, 13)] [.ptr 1000 0, .d (.str (⟨#[41]⟩))] [(1000, .blk 95 [.d (strsD l6), .d (.int g6)])] (.tuple []) [(1000, .blk 95 [.d (strsD c2), .d (.int e2)])]] ?_ (hr := by conv => lhs; simp [Fn.row, Tm.row, Tm.rows_eq, Cs.rows_eq, hN, hC, q1, q2t, q3])
      refine AWp.rg [2] [] ?_ (hr := by conv => lhs; simp [Fn.row, Tm.row, Tm.rows_eq, Cs.rows_eq, hN, hC, hmu, hus2l, q1, q2t, q3])
      refine ⟨⟨(us2, c2, e2, m), ⟨by rw [hmm, hus2]; simp, oc, by dsimp only; omega, by dsimp only; rcases hon with h | h <;> omega, by dsimp only; omega, by dsimp only; rcases hon2 with h | h; exact .inl h; right; rcases hon with h | h <;> omega⟩⟩, by dsimp only; omega, ?_⟩
      dsimp only
      exact Le.sub (by simp) (by simp)
    refine AWp.rg [] [] ?_ (hr := by conv => lhs; simp [Fn.row, Tm.row, Tm.rows_eq, Cs.rows_eq, hN, hC, q1, q2t, q3])
    refine AWp.cn ?_
    refine AWp.exit ?_
    rw [fnsT_end (by
      dsimp only
      first
        | exact .inl (by assumption)
        | exact .inr (List.eq_nil_of_length_eq_zero (by omega)))] at hmm
    rw [hmm] at hR
    dsimp only at hR
    refine AWp.rg [] [] ?_ (hr := by conv => lhs; simp [Fn.row, Tm.row, Tm.rows_eq, Cs.rows_eq, hN, q1, q2t, q3])
    refine AWp.cn ?_
    refine AWp.skip ?_
    rw [if_pos q2] at hR
    rw [hR]
    refine AWp.rg [] [] ?_ (hr := by conv => lhs; simp [Fn.row, Tm.row, Tm.rows_eq, Cs.rows_eq, hN, q1, q2t, q3])
    refine AWp.ret ?_
    try dsimp only [thenQ, blockQ]
    apply endQ.retF [400]
    · rfl
    · conv => lhs; simp
    · conv => lhs; simp [resAV, Tryd.results41]
    first | rfl | simp [resVal, AV.nilD, nilDL]
  refine AWp.rg [] [] ?_ (hr := by conv => lhs; simp [Fn.row, Tm.row, Tm.rows_eq, Cs.rows_eq, hN, hC, q1, q2])
  refine AWp.cn ?_
  refine AWp.exit ?_
  rw [fnsT_end (by
    dsimp only
    first
      | exact .inl (by assumption)
      | exact .inr (List.eq_nil_of_length_eq_zero (by omega)))] at hmm
  rw [hmm] at hR
  dsimp only at hR
  refine AWp.rg [] [] ?_ (hr := by conv => lhs; simp [Fn.row, Tm.row, Tm.rows_eq, Cs.rows_eq, hN, q1, q2])
  refine AWp.cy ?_
  rw [if_neg q2] at hR
  rw [hR]
  refine AWp.dw [] [] mixed ?_ (hr := by conv => lhs; simp [Fn.row, Tm.row, Tm.rows_eq, Cs.rows_eq, hN, q1, q2])
  refine AWp.ret ?_
  try dsimp only [thenQ, blockQ]
  apply endQ.retF [400]
  · rfl
  · conv => lhs; simp
  · conv => lhs; simp [resAV, Tryd.results41]
  first | rfl | simp [resVal, AV.nilD, nilDL]
end Go.Proofs.YtapiiklnnkkdlaaDoor

namespace Go.Proofs.YtapiiklnnkkdlaaDoor
open Go.RowKit
set_option linter.unusedVariables false
set_option linter.unusedSimpArgs false
def joinB : Nat → List ByteArray → ByteArray → ByteArray
  | _, [], o => o
  | i, x :: r, o => joinB (i + 1) r ((if 0 < i then o ++ ⟨#[32]⟩ else o) ++ x)
def shK (k n : Int) (a b V A M : ByteArray) : ByteArray :=
  if k = 1 then a else if k = 2 then itoaB n
  else if k = 3 then ((⟨#[40]⟩ ++ (⟨#[35]⟩ ++ itoaB n)) ++ A) ++ ⟨#[41]⟩
  else if k = 4 then ((⟨#[40]⟩ ++ a) ++ A) ++ ⟨#[41]⟩
  else if k = 5 then (if 0 < n ∧ n < 6 then ((⟨#[40]⟩ ++ (⟨#[43, 45, 42, 60, 61]⟩ : ByteArray).extract (n - 1).toNat n.toNat) ++ A) ++ ⟨#[41]⟩ else ⟨#[63]⟩)
  else if k = 6 then ((⟨#[40, 108, 101, 116, 32]⟩ ++ a) ++ A) ++ ⟨#[41]⟩
  else if k = 7 then M ++ ⟨#[41]⟩
  else if k = 8 then ((⟨#[40, 100, 117, 112, 32]⟩ ++ a) ++ A) ++ ⟨#[41]⟩
  else if k = 9 then ((⟨#[40, 100, 114, 111, 112, 32]⟩ ++ a) ++ A) ++ ⟨#[41]⟩
  else if k = 10 then (((((⟨#[40, 116, 97, 107, 101, 32]⟩ ++ a) ++ ⟨#[32, 40]⟩) ++ V) ++ ⟨#[41]⟩) ++ A) ++ ⟨#[41]⟩
  else if k = 11 then (((((((⟨#[40, 104, 111, 108, 100, 32]⟩ ++ a) ++ ⟨#[32]⟩) ++ b) ++ ⟨#[32, 40]⟩) ++ V) ++ ⟨#[41]⟩) ++ A) ++ ⟨#[41]⟩
  else if k = 12 then ((((⟨#[40, 117, 115, 101, 32]⟩ ++ b) ++ ⟨#[32]⟩) ++ (⟨#[35]⟩ ++ itoaB n)) ++ A) ++ ⟨#[41]⟩
  else if k = 13 then ((⟨#[40, 102, 114, 101, 101, 32]⟩ ++ b) ++ A) ++ ⟨#[41]⟩
  else ⟨#[63]⟩
mutual
def Tm.sh : Tm → ByteArray
  | .mk k n a b vs xs cs => shK k n a b (joinB 0 vs ⟨#[]⟩) (Tm.shL xs ⟨#[]⟩) (Cs.shL cs (⟨#[40, 109, 97, 116, 99, 104]⟩ ++ Tm.shL xs ⟨#[]⟩))
def Tm.shL : List Tm → ByteArray → ByteArray
  | [], o => o
  | x :: r, o => Tm.shL r ((o ++ ⟨#[32]⟩) ++ x.sh)
def Cs.shL : List Cs → ByteArray → ByteArray
  | [], o => o
  | c :: r, o => Cs.shL r (c.shC o)
def Cs.shC : Cs → ByteArray → ByteArray
  | .mk t ws y, o => ((joinB 0 ws (((o ++ ⟨#[32, 40, 35]⟩) ++ itoaB t) ++ ⟨#[32, 40]⟩) ++ ⟨#[41, 32]⟩) ++ y.sh) ++ ⟨#[41]⟩
end
def Fn.shL : List Fn → ByteArray → ByteArray
  | [], o => o
  | f :: r, o => Fn.shL r (((joinB 0 f.params (((o ++ ⟨#[40, 102, 110, 32]⟩) ++ f.name) ++ ⟨#[32, 40]⟩) ++ ⟨#[41, 32]⟩) ++ f.body.sh) ++ ⟨#[41, 10]⟩)
theorem Tm.sz_ge (t : Tm) : 1 ≤ t.sz := by obtain ⟨k, n, a, b, vs, xs, cs⟩ := t; simp only [Tm.sz]; omega
def strW : List ByteArray → Nat
  | [] => 0
  | s :: r => s.size + 1 + strW r
mutual
def Tm.wt : Tm → Nat
  | .mk k n a b vs xs cs => 60 + a.size + b.size + strW vs + Tm.wtL xs + Cs.wtL cs
def Tm.wtL : List Tm → Nat
  | [] => 0
  | x :: r => 1 + x.wt + Tm.wtL r
def Cs.wtL : List Cs → Nat
  | [] => 0
  | c :: r => c.wt + Cs.wtL r
def Cs.wt : Cs → Nat
  | .mk t ws y => 40 + strW ws + y.wt
end
mutual
def Tm.In : Tm → Prop
  | .mk k n a b vs xs cs => inI n ∧ Tm.InL xs ∧ Cs.InL cs
def Tm.InL : List Tm → Prop
  | [] => True
  | x :: r => x.In ∧ Tm.InL r
def Cs.InL : List Cs → Prop
  | [] => True
  | c :: r => c.In ∧ Cs.InL r
def Cs.In : Cs → Prop
  | .mk t ws y => inI t ∧ y.In
end
theorem Tm.InL_iff : ∀ {l : List Tm}, Tm.InL l ↔ ∀ x ∈ l, x.In
  | [] => by simp [Tm.InL]
  | x :: r => by simp [Tm.InL, Tm.InL_iff (l := r)]
theorem Cs.InL_iff : ∀ {l : List Cs}, Cs.InL l ↔ ∀ x ∈ l, x.In
  | [] => by simp [Cs.InL]
  | x :: r => by simp [Cs.InL, Cs.InL_iff (l := r)]
theorem strW_len : ∀ l : List ByteArray, l.length ≤ strW l
  | [] => Nat.le_refl _
  | x :: r => by have := strW_len r; simp only [strW, List.length_cons]; omega
theorem Tm.wtL_len : ∀ l : List Tm, l.length ≤ Tm.wtL l
  | [] => Nat.le_refl _
  | x :: r => by have := Tm.wtL_len r; simp only [Tm.wtL, List.length_cons]; omega
theorem Cs.wtL_len : ∀ l : List Cs, l.length ≤ Cs.wtL l
  | [] => Nat.le_refl _
  | .mk t ws y :: r => by have := Cs.wtL_len r; simp only [Cs.wtL, Cs.wt, List.length_cons]; omega
theorem joinB_size : ∀ (l : List ByteArray) (i : Nat) (o : ByteArray), (joinB i l o).size ≤ o.size + strW l
  | [], _, o => Nat.le_refl _
  | x :: r, i, o => by
    have h := joinB_size r (i + 1) ((if 0 < i then o ++ ⟨#[32]⟩ else o) ++ x)
    rw [joinB, strW]
    have h2 : ((if 0 < i then o ++ ⟨#[32]⟩ else o) ++ x).size ≤ o.size + 1 + x.size := by
      split <;> simp [ByteArray.size_append]
    omega
theorem zl0 : (⟨#[35]⟩ : ByteArray).size = 1 := rfl
theorem zl1 : (⟨#[63]⟩ : ByteArray).size = 1 := rfl
theorem zl2 : (⟨#[40]⟩ : ByteArray).size = 1 := rfl
theorem zl3 : (⟨#[32]⟩ : ByteArray).size = 1 := rfl
theorem zl4 : (⟨#[41]⟩ : ByteArray).size = 1 := rfl
theorem zl5 : (⟨#[41, 32]⟩ : ByteArray).size = 2 := rfl
theorem zl6 : (⟨#[41, 10]⟩ : ByteArray).size = 2 := rfl
theorem zl7 : (⟨#[32, 40]⟩ : ByteArray).size = 2 := rfl
theorem zl8 : (⟨#[32, 40, 35]⟩ : ByteArray).size = 3 := rfl
theorem zl9 : (⟨#[40, 102, 110, 32]⟩ : ByteArray).size = 4 := rfl
theorem zl10 : (⟨#[43, 45, 42, 60, 61]⟩ : ByteArray).size = 5 := rfl
theorem zl11 : (⟨#[40, 100, 117, 112, 32]⟩ : ByteArray).size = 5 := rfl
theorem zl12 : (⟨#[40, 117, 115, 101, 32]⟩ : ByteArray).size = 5 := rfl
theorem zl13 : (⟨#[40, 108, 101, 116, 32]⟩ : ByteArray).size = 5 := rfl
theorem zl14 : (⟨#[40, 116, 97, 107, 101, 32]⟩ : ByteArray).size = 6 := rfl
theorem zl15 : (⟨#[40, 109, 97, 116, 99, 104]⟩ : ByteArray).size = 6 := rfl
theorem zl16 : (⟨#[40, 102, 114, 101, 101, 32]⟩ : ByteArray).size = 6 := rfl
theorem zl17 : (⟨#[40, 100, 114, 111, 112, 32]⟩ : ByteArray).size = 6 := rfl
theorem zl18 : (⟨#[40, 104, 111, 108, 100, 32]⟩ : ByteArray).size = 6 := rfl
theorem lit_size (a : Array UInt8) : (⟨a⟩ : ByteArray).size = a.size := rfl
theorem shK_size {k n : Int} {a b V A M : ByteArray} (hn : inI n) : (shK k n a b V A M).size ≤ 50 + a.size + b.size + V.size + A.size + (if k = 7 then M.size else 0) := by
  have h1 := itoaB_size hn
  have h2 : ((⟨#[43, 45, 42, 60, 61]⟩ : ByteArray).extract (n - 1).toNat n.toNat).size ≤ 5 := by
    have e5 : (⟨#[43, 45, 42, 60, 61]⟩ : ByteArray).size = 5 := rfl
    rw [ByteArray.size_extract, e5]; omega
  by_cases hk7 : k = 7
  · subst hk7
    unfold shK
    rw [if_neg (by omega), if_neg (by omega), if_neg (by omega), if_neg (by omega), if_neg (by omega), if_neg (by omega), if_pos rfl, if_pos rfl, ByteArray.size_append, zl4]
    omega
  rw [if_neg hk7]
  unfold shK
  by_cases k1 : k = 1
  · rw [if_pos k1]
    omega
  rw [if_neg k1]
  by_cases k2 : k = 2
  · rw [if_pos k2]
    omega
  rw [if_neg k2]
  by_cases k3 : k = 3
  · rw [if_pos k3]
    simp only [ByteArray.size_append, zl0, zl1, zl2, zl3, zl4, zl5, zl6, zl7, zl8, zl9, zl10, zl11, zl12, zl13, zl14, zl15, zl16, zl17, zl18]
    omega
  rw [if_neg k3]
  by_cases k4 : k = 4
  · rw [if_pos k4]
    simp only [ByteArray.size_append, zl0, zl1, zl2, zl3, zl4, zl5, zl6, zl7, zl8, zl9, zl10, zl11, zl12, zl13, zl14, zl15, zl16, zl17, zl18]
    omega
  rw [if_neg k4]
  by_cases k5 : k = 5
  · rw [if_pos k5]
    split
    · simp only [ByteArray.size_append, zl0, zl1, zl2, zl3, zl4, zl5, zl6, zl7, zl8, zl9, zl10, zl11, zl12, zl13, zl14, zl15, zl16, zl17, zl18]
      omega
    · simp only [zl0, zl1, zl2, zl3, zl4, zl5, zl6, zl7, zl8, zl9, zl10, zl11, zl12, zl13, zl14, zl15, zl16, zl17, zl18]
      omega
  rw [if_neg k5]
  by_cases k6 : k = 6
  · rw [if_pos k6]
    simp only [ByteArray.size_append, zl0, zl1, zl2, zl3, zl4, zl5, zl6, zl7, zl8, zl9, zl10, zl11, zl12, zl13, zl14, zl15, zl16, zl17, zl18]
    omega
  rw [if_neg k6]
  rw [if_neg hk7]
  by_cases k8 : k = 8
  · rw [if_pos k8]
    simp only [ByteArray.size_append, zl0, zl1, zl2, zl3, zl4, zl5, zl6, zl7, zl8, zl9, zl10, zl11, zl12, zl13, zl14, zl15, zl16, zl17, zl18]
    omega
  rw [if_neg k8]
  by_cases k9 : k = 9
  · rw [if_pos k9]
    simp only [ByteArray.size_append, zl0, zl1, zl2, zl3, zl4, zl5, zl6, zl7, zl8, zl9, zl10, zl11, zl12, zl13, zl14, zl15, zl16, zl17, zl18]
    omega
  rw [if_neg k9]
  by_cases k10 : k = 10
  · rw [if_pos k10]
    simp only [ByteArray.size_append, zl0, zl1, zl2, zl3, zl4, zl5, zl6, zl7, zl8, zl9, zl10, zl11, zl12, zl13, zl14, zl15, zl16, zl17, zl18]
    omega
  rw [if_neg k10]
  by_cases k11 : k = 11
  · rw [if_pos k11]
    simp only [ByteArray.size_append, zl0, zl1, zl2, zl3, zl4, zl5, zl6, zl7, zl8, zl9, zl10, zl11, zl12, zl13, zl14, zl15, zl16, zl17, zl18]
    omega
  rw [if_neg k11]
  by_cases k12 : k = 12
  · rw [if_pos k12]
    simp only [ByteArray.size_append, zl0, zl1, zl2, zl3, zl4, zl5, zl6, zl7, zl8, zl9, zl10, zl11, zl12, zl13, zl14, zl15, zl16, zl17, zl18]
    omega
  rw [if_neg k12]
  by_cases k13 : k = 13
  · rw [if_pos k13]
    simp only [ByteArray.size_append, zl0, zl1, zl2, zl3, zl4, zl5, zl6, zl7, zl8, zl9, zl10, zl11, zl12, zl13, zl14, zl15, zl16, zl17, zl18]
    omega
  rw [if_neg k13]
  simp only [zl0, zl1, zl2, zl3, zl4, zl5, zl6, zl7, zl8, zl9, zl10, zl11, zl12, zl13, zl14, zl15, zl16, zl17, zl18]
  omega
mutual
theorem Tm.sh_size : ∀ t : Tm, t.In → t.sh.size ≤ t.wt
  | .mk k n a b vs xs cs, h => by
    obtain ⟨h1, h2, h3⟩ := h
    have g1 := joinB_size vs 0 ⟨#[]⟩
    have g2 := Tm.shL_size xs ⟨#[]⟩ h2
    have g3 := Cs.shL_size cs (⟨#[40, 109, 97, 116, 99, 104]⟩ ++ Tm.shL xs ⟨#[]⟩) h3
    have g4 := shK_size (k := k) (n := n) (a := a) (b := b) (V := joinB 0 vs ⟨#[]⟩) (A := Tm.shL xs ⟨#[]⟩) (M := Cs.shL cs (⟨#[40, 109, 97, 116, 99, 104]⟩ ++ Tm.shL xs ⟨#[]⟩)) h1
    have e : (⟨#[]⟩ : ByteArray).size = 0 := rfl
    have e6 : (⟨#[40, 109, 97, 116, 99, 104]⟩ : ByteArray).size = 6 := rfl
    rw [ByteArray.size_append, e6] at g3
    rw [Tm.sh, Tm.wt]
    by_cases hk : k = 7
    · subst hk
      have e7 : (shK 7 n a b (joinB 0 vs ⟨#[]⟩) (Tm.shL xs ⟨#[]⟩) (Cs.shL cs (⟨#[40, 109, 97, 116, 99, 104]⟩ ++ Tm.shL xs ⟨#[]⟩))).size = (Cs.shL cs (⟨#[40, 109, 97, 116, 99, 104]⟩ ++ Tm.shL xs ⟨#[]⟩)).size + 1 := by
        unfold shK
        rw [if_neg (by omega), if_neg (by omega), if_neg (by omega), if_neg (by omega), if_neg (by omega), if_neg (by omega), if_pos rfl, ByteArray.size_append]
        rfl
      omega
    · rw [if_neg hk] at g4
      omega
theorem Tm.shL_size : ∀ (l : List Tm) (o : ByteArray), Tm.InL l → (Tm.shL l o).size ≤ o.size + Tm.wtL l
  | [], o, _ => Nat.le_refl _
  | x :: r, o, h => by
    have g1 := Tm.sh_size x h.1
    have g2 := Tm.shL_size r ((o ++ ⟨#[32]⟩) ++ x.sh) h.2
    have e1 : (⟨#[32]⟩ : ByteArray).size = 1 := rfl
    rw [ByteArray.size_append, ByteArray.size_append, e1] at g2
    rw [Tm.shL, Tm.wtL]
    omega
theorem Cs.shL_size : ∀ (l : List Cs) (o : ByteArray), Cs.InL l → (Cs.shL l o).size ≤ o.size + Cs.wtL l
  | [], o, _ => Nat.le_refl _
  | x :: r, o, h => by
    have g1 := Cs.shC_size x o h.1
    have g2 := Cs.shL_size r (x.shC o) h.2
    rw [Cs.shL, Cs.wtL]
    omega
theorem Cs.shC_size : ∀ (c : Cs) (o : ByteArray), c.In → (c.shC o).size ≤ o.size + c.wt
  | .mk t ws y, o, h => by
    have g1 := Tm.sh_size y h.2
    have g2 := itoaB_size h.1
    have g3 := joinB_size ws 0 (((o ++ ⟨#[32, 40, 35]⟩) ++ itoaB t) ++ ⟨#[32, 40]⟩)
    rw [Cs.shC, Cs.wt]
    simp only [ByteArray.size_append, zl0, zl1, zl2, zl3, zl4, zl5, zl6, zl7, zl8, zl9, zl10, zl11, zl12, zl13, zl14, zl15, zl16, zl17, zl18] at g3 ⊢
    omega
end
def Fn.wtL : List Fn → Nat
  | [] => 0
  | f :: r => 20 + f.name.size + strW f.params + f.body.wt + Fn.wtL r
theorem Fn.wtL_len : ∀ l : List Fn, l.length ≤ Fn.wtL l
  | [] => Nat.le_refl _
  | f :: r => by have := Fn.wtL_len r; simp only [Fn.wtL, List.length_cons]; omega
theorem Fn.wtL_mem {f : Fn} : ∀ {l : List Fn}, f ∈ l → 20 + f.name.size + strW f.params + f.body.wt ≤ Fn.wtL l
  | x :: l, h => by
    simp only [Fn.wtL]
    rcases List.mem_cons.1 h with rfl | h
    · omega
    · have := Fn.wtL_mem h; omega
theorem Tm.wtL_mem {t : Tm} : ∀ {l : List Tm}, t ∈ l → 1 + t.wt ≤ Tm.wtL l
  | x :: l, h => by
    simp only [Tm.wtL]
    rcases List.mem_cons.1 h with rfl | h
    · omega
    · have := Tm.wtL_mem h; omega
theorem Cs.wtL_mem {t : Cs} : ∀ {l : List Cs}, t ∈ l → t.wt ≤ Cs.wtL l
  | x :: l, h => by
    simp only [Cs.wtL]
    rcases List.mem_cons.1 h with rfl | h
    · omega
    · have := Cs.wtL_mem h; omega
@[simp] theorem le_maxLen0 : 0 ≤ maxLen := by decide
@[simp] theorem le_maxLen4 : 4 ≤ maxLen := by decide
@[simp] theorem le_maxLen6 : 6 ≤ maxLen := by decide
@[simp] theorem le_maxLen7 : 7 ≤ maxLen := by decide
@[simp] theorem le_maxLen8 : 8 ≤ maxLen := by decide
@[simp] theorem le_maxLen9 : 9 ≤ maxLen := by decide
@[simp] theorem le_maxLen10 : 10 ≤ maxLen := by decide
@[simp] theorem le_maxLen11 : 11 ≤ maxLen := by decide
@[simp] theorem le_maxLen12 : 12 ≤ maxLen := by decide
end Go.Proofs.YtapiiklnnkkdlaaDoor

namespace Go.Proofs.YtapiiklnnkkdlaaDoor
open Go.RowKit
attribute [local simp] runD mkRc ldOf stOf stOk ldArg noAny dstOk guardOk opEff opEff0 effOp pureOp callOp zEff evA constAV scalAV Value.oneCell' frGet memGet startAS frOf isGoCall idIn AS.after nextR opnIds objIds AV.ids idsL AObj.ids frNo memNo opnAny isAny mkVal rdCells wrCells fldAddr idxAddr srcRows litRows toD1 toDs setAt sliceAV optI partAV bldAV fillAV binAV binI AV.cells callEff calleeOf frKill memKill AV.kill AObj.kill AV.has AV.hasL Op.operands Call.operands keepF keepM viewIds cChk renOf moGet moWs moQ cEff moLike moHave AV.ren renL AObj.ren AObj.like kept startC moMem AV.frz frz1 frzL frSub memSub frzs AS.frz frFrz memFrz AObj.frz takeMap takeLen bleF Nat.ble_eq memAny objAny mapOp D.keyOk rowAV valRow extOp wrapOp phO
set_option linter.unusedVariables false
set_option linter.unusedSimpArgs false
set_option maxRecDepth 20000 in
set_option maxHeartbeats 16000000 in
theorem sp_list (l : List ByteArray) (hl : l.length ≤ 9223372036854775806) (hW : strW l ≤ 4611686018427387904) : PSpec Tryd.prog 96 [strsAV l] (fun _ => .d (.str (joinB 0 l ⟨#[]⟩))) none := by
  have hb0 : ((⟨#[]⟩ : ByteArray).size) = 0 := rfl
  refine PSpec.of Tryd.func96 rfl rfl rfl (Nat.le_of_ble_eq_true rfl) ?_
  show AWp _ _ (endQ _ Tryd.f96 _ _ _) (startAS 22 _)
  refine AWp.rg [] [] ?_
  refine AWp.rg [] [] ?_
  refine AWp.rg [] [] ?_
  repeat (first | refine AWp.seq ?_ | refine AWp.block ?_)
  refine AWp.loop (σ := fun u : {u : Nat × ByteArray // u.1 ≤ l.length ∧ (joinB 0 l ⟨#[]⟩ = joinB u.1 (l.drop u.1) u.2 ∧ u.2.size + strW (l.drop u.1) ≤ (⟨#[]⟩ : ByteArray).size + strW l)} => ⟨22, [(3, .d (.str u.1.2)), (6, .d (strsD l)), (7, .d (.int (l.length : Int))), (8, .d (.int (u.1.1 : Int)))], []⟩)
    (μ := fun u => l.length - u.1.1) ⟨(0, ⟨#[]⟩), ⟨Nat.zero_le _, ⟨by rw [List.drop_zero], by rw [List.drop_zero]; exact Nat.le_refl _⟩⟩⟩ (Le.sub (by simp) (by simp)) (fun ⟨(j, o), ⟨hi3, hw⟩⟩ => ?_)
  dsimp only at hi3 hw ⊢
  refine AWp.rg [] [] ?_
  repeat (first | refine AWp.seq ?_ | refine AWp.block ?_)
  refine AWp.cond rfl (fun hc => ?_) (fun hc => ?_)
  · have hi1 : j < l.length := by have := of_decide_eq_true hc; omega
    clear hc
    have h1s : l[j]? = some l[j] := List.getElem?_eq_getElem hi1
    have hms : l[j] ∈ l := List.getElem_mem hi1
    have hds : l.drop j = l[j] :: l.drop (j + 1) := List.drop_eq_getElem_cons hi1
    generalize l[j] = s at h1s hms hds
    obtain ⟨hj1, hj2⟩ := hw
    rw [hds, joinB] at hj1
    rw [hds, strW] at hj2
    refine AWp.skip ?_
    refine AWp.rg [] [] ?_ (hr := by conv => lhs; simp [h1s])
    by_cases hp : 0 < j
    · refine AWp.rg [] [] ?_ (hr := by conv => lhs; simp [h1s, hp])
      refine AWp.cy ?_
      refine AWp.rg [] [] ?_ (hr := by conv => lhs; simp [h1s, hp])
      refine AWp.rg [] [] ?_ (hr := by conv => lhs; simp [h1s, hp])
      refine AWp.rg [] [] ?_ (hr := by conv => lhs; simp [h1s, hp])
      refine ⟨⟨(j + 1, (o ++ ⟨#[32]⟩) ++ s), hi1, ⟨by rw [hj1, if_pos (by omega)], by dsimp only; try simp only [ByteArray.size_append, zl0, zl1, zl2, zl3, zl4, zl5, zl6, zl7, zl8, zl9, zl10, zl11, zl12, zl13, zl14, zl15, zl16, zl17, zl18]; omega⟩⟩, by simp; omega, ?_⟩
      dsimp only
      exact Le.sub (by simp) (by simp)
    refine AWp.rg [] [] ?_ (hr := by conv => lhs; simp [h1s, hp])
    refine AWp.cn ?_
    refine AWp.skip ?_
    refine AWp.rg [] [] ?_ (hr := by conv => lhs; simp [h1s, hp])
    refine AWp.rg [] [] ?_ (hr := by conv => lhs; simp [h1s, hp])
    refine ⟨⟨(j + 1, o ++ s), hi1, ⟨by rw [hj1, if_neg (by omega)], by dsimp only; try simp only [ByteArray.size_append, zl0, zl1, zl2, zl3, zl4, zl5, zl6, zl7, zl8, zl9, zl10, zl11, zl12, zl13, zl14, zl15, zl16, zl17, zl18]; omega⟩⟩, by simp; omega, ?_⟩
    dsimp only
    exact Le.sub (by simp) (by simp)
  have hi1 : j = l.length := by have := of_decide_eq_false hc; omega
  subst hi1
  clear hc
  obtain ⟨hj1, hj2⟩ := hw
  rw [List.drop_length, joinB] at hj1
  refine AWp.exit ?_
  refine AWp.rg [] [] ?_
  refine AWp.ret ?_
  rw [hj1]
  try dsimp only [thenQ, blockQ]
  apply endQ.ret
  · rfl
  · conv => lhs; simp [resAV, Tryd.results96]
  rfl
set_option maxRecDepth 20000 in
set_option maxHeartbeats 16000000 in
theorem sp_around (w : ByteArray) (l : List ByteArray) (hl : l.length ≤ 8796093022200) (hW : w.size + 1 + strW l ≤ 4611686018427387904) (hJ : (joinB 0 (w :: l) ⟨#[]⟩).size ≤ 4611686018427387904) : PSpec Tryd.prog 98 [.d (.str w), strsAV l] (fun _ => .d (.str ((⟨#[40]⟩ ++ joinB 0 (w :: l) ⟨#[]⟩) ++ ⟨#[41]⟩))) none := by
  have hli := sp_list (w :: l) (by rw [List.length_cons]; omega) (by rw [strW]; omega)
  generalize joinB 0 (w :: l) ⟨#[]⟩ = J at hli hJ ⊢
  simp only [strsAV, strsD, List.map_cons, strR] at hli
  have hm0 : 1 + J.size ≤ maxLen := by unfold maxLen; omega
  have hm1 : 1 + J.size + 1 ≤ maxLen := by unfold maxLen; omega
  have hm2 : 1 + l.length ≤ maxLen := by unfold maxLen; omega
  have hm3 : l.length + 1 ≤ maxLen := by omega
  have ht : List.take (1 + l.length) ([D.str w] :: List.map strR l) = [D.str w] :: List.map strR l := List.take_of_length_le (by simp; omega)
  have hm4 : (1 + l.length) * 16 ≤ 140737488355328 := by omega
  refine PSpec.of Tryd.func98 rfl rfl rfl (Nat.le_of_ble_eq_true rfl) ?_
  show AWp _ _ (endQ _ Tryd.f98 _ _ _) (startAS 12 _)
  refine AWp.rg [] [] ?_ (hr := by conv => lhs; simp [ht])
  refine AWp.rg [3] [.p (fun _ => .d (.str J)) none] ?_ (hr := by conv => lhs; simp [ht])
  refine AWp.ret ?_
  try dsimp only [thenQ, blockQ]
  apply endQ.ret
  · rfl
  · conv => lhs; simp [resAV, Tryd.results98]
  rfl
end Go.Proofs.YtapiiklnnkkdlaaDoor

namespace Go.Proofs.YtapiiklnnkkdlaaDoor
open Go.RowKit
set_option linter.unusedVariables false
set_option linter.unusedSimpArgs false
theorem joinB_sh : ∀ (xs : List Tm) (i : Nat) (o : ByteArray), 0 < i → joinB i (xs.map Tm.sh) o = Tm.shL xs o
  | [], _, _, _ => by rw [List.map_nil, joinB, Tm.shL]
  | x :: r, i, o, h => by rw [List.map_cons, joinB, if_pos h, joinB_sh r (i + 1) _ (by omega), Tm.shL]
theorem joinB_app : ∀ (l : List ByteArray) (i : Nat) (p o : ByteArray), 0 < i → joinB i l (p ++ o) = p ++ joinB i l o
  | [], _, _, _, _ => rfl
  | x :: r, i, p, o, h => by
    rw [joinB, joinB, if_pos h, if_pos h, ByteArray.append_assoc, ByteArray.append_assoc, joinB_app r (i + 1) p _ (by omega), ByteArray.append_assoc]
theorem shL_app (xs : List Tm) (p o : ByteArray) : Tm.shL xs (p ++ o) = p ++ Tm.shL xs o := by
  rw [← joinB_sh xs 1 _ (by omega), ← joinB_sh xs 1 _ (by omega), joinB_app _ _ _ _ (by omega)]
theorem shL_nil (xs : List Tm) (p : ByteArray) : Tm.shL xs p = p ++ Tm.shL xs ⟨#[]⟩ := by
  have h := shL_app xs p ⟨#[]⟩
  rwa [show p ++ (⟨#[]⟩ : ByteArray) = p from ByteArray.append_empty] at h
theorem around_sh (w : ByteArray) (xs : List Tm) : (⟨#[40]⟩ ++ joinB 0 (w :: xs.map Tm.sh) ⟨#[]⟩) ++ ⟨#[41]⟩ = ((⟨#[40]⟩ ++ w) ++ Tm.shL xs ⟨#[]⟩) ++ ⟨#[41]⟩ := by
  rw [joinB, if_neg (by omega), show (⟨#[]⟩ : ByteArray) ++ w = w from ByteArray.empty_append, joinB_sh xs _ _ (by omega), shL_nil xs w]
  simp only [ByteArray.append_assoc]
theorem joinB_split : ∀ (a b : List ByteArray) (i : Nat) (o : ByteArray), joinB i (a ++ b) o = joinB (i + a.length) b (joinB i a o)
  | [], b, i, o => by rw [List.nil_append, joinB, List.length_nil, Nat.add_zero]
  | x :: a, b, i, o => by rw [List.cons_append, joinB, joinB_split a b (i + 1), joinB, List.length_cons, show i + 1 + a.length = i + (a.length + 1) by omega]
theorem joinB0_app (l : List ByteArray) (p : ByteArray) : joinB 0 l p = p ++ joinB 0 l ⟨#[]⟩ := by
  cases l with
  | nil => rw [joinB, joinB, show p ++ (⟨#[]⟩ : ByteArray) = p from ByteArray.append_empty]
  | cons x r =>
    rw [joinB, joinB, if_neg (by omega), if_neg (by omega), show (⟨#[]⟩ : ByteArray) ++ x = x from ByteArray.empty_append, joinB_app r _ p x (by omega)]
def Cs.wd : Cs → ByteArray
  | .mk t ws y => (((((⟨#[40, 35]⟩ ++ itoaB t) ++ ⟨#[32, 40]⟩) ++ joinB 0 ws ⟨#[]⟩) ++ ⟨#[41, 32]⟩) ++ y.sh) ++ ⟨#[41]⟩
theorem shC_eq (c : Cs) (o : ByteArray) : c.shC o = (o ++ ⟨#[32]⟩) ++ c.wd := by
  obtain ⟨t, ws, y⟩ := c
  rw [Cs.shC, Cs.wd, joinB0_app, show (⟨#[32, 40, 35]⟩ : ByteArray) = ⟨#[32]⟩ ++ ⟨#[40, 35]⟩ from rfl]
  simp only [ByteArray.append_assoc]
theorem joinB_wd : ∀ (cs : List Cs) (i : Nat) (o : ByteArray), 0 < i → joinB i (cs.map Cs.wd) o = Cs.shL cs o
  | [], _, _, _ => by rw [List.map_nil, joinB, Cs.shL]
  | c :: r, i, o, h => by rw [List.map_cons, joinB, if_pos h, joinB_wd r (i + 1) _ (by omega), Cs.shL, shC_eq]
theorem around_match (xs : List Tm) (cs : List Cs) : (⟨#[40]⟩ ++ joinB 0 (wMatch :: (xs.map Tm.sh ++ cs.map Cs.wd)) ⟨#[]⟩) ++ ⟨#[41]⟩ = Cs.shL cs (⟨#[40, 109, 97, 116, 99, 104]⟩ ++ Tm.shL xs ⟨#[]⟩) ++ ⟨#[41]⟩ := by
  rw [joinB, if_neg (by omega), show (⟨#[]⟩ : ByteArray) ++ wMatch = wMatch from ByteArray.empty_append, joinB_split, joinB_sh xs _ _ (by omega), joinB_wd cs _ _ (by omega)]
  congr 1
  rw [← joinB_wd cs 1 _ (by omega), ← joinB_wd cs 1 _ (by omega), ← joinB_app _ _ _ _ (by omega), shL_nil xs wMatch, ← ByteArray.append_assoc]
  rfl

theorem aroundL (w : ByteArray) (ws : List ByteArray) (xs : List Tm) : (⟨#[40]⟩ ++ joinB 0 (w :: (ws ++ xs.map Tm.sh)) ⟨#[]⟩) ++ ⟨#[41]⟩ = ((⟨#[40]⟩ ++ joinB 1 ws w) ++ Tm.shL xs ⟨#[]⟩) ++ ⟨#[41]⟩ := by
  rw [joinB, if_neg (by omega), show (⟨#[]⟩ : ByteArray) ++ w = w from ByteArray.empty_append, joinB_split, joinB_sh xs _ _ (by omega), shL_nil xs, Nat.zero_add]
  simp only [ByteArray.append_assoc]
abbrev wDup : ByteArray := ⟨#[100, 117, 112]⟩
abbrev wDrop : ByteArray := ⟨#[100, 114, 111, 112]⟩
abbrev wTake : ByteArray := ⟨#[116, 97, 107, 101]⟩
abbrev wHold : ByteArray := ⟨#[104, 111, 108, 100]⟩
abbrev wUse : ByteArray := ⟨#[117, 115, 101]⟩
abbrev wFree : ByteArray := ⟨#[102, 114, 101, 101]⟩
section
variable (n : Int) (a b : ByteArray) (vs : List ByteArray) (xs : List Tm) (cs : List Cs)
theorem sh1 : (Tm.mk 1 n a b vs xs cs).sh = a := by rw [Tm.sh]; rfl
theorem sh2 : (Tm.mk 2 n a b vs xs cs).sh = itoaB n := by rw [Tm.sh]; rfl
theorem ar3 : (⟨#[40]⟩ ++ joinB 0 ((⟨#[35]⟩ ++ itoaB n) :: xs.map Tm.sh) ⟨#[]⟩) ++ ⟨#[41]⟩ = (Tm.mk 3 n a b vs xs cs).sh := by
  rw [around_sh, Tm.sh]; rfl
theorem ar4 : (⟨#[40]⟩ ++ joinB 0 (a :: xs.map Tm.sh) ⟨#[]⟩) ++ ⟨#[41]⟩ = (Tm.mk 4 n a b vs xs cs).sh := by
  rw [around_sh, Tm.sh]; rfl
theorem ar5 (h1 : 0 < n) (h2 : n < 6) : (⟨#[40]⟩ ++ joinB 0 ((⟨#[43, 45, 42, 60, 61]⟩ : ByteArray).extract (n - 1).toNat n.toNat :: xs.map Tm.sh) ⟨#[]⟩) ++ ⟨#[41]⟩ = (Tm.mk 5 n a b vs xs cs).sh := by
  rw [around_sh, Tm.sh, shK, if_neg (by omega), if_neg (by omega), if_neg (by omega), if_neg (by omega), if_pos rfl, if_pos ⟨h1, h2⟩]
theorem sh5 (h : ¬ (0 < n ∧ n < 6)) : (Tm.mk 5 n a b vs xs cs).sh = ⟨#[63]⟩ := by
  rw [Tm.sh, shK, if_neg (by omega), if_neg (by omega), if_neg (by omega), if_neg (by omega), if_pos rfl, if_neg h]
theorem ar6 : (⟨#[40]⟩ ++ joinB 0 (wLet :: a :: xs.map Tm.sh) ⟨#[]⟩) ++ ⟨#[41]⟩ = (Tm.mk 6 n a b vs xs cs).sh := by
  have h := aroundL wLet [a] xs
  rw [List.singleton_append] at h
  rw [h, joinB, joinB, if_pos (by omega), ← ByteArray.append_assoc, Tm.sh]; rfl
theorem ar7 : (⟨#[40]⟩ ++ joinB 0 (wMatch :: (xs.map Tm.sh ++ cs.map Cs.wd)) ⟨#[]⟩) ++ ⟨#[41]⟩ = (Tm.mk 7 n a b vs xs cs).sh := by
  rw [around_match, Tm.sh]; rfl
theorem ar8 : (⟨#[40]⟩ ++ joinB 0 (wDup :: a :: xs.map Tm.sh) ⟨#[]⟩) ++ ⟨#[41]⟩ = (Tm.mk 8 n a b vs xs cs).sh := by
  have h := aroundL wDup [a] xs
  rw [List.singleton_append] at h
  rw [h, joinB, joinB, if_pos (by omega), ← ByteArray.append_assoc, Tm.sh]; rfl
theorem ar9 : (⟨#[40]⟩ ++ joinB 0 (wDrop :: a :: xs.map Tm.sh) ⟨#[]⟩) ++ ⟨#[41]⟩ = (Tm.mk 9 n a b vs xs cs).sh := by
  have h := aroundL wDrop [a] xs
  rw [List.singleton_append] at h
  rw [h, joinB, joinB, if_pos (by omega), ← ByteArray.append_assoc, Tm.sh]; rfl
theorem ar10 : (⟨#[40]⟩ ++ joinB 0 (wTake :: a :: ((⟨#[40]⟩ ++ joinB 0 vs ⟨#[]⟩) ++ ⟨#[41]⟩) :: xs.map Tm.sh) ⟨#[]⟩) ++ ⟨#[41]⟩ = (Tm.mk 10 n a b vs xs cs).sh := by
  have h := aroundL wTake [a, (⟨#[40]⟩ ++ joinB 0 vs ⟨#[]⟩) ++ ⟨#[41]⟩] xs
  rw [List.cons_append, List.singleton_append] at h
  rw [h, joinB, joinB, joinB, if_pos (by omega), if_pos (by omega), Tm.sh, shK, if_neg (by omega), if_neg (by omega), if_neg (by omega), if_neg (by omega), if_neg (by omega), if_neg (by omega), if_neg (by omega), if_neg (by omega), if_neg (by omega), if_pos rfl,
    show (⟨#[40, 116, 97, 107, 101, 32]⟩ : ByteArray) = ⟨#[40]⟩ ++ (wTake ++ ⟨#[32]⟩) from rfl, show (⟨#[32, 40]⟩ : ByteArray) = ⟨#[32]⟩ ++ ⟨#[40]⟩ from rfl]
  simp only [ByteArray.append_assoc]
theorem ar11 : (⟨#[40]⟩ ++ joinB 0 (wHold :: a :: b :: ((⟨#[40]⟩ ++ joinB 0 vs ⟨#[]⟩) ++ ⟨#[41]⟩) :: xs.map Tm.sh) ⟨#[]⟩) ++ ⟨#[41]⟩ = (Tm.mk 11 n a b vs xs cs).sh := by
  have h := aroundL wHold [a, b, (⟨#[40]⟩ ++ joinB 0 vs ⟨#[]⟩) ++ ⟨#[41]⟩] xs
  rw [List.cons_append, List.cons_append, List.singleton_append] at h
  rw [h, joinB, joinB, joinB, joinB, if_pos (by omega), if_pos (by omega), if_pos (by omega), Tm.sh, shK, if_neg (by omega), if_neg (by omega), if_neg (by omega), if_neg (by omega), if_neg (by omega), if_neg (by omega), if_neg (by omega), if_neg (by omega), if_neg (by omega), if_neg (by omega), if_pos rfl,
    show (⟨#[40, 104, 111, 108, 100, 32]⟩ : ByteArray) = ⟨#[40]⟩ ++ (wHold ++ ⟨#[32]⟩) from rfl, show (⟨#[32, 40]⟩ : ByteArray) = ⟨#[32]⟩ ++ ⟨#[40]⟩ from rfl]
  simp only [ByteArray.append_assoc]
theorem ar12 : (⟨#[40]⟩ ++ joinB 0 (wUse :: b :: (⟨#[35]⟩ ++ itoaB n) :: xs.map Tm.sh) ⟨#[]⟩) ++ ⟨#[41]⟩ = (Tm.mk 12 n a b vs xs cs).sh := by
  have h := aroundL wUse [b, ⟨#[35]⟩ ++ itoaB n] xs
  rw [List.cons_append, List.singleton_append] at h
  rw [h, joinB, joinB, joinB, if_pos (by omega), if_pos (by omega), Tm.sh, shK, if_neg (by omega), if_neg (by omega), if_neg (by omega), if_neg (by omega), if_neg (by omega), if_neg (by omega), if_neg (by omega), if_neg (by omega), if_neg (by omega), if_neg (by omega), if_neg (by omega), if_pos rfl,
    show (⟨#[40, 117, 115, 101, 32]⟩ : ByteArray) = ⟨#[40]⟩ ++ (wUse ++ ⟨#[32]⟩) from rfl]
  simp only [ByteArray.append_assoc]
theorem ar13 : (⟨#[40]⟩ ++ joinB 0 (wFree :: b :: xs.map Tm.sh) ⟨#[]⟩) ++ ⟨#[41]⟩ = (Tm.mk 13 n a b vs xs cs).sh := by
  have h := aroundL wFree [b] xs
  rw [List.singleton_append] at h
  rw [h, joinB, joinB, if_pos (by omega), ← ByteArray.append_assoc, Tm.sh]; rfl
end
theorem sh_else (k n : Int) (a b : ByteArray) (vs : List ByteArray) (xs : List Tm) (cs : List Cs) (h : k < 1 ∨ 13 < k) : (Tm.mk k n a b vs xs cs).sh = ⟨#[63]⟩ := by
  rw [Tm.sh, shK, if_neg (by omega), if_neg (by omega), if_neg (by omega), if_neg (by omega), if_neg (by omega), if_neg (by omega), if_neg (by omega), if_neg (by omega), if_neg (by omega), if_neg (by omega), if_neg (by omega), if_neg (by omega), if_neg (by omega)]
def Fn.tx (f : Fn) : ByteArray := (((((⟨#[40, 102, 110, 32]⟩ ++ f.name) ++ ⟨#[32, 40]⟩) ++ joinB 0 f.params ⟨#[]⟩) ++ ⟨#[41, 32]⟩) ++ f.body.sh) ++ ⟨#[41, 10]⟩
theorem fsh_step (f : Fn) (l : List Fn) (o : ByteArray) : Fn.shL (f :: l) o = Fn.shL l (o ++ f.tx) := by
  rw [Fn.shL, joinB0_app, Fn.tx]
  simp only [ByteArray.append_assoc]
theorem strW_app : ∀ a b : List ByteArray, strW (a ++ b) = strW a + strW b
  | [], b => by simp [strW]
  | x :: a, b => by rw [List.cons_append, strW, strW, strW_app a b]; omega
theorem strW_sh : ∀ xs : List Tm, Tm.InL xs → strW (xs.map Tm.sh) ≤ Tm.wtL xs
  | [], _ => Nat.le_refl _
  | x :: r, h => by
    have h1 := Tm.sh_size x h.1
    have h2 := strW_sh r h.2
    rw [List.map_cons, strW, Tm.wtL]; omega
theorem wd_size (c : Cs) (h : c.In) : c.wd.size ≤ c.wt := by
  obtain ⟨t, ws, y⟩ := c
  have g1 := Tm.sh_size y h.2
  have g2 := itoaB_size h.1
  have g3 := joinB_size ws 0 ⟨#[]⟩
  have e0 : (⟨#[]⟩ : ByteArray).size = 0 := rfl
  have e2 : (⟨#[40, 35]⟩ : ByteArray).size = 2 := rfl
  rw [e0] at g3
  rw [Cs.wd, Cs.wt]
  simp only [ByteArray.size_append, e2, zl4, zl5, zl7]
  omega
theorem strW_wd : ∀ cs : List Cs, Cs.InL cs → strW (cs.map Cs.wd) ≤ Cs.wtL cs + cs.length
  | [], _ => Nat.le_refl _
  | c :: r, h => by
    have h1 := wd_size c h.1
    have h2 := strW_wd r h.2
    rw [List.map_cons, strW, Cs.wtL, List.length_cons]; omega
end Go.Proofs.YtapiiklnnkkdlaaDoor
