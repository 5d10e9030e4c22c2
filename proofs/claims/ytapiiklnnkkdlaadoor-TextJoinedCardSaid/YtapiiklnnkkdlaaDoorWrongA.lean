import Derived.Test.YtapiiklnnkkdlaaDoorParseE
import Derived.Test.YtapiiklnnkkdlaaDoorArP
import Derived.Test.YtapiiklnnkkdlaaDoorNumA
/- xcref1.Parse. Printed by a small program. -/
namespace Go.Proofs.YtapiiklnnkkdlaaDoor
open Go.RowKit
attribute [local simp] runD mkRc ldOf stOf stOk ldArg noAny dstOk guardOk opEff opEff0 effOp pureOp callOp zEff evA constAV scalAV Value.oneCell' frGet memGet startAS frOf isGoCall idIn AS.after nextR opnIds objIds AV.ids idsL AObj.ids frNo memNo opnAny isAny mkVal rdCells wrCells fldAddr idxAddr srcRows litRows toD1 toDs setAt sliceAV optI partAV bldAV fillAV binAV binI AV.cells callEff calleeOf frKill memKill AV.kill AObj.kill AV.has AV.hasL Op.operands Call.operands keepF keepM viewIds cChk renOf moGet moWs moQ cEff moLike moHave AV.ren renL AObj.ren AObj.like kept startC moMem AV.frz frz1 frzL frSub memSub frzs AS.frz frFrz memFrz AObj.frz takeMap takeLen bleF Nat.ble_eq memAny objAny mapOp D.keyOk rowAV valRow extOp wrapOp phO frLow memLow memLow1 objLow memEmpty Low LowL
set_option linter.unusedVariables false
set_option linter.unusedSimpArgs false
set_option maxRecDepth 20000 in
set_option maxHeartbeats 16000000 in
theorem sp_Parse (s : ByteArray) : PSpec Tryd.prog 42 [.d (.str s)] (fun _ => .tuple [fnsAV (parseP false s).1, .d (.int (parseP false s).2)]) none := by
  obtain ⟨R, hR⟩ : ∃ R, R = parseP false s := ⟨_, rfl⟩
  rw [← hR]
  unfold parseP at hR
  obtain ⟨F, hF⟩ : ∃ F, F = fnsP false s (s.size + 2) (0, 0) := ⟨_, rfl⟩
  rw [← hF] at hR
  obtain ⟨N, hN⟩ : ∃ N : Int, (s.size : Int) = N := ⟨_, rfl⟩
  try unfold pO at *
  refine PSpec.of Tryd.func42 rfl rfl rfl (Nat.le_of_ble_eq_true rfl) ?_
  show AWp _ _ (endQ _ Tryd.f42 _ _ _) (startAS 54 _)
  refine AWp.rg [] [] ?_ (hr := by conv => lhs; simp [Fn.row, Tm.row, Tm.rows_eq, Cs.rows_eq, hN])
  by_cases q1 : 1500 < N
  · refine AWp.rg [] [] ?_ (hr := by conv => lhs; simp [Fn.row, Tm.row, Tm.rows_eq, Cs.rows_eq, hN, q1])
    refine AWp.cy ?_
    rw [if_pos (by omega)] at hR
    subst hR
    refine AWp.rg [] [] ?_ (hr := by conv => lhs; simp [Fn.row, Tm.row, Tm.rows_eq, Cs.rows_eq, hN, q1])
    refine AWp.ret ?_
    try dsimp only [thenQ, blockQ]
    apply endQ.ret
    · rfl
    · conv => lhs; simp [resAV, Tryd.results42]
    first | rfl | simp [resVal, AV.nilD]
  refine AWp.rg [] [] ?_ (hr := by conv => lhs; simp [Fn.row, Tm.row, Tm.rows_eq, Cs.rows_eq, hN, q1])
  refine AWp.cn ?_
  refine AWp.skip ?_
  rw [if_neg (by omega)] at hR
  have hs : s.size ≤ 1500 := by omega
  refine AWp.rg [] [] ?_ (hr := by conv => lhs; simp [Fn.row, Tm.row, Tm.rows_eq, Cs.rows_eq, hN, q1])
  refine AWp.rg [] [] ?_ (hr := by conv => lhs; simp [Fn.row, Tm.row, Tm.rows_eq, Cs.rows_eq, hN, q1])
  repeat (first | refine AWp.seq ?_ | refine AWp.block ?_)
  refine AWp.le (Le.low [400] [] (fr := [(4, .ptr 4 0), (5, .arr 400 0 ([] : List Fn).length)]) (mem := [(4, some (.blk 100 [.ptr 12 0])), (12, some (.blk 102 [.d (.str s), .d (.int ((0 : Nat) : Int)), .d (.int (0 : Int))])), (400, some (.arr 36 9 (([] : List Fn).map Fn.row)))]) rfl (by simp) (by simp)) ?_
  refine AWp.loop (σ := fun u : {u : List Fn × Nat × Int × Nat // (F = (u.1 ++ (fnsP false s u.2.2.2 (u.2.1, u.2.2.1)).1, (fnsP false s u.2.2.2 (u.2.1, u.2.2.1)).2) ∧ u.2.1 ≤ s.size ∧ u.1.length + u.2.2.2 = s.size + 2 ∧ 0 < u.2.2.2 ∧ (u.2.2.1 ≠ 0 ∨ s.size - u.2.1 + 1 < u.2.2.2))} => ⟨54, [(4, .ptr 4 0), (5, .arr 400 0 u.1.1.length)], [(4, some (.blk 100 [.ptr 12 0])), (12, some (.blk 102 [.d (.str s), .d (.int (u.1.2.1 : Int)), .d (.int u.1.2.2.1)])), (400, some (.arr 36 9 (u.1.1.map Fn.row)))]⟩)
    (μ := fun u => u.1.2.2.2) ⟨([], 0, 0, s.size + 2), ⟨by rw [hF]; simp, Nat.zero_le _, by simp, by dsimp only; omega, .inr (by dsimp only; omega)⟩⟩ (Le.sub (by simp) (by simp)) (fun ⟨(fs, c, ee, m), hw⟩ => ?_)
  dsimp only at hw ⊢
  obtain ⟨hmm, hcl, hum, hm0, hon⟩ := hw
  obtain ⟨m, rfl⟩ : ∃ k, m = k + 1 := ⟨m - 1, by omega⟩
  have hpk := cs_Peek s c ee hcl hs
  rw [fnsP] at hmm
  obtain ⟨W, hW⟩ : ∃ W, W = pkW s c := ⟨_, rfl⟩
  obtain ⟨A, hA⟩ : ∃ A, A = pkA s c := ⟨_, rfl⟩
  have hA1 : c ≤ A := by rw [hA]; exact (pkA_le hcl).1
  have hA2 : A ≤ s.size := by rw [hA]; exact (pkA_le hcl).2
  rw [← hA] at hpk
  rw [← hW] at hpk
  dsimp only at hmm
  rw [← hW, ← hA] at hmm
  by_cases q2 : ee = 0
  · have q2t := eq_true q2
    by_cases q3 : W = ⟨#[]⟩
    · have q3t := eq_true q3
      refine AWp.rg [] [.c [(1000, 12)] [.ptr 1000 0] [(1000, .blk 102 [.d (.str s), .d (.int (c : Int)), .d (.int ee)])] (.d (.str W)) [(1000, .blk 102 [.d (.str s), .d (.int (A : Int)), .d (.int ee)])]] ?_ (hr := by conv => lhs; simp [Fn.row, Tm.row, Tm.rows_eq, Cs.rows_eq, hN, q1, q2t, q3t])
      refine AWp.cn ?_
      refine AWp.exit ?_
      rw [if_pos q2, if_pos (by rw [q3]; rfl), List.append_nil] at hmm
      rw [hmm] at hR
      dsimp only at hR
      refine AWp.rg [] [] ?_ (hr := by conv => lhs; simp [Fn.row, Tm.row, Tm.rows_eq, Cs.rows_eq, hN, q1, q2t, q3t])
      refine AWp.cn ?_
      refine AWp.skip ?_
      rw [if_pos q2] at hR
      subst hR
      refine AWp.rg [] [] ?_ (hr := by conv => lhs; simp [Fn.row, Tm.row, Tm.rows_eq, Cs.rows_eq, hN, q1, q2t, q3t])
      refine AWp.ret ?_
      try dsimp only [thenQ, blockQ]
      apply endQ.retF [400]
      · rfl
      · conv => lhs; simp
      · conv => lhs; simp [resAV, Tryd.results42]
      simp [resVal, AV.nilD, *]
    refine AWp.rg [] [.c [(1000, 12)] [.ptr 1000 0] [(1000, .blk 102 [.d (.str s), .d (.int (c : Int)), .d (.int ee)])] (.d (.str W)) [(1000, .blk 102 [.d (.str s), .d (.int (A : Int)), .d (.int ee)])]] ?_ (hr := by conv => lhs; simp [Fn.row, Tm.row, Tm.rows_eq, Cs.rows_eq, hN, q1, q2t, q3])
    refine AWp.cy ?_
    refine AWp.skip ?_
    rw [if_pos q2, if_neg (fun h => q3 (size_zero h))] at hmm
    have hadv := fnP_adv (g := false) (s := s) (p := (A, ee)) hA2
    unfold fnP at hmm hadv
    dsimp only at hmm hadv
    have hw1 := cs_want s lbr A ee hA2 hs
    have h1 := wantS_adv (s := s) (w := lbr) (p := (A, ee)) hA2
    generalize wantS s lbr (A, ee) = p1 at hw1 h1 hmm hadv
    obtain ⟨A1, e1⟩ := p1
    have h1s := h1.sz
    dsimp only at h1s hw1
    have hw2 := cs_want s wFn A1 e1 h1s hs
    have h2 := wantS_adv (s := s) (w := wFn) (p := (A1, e1)) h1s
    generalize wantS s wFn (A1, e1) = p2 at hw2 h2 hmm hadv
    obtain ⟨A2, e2⟩ := p2
    have h2s := h2.sz
    dsimp only at h2s hw2
    have hw3 := cs_pname s A2 e2 h2s hs
    have h3 := namP_adv (s := s) (p := (A2, e2)) h2s
    generalize namP s (A2, e2) = t3 at hw3 h3 hmm hadv
    obtain ⟨fg, A3, e3⟩ := t3
    have h3s := h3.sz
    dsimp only at h3s hw3 hmm hadv
    have hw4 := cs_want s lbr A3 e3 h3s hs
    have h4 := wantS_adv (s := s) (w := lbr) (p := (A3, e3)) h3s
    generalize wantS s lbr (A3, e3) = p4 at hw4 h4 hmm hadv
    obtain ⟨A4, e4⟩ := p4
    have h4s := h4.sz
    dsimp only at h4s hw4
    have hw5 := cs_manyP s fg A4 e4 h4s hs (fun us a e hul ha => cs_pP s fg us a e hul ha hs)
    simp only [List.length_nil, List.map_nil] at hw5
    have h5 := (manyP_adv (fun p h => namP_adv (s := s) h) (s.size + 2) (A4, e4) h4s).1
    generalize manyP s (namP s) (s.size + 2) (A4, e4) = t5 at hw5 h5 hmm hadv
    obtain ⟨ws, A5, e5⟩ := t5
    have h5s := h5.sz
    dsimp only at h5s hw5 hmm hadv
    have hw6 := cs_Term s hs 25 (Nat.le_refl _) A5 e5 h5s
    have h6 := ps_adv (g := false) (s := s) 25 (A5, e5) h5s
    generalize Tm.ps false s 25 (A5, e5) = t6 at hw6 h6 hmm hadv
    obtain ⟨⟨xk, xn, xa, xb, xvs, xxs, xcs⟩, A6, e6⟩ := t6
    have h6s := h6.sz
    dsimp only at h6s hw6 hmm hadv
    have hw7 := cs_want s rbr A6 e6 h6s hs
    generalize wantS s rbr (A6, e6) = p7 at hw7 hmm hadv
    obtain ⟨A7, e7⟩ := p7
    have hs7 := hadv.sz
    have ho7 := hadv.on
    dsimp only at hs7 ho7 hw7 hmm
    obtain ⟨fs2, hfs2⟩ : ∃ l, l = fs ++ [Fn.mk fg ws (.mk xk xn xa xb xvs xxs xcs)] := ⟨_, rfl⟩
    have hfs2l : fs2.length = fs.length + 1 := by rw [hfs2]; simp
    have hfs2m : fs.map Fn.row ++ [[.str fg, strsD ws, .int xk, .int xn, .str xa, .str xb, strsD xvs, .sl (xxs.map Tm.row), .sl (xcs.map Cs.row)]] = fs2.map Fn.row := by rw [hfs2]; simp [Fn.row, Tm.row, Tm.rows_eq, Cs.rows_eq]
    rw [show (25 : Int) - ((25 : Nat) : Int) = 0 from rfl] at hw6
    refine AWp.rg [] [.c [(1000, 12)] [.ptr 1000 0, .d (.str (⟨#[40]⟩))] [(1000, .blk 102 [.d (.str s), .d (.int (A : Int)), .d (.int ee)])] (.tuple []) [(1000, .blk 102 [.d (.str s), .d (.int (A1 : Int)), .d (.int e1)])]] ?_ (hr := by conv => lhs; simp [Fn.row, Tm.row, Tm.rows_eq, Cs.rows_eq, hN, q1, q2t, q3])
    refine AWp.rg [] [.c [(1000, 12)] [.ptr 1000 0, .d (.str (⟨#[102, 110]⟩))] [(1000, .blk 102 [.d (.str s), .d (.int (A1 : Int)), .d (.int e1)])] (.tuple []) [(1000, .blk 102 [.d (.str s), .d (.int (A2 : Int)), .d (.int e2)])]] ?_ (hr := by conv => lhs; simp [Fn.row, Tm.row, Tm.rows_eq, Cs.rows_eq, hN, q1, q2t, q3])
    refine AWp.rg [] [.c [(1000, 12)] [.ptr 1000 0] [(1000, .blk 102 [.d (.str s), .d (.int (A2 : Int)), .d (.int e2)])] (.d (.str fg)) [(1000, .blk 102 [.d (.str s), .d (.int (A3 : Int)), .d (.int e3)])]] ?_ (hr := by conv => lhs; simp [Fn.row, Tm.row, Tm.rows_eq, Cs.rows_eq, hN, q1, q2t, q3])
    refine AWp.rg [] [.c [(1000, 12)] [.ptr 1000 0, .d (.str (⟨#[40]⟩))] [(1000, .blk 102 [.d (.str s), .d (.int (A3 : Int)), .d (.int e3)])] (.tuple []) [(1000, .blk 102 [.d (.str s), .d (.int (A4 : Int)), .d (.int e4)])]] ?_ (hr := by conv => lhs; simp [Fn.row, Tm.row, Tm.rows_eq, Cs.rows_eq, hN, q1, q2t, q3])
    repeat (first | refine AWp.seq ?_ | refine AWp.block ?_)
    refine AWp.le (Le.low [401] [] (fr := [(4, .ptr 4 0), (5, .arr 400 0 fs.length), (6, .ptr 6 0)]) (mem := [(4, some (.blk 100 [.ptr 12 0])), (6, some (.blk 36 [.d (.str fg), .arr 401 0 0, .d (.int 0), .d (.int 0), .d (.str ByteArray.empty), .d (.str ByteArray.empty), .lit (.slice none 0 0), .lit (.slice none 0 0), .lit (.slice none 0 0)])), (12, some (.blk 102 [.d (.str s), .d (.int (A4 : Int)), .d (.int e4)])), (400, some (.arr 36 9 (fs.map Fn.row))), (401, some (.arr 9 1 ([])))]) rfl (by simp) (by simp)) ?_
    refine AWp.rg [] [.c [(1000, 12), (1001, 6), (1002, 4), (500, 401)] [.ptr 1000 0, .clo 94 [.ptr 1001 0, .ptr 1002 0]] [(1000, .blk 102 [.d (.str s), .d (.int (A4 : Int)), .d (.int e4)]), (1001, .blk 36 [.d (.str fg), .arr 500 0 0, .d (.int 0), .d (.int 0), .d (.str ByteArray.empty), .d (.str ByteArray.empty), .lit (.slice none 0 0), .lit (.slice none 0 0), .lit (.slice none 0 0)]), (1002, .blk 100 [.ptr 1000 0]), (500, .arr 9 1 ([]))] (.tuple []) [(1000, .blk 102 [.d (.str s), .d (.int (A5 : Int)), .d (.int e5)]), (1001, .blk 36 [.d (.str fg), .arr 500 0 ws.length, .d (.int 0), .d (.int 0), .d (.str ByteArray.empty), .d (.str ByteArray.empty), .lit (.slice none 0 0), .lit (.slice none 0 0), .lit (.slice none 0 0)]), (1002, .blk 100 [.ptr 1000 0]), (500, .arr 9 1 (ws.map strR))]] ?_ (hr := by conv => lhs; simp [Fn.row, Tm.row, Tm.rows_eq, Cs.rows_eq, hN, q1, q2t, q3])
    refine AWp.rg [] [.c [(1000, 12)] [.ptr 1000 0, .d (.int 0)] [(1000, .blk 102 [.d (.str s), .d (.int (A5 : Int)), .d (.int e5)])] (.agg [.d (.int xk), .d (.int xn), .d (.str xa), .d (.str xb), .d (strsD xvs), .d (.sl (xxs.map Tm.row)), .d (.sl (xcs.map Cs.row))]) [(1000, .blk 102 [.d (.str s), .d (.int (A6 : Int)), .d (.int e6)])]] ?_ (hr := by conv => lhs; simp [Fn.row, Tm.row, Tm.rows_eq, Cs.rows_eq, hN, q1, q2t, q3])
    refine AWp.rg [] [.c [(1000, 12)] [.ptr 1000 0, .d (.str (⟨#[41]⟩))] [(1000, .blk 102 [.d (.str s), .d (.int (A6 : Int)), .d (.int e6)])] (.tuple []) [(1000, .blk 102 [.d (.str s), .d (.int (A7 : Int)), .d (.int e7)])]] ?_ (hr := by conv => lhs; simp [Fn.row, Tm.row, Tm.rows_eq, Cs.rows_eq, hN, q1, q2t, q3])
    apply AWp.frzs [401]
    · conv => lhs; simp
    refine AWp.rg [] [] ?_ (hr := by conv => lhs; simp [Fn.row, Tm.row, Tm.rows_eq, Cs.rows_eq, hN, q1, q2t, q3])
    refine ⟨⟨(fs2, A7, e7, m), ⟨by rw [hmm, hfs2]; simp, hs7, by dsimp only; omega, by dsimp only; rcases hon with h | h <;> omega, by dsimp only; rcases ho7 with h | h; exact .inl h; right; rcases hon with h | h <;> omega⟩⟩, by dsimp only; omega, ?_⟩
    dsimp only
    exact Le.sub (by simp [hfs2m, hfs2l]) (by simp [hfs2m, hfs2l])
  refine AWp.rg [] [] ?_ (hr := by conv => lhs; simp [Fn.row, Tm.row, Tm.rows_eq, Cs.rows_eq, hN, q1, q2])
  refine AWp.cn ?_
  refine AWp.exit ?_
  rw [if_neg q2, List.append_nil] at hmm
  rw [hmm] at hR
  dsimp only at hR
  refine AWp.rg [] [] ?_ (hr := by conv => lhs; simp [Fn.row, Tm.row, Tm.rows_eq, Cs.rows_eq, hN, q1, q2])
  refine AWp.cy ?_
  rw [if_neg q2] at hR
  subst hR
  refine AWp.dw [] [] mixed ?_ (hr := by conv => lhs; simp [Fn.row, Tm.row, Tm.rows_eq, Cs.rows_eq, hN, q1, q2])
  refine AWp.ret ?_
  try dsimp only [thenQ, blockQ]
  apply endQ.ret
  · rfl
  · conv => lhs; simp [resAV, Tryd.results42]
  first | rfl | simp [resVal, AV.nilD]
end Go.Proofs.YtapiiklnnkkdlaaDoor

namespace Go.Proofs.YtapiiklnnkkdlaaDoor
open Go.RowKit
attribute [local simp] runD mkRc ldOf stOf stOk ldArg noAny dstOk guardOk opEff opEff0 effOp pureOp callOp zEff evA constAV scalAV Value.oneCell' frGet memGet startAS frOf isGoCall idIn AS.after nextR opnIds objIds AV.ids idsL AObj.ids frNo memNo opnAny isAny mkVal rdCells wrCells fldAddr idxAddr srcRows litRows toD1 toDs setAt sliceAV optI partAV bldAV fillAV binAV binI AV.cells callEff calleeOf frKill memKill AV.kill AObj.kill AV.has AV.hasL Op.operands Call.operands keepF keepM viewIds cChk renOf moGet moWs moQ cEff moLike moHave AV.ren renL AObj.ren AObj.like kept startC moMem AV.frz frz1 frzL frSub memSub frzs AS.frz frFrz memFrz AObj.frz takeMap takeLen bleF Nat.ble_eq memAny objAny mapOp D.keyOk rowAV valRow extOp wrapOp phO
set_option linter.unusedVariables false
set_option linter.unusedSimpArgs false
def ShN (N : Nat) : Prop := ∀ t : Tm, t.sz ≤ N → t.In → t.wt ≤ 4611686018427387904 → PSpec Tryd.prog 47 [tmAV t] (fun _ => .d (.str t.sh)) none
set_option maxRecDepth 20000 in
set_option maxHeartbeats 16000000 in
theorem sh_step (N : Nat) (ih : ShN N) : ShN (N + 1) := by
  intro t hsz hI hW
  obtain ⟨R, hR⟩ : ∃ R, R = t.sh := ⟨_, rfl⟩
  rw [← hR]
  obtain ⟨tk, tn, ta, tb, tvs, txs, tcs⟩ := t
  obtain ⟨hn, hxI, hcI⟩ := hI
  rw [Tm.InL_iff] at hxI
  rw [Cs.InL_iff] at hcI
  rw [Tm.sz] at hsz
  rw [Tm.wt] at hW
  have hA := Tm.shL_size txs ⟨#[]⟩ (Tm.InL_iff.2 hxI)
  have hV := joinB_size tvs 0 ⟨#[]⟩
  have e0 : (⟨#[]⟩ : ByteArray).size = 0 := rfl
  rw [e0, Nat.zero_add] at hA hV
  have hxl := Tm.wtL_len txs
  have hcl := Cs.wtL_len tcs
  have hvl := strW_len tvs
  have hit0 := sp_Itoa tn hn
  have hT := itoaB_size hn
  obtain ⟨T, hT0⟩ : ∃ T, T = itoaB tn := ⟨_, rfl⟩
  rw [← hT0] at hit0 hT
  rw [Tm.sh] at hR
  have hx7 : (7 : Int) = 7 := rfl
  refine PSpec.of Tryd.func47 rfl rfl rfl (Nat.le_of_ble_eq_true rfl) ?_
  show AWp _ _ (endQ _ Tryd.f47 _ _ _) (startAS 209 _)
  refine AWp.rg [] [] ?_ (hr := by conv => lhs; simp [Tm.row, Tm.rows_eq, Cs.rows_eq])
  refine AWp.rg [] [] ?_ (hr := by conv => lhs; simp [Tm.row, Tm.rows_eq, Cs.rows_eq])
  refine AWp.rg [] [] ?_ (hr := by conv => lhs; simp [Tm.row, Tm.rows_eq, Cs.rows_eq])
  repeat (first | refine AWp.seq ?_ | refine AWp.block ?_)
  refine AWp.loop (σ := fun u : {u : Nat × ByteArray // u.1 ≤ txs.length ∧ (Tm.shL txs ⟨#[]⟩ = Tm.shL (txs.drop u.1) u.2 ∧ u.2.size + Tm.wtL (txs.drop u.1) ≤ Tm.wtL txs)} => ⟨209, [(1, .ptr 1 0), (3, .d (.str u.1.2)), (16, .d (.sl (txs.map Tm.row))), (17, .d (.int (txs.length : Int))), (18, .d (.int (u.1.1 : Int)))], [(1, some (.blk 34 [.d (.int tk), .d (.int tn), .d (.str ta), .d (.str tb), .d (strsD tvs), .d (.sl (txs.map Tm.row)), .d (.sl (tcs.map Cs.row))]))]⟩)
    (μ := fun u => txs.length - u.1.1) ⟨(0, ⟨#[]⟩), ⟨Nat.zero_le _, ⟨by rw [List.drop_zero], by rw [List.drop_zero]; exact Nat.le_of_eq (Nat.zero_add _)⟩⟩⟩ (Le.sub (by simp) (by simp)) (fun ⟨(i, o), ⟨hi3, hw⟩⟩ => ?_)
  dsimp only at hi3 hw ⊢
  refine AWp.rg [] [] ?_ (hr := by conv => lhs; simp [Tm.row, Tm.rows_eq, Cs.rows_eq])
  repeat (first | refine AWp.seq ?_ | refine AWp.block ?_)
  refine AWp.cond rfl (fun hc => ?_) (fun hc => ?_)
  · have hi1 : i < txs.length := by have := of_decide_eq_true hc; omega
    clear hc
    have h1y : txs[i]? = some txs[i] := List.getElem?_eq_getElem hi1
    have hmy : txs[i] ∈ txs := List.getElem_mem hi1
    have hdy : txs.drop i = txs[i] :: txs.drop (i + 1) := List.drop_eq_getElem_cons hi1
    generalize txs[i] = y at h1y hmy hdy
    obtain ⟨ho1, ho2⟩ := hw
    have hyw := Tm.wtL_mem hmy
    rw [hdy, Tm.shL] at ho1
    rw [hdy, Tm.wtL] at ho2
    have hx := ih y (by have := Tm.szs_mem hmy; omega) (hxI y hmy) (by omega)
    have hz := Tm.sh_size y (hxI y hmy)
    generalize y.sh = z at hx hz ho1
    generalize y.wt = yw at hz ho2 hyw
    obtain ⟨yk, yn, ya, yb, yvs, yxs, ycs⟩ := y
    refine AWp.skip ?_
    refine AWp.rg [] [] ?_ (hr := by conv => lhs; simp [Tm.row, Tm.rows_eq, Cs.rows_eq, h1y])
    refine AWp.rg [] [.p (fun _ => .d (.str z)) none] ?_ (hr := by conv => lhs; simp [Tm.row, Tm.rows_eq, Cs.rows_eq, h1y])
    refine AWp.rg [] [] ?_ (hr := by conv => lhs; simp [Tm.row, Tm.rows_eq, Cs.rows_eq, h1y])
    refine ⟨⟨(i + 1, (o ++ ⟨#[32]⟩) ++ z), hi1, ⟨ho1, by dsimp only; try simp only [ByteArray.size_append, zl0, zl1, zl2, zl3, zl4, zl5, zl6, zl7, zl8, zl9, zl10, zl11, zl12, zl13, zl14, zl15, zl16, zl17, zl18]; omega⟩⟩, by simp; omega, ?_⟩
    dsimp only
    exact Le.sub (by simp) (by simp)
  have hi1 : i = txs.length := by have := of_decide_eq_false hc; omega
  subst hi1
  clear hc
  obtain ⟨ho1, ho2⟩ := hw
  rw [List.drop_length, Tm.shL] at ho1
  rw [ho1] at hR hA
  clear ho1 ho2
  obtain ⟨A, hAA⟩ : ∃ A, A = o := ⟨_, rfl⟩
  rw [← hAA] at hR hA
  refine AWp.exit ?_
  rw [← hAA]
  clear hAA
  refine AWp.rg [] [] ?_ (hr := by conv => lhs; simp [Tm.row, Tm.rows_eq, Cs.rows_eq])
  refine AWp.rg [] [] ?_ (hr := by conv => lhs; simp [Tm.row, Tm.rows_eq, Cs.rows_eq])
  repeat (first | refine AWp.seq ?_ | refine AWp.block ?_)
  refine AWp.loop (σ := fun u : {u : Nat × ByteArray // u.1 ≤ tvs.length ∧ (joinB 0 tvs ⟨#[]⟩ = joinB u.1 (tvs.drop u.1) u.2 ∧ u.2.size + strW (tvs.drop u.1) ≤ (⟨#[]⟩ : ByteArray).size + strW tvs)} => ⟨209, [(1, .ptr 1 0), (3, .d (.str A)), (6, .d (.str u.1.2)), (29, .d (strsD tvs)), (30, .d (.int (tvs.length : Int))), (31, .d (.int (u.1.1 : Int)))], [(1, some (.blk 34 [.d (.int tk), .d (.int tn), .d (.str ta), .d (.str tb), .d (strsD tvs), .d (.sl (txs.map Tm.row)), .d (.sl (tcs.map Cs.row))]))]⟩)
    (μ := fun u => tvs.length - u.1.1) ⟨(0, ⟨#[]⟩), ⟨Nat.zero_le _, ⟨by rw [List.drop_zero], by rw [List.drop_zero]; exact Nat.le_refl _⟩⟩⟩ (Le.sub (by simp) (by simp)) (fun ⟨(i, v), ⟨hi9, hw⟩⟩ => ?_)
  dsimp only at hi9 hw ⊢
  refine AWp.rg [] [] ?_ (hr := by conv => lhs; simp [Tm.row, Tm.rows_eq, Cs.rows_eq])
  repeat (first | refine AWp.seq ?_ | refine AWp.block ?_)
  refine AWp.cond rfl (fun hc => ?_) (fun hc => ?_)
  · have hi1 : i < tvs.length := by have := of_decide_eq_true hc; omega
    clear hc
    have h1s : tvs[i]? = some tvs[i] := List.getElem?_eq_getElem hi1
    have hms : tvs[i] ∈ tvs := List.getElem_mem hi1
    have hds : tvs.drop i = tvs[i] :: tvs.drop (i + 1) := List.drop_eq_getElem_cons hi1
    generalize tvs[i] = s at h1s hms hds
    obtain ⟨hj1, hj2⟩ := hw
    rw [hds, joinB] at hj1
    rw [hds, strW] at hj2
    refine AWp.skip ?_
    refine AWp.rg [] [] ?_ (hr := by conv => lhs; simp [Tm.row, Tm.rows_eq, Cs.rows_eq, h1s])
    by_cases hp : 0 < i
    · refine AWp.rg [] [] ?_ (hr := by conv => lhs; simp [Tm.row, Tm.rows_eq, Cs.rows_eq, h1s, hp])
      refine AWp.cy ?_
      refine AWp.rg [] [] ?_ (hr := by conv => lhs; simp [Tm.row, Tm.rows_eq, Cs.rows_eq, h1s, hp])
      refine AWp.rg [] [] ?_ (hr := by conv => lhs; simp [Tm.row, Tm.rows_eq, Cs.rows_eq, h1s, hp])
      refine AWp.rg [] [] ?_ (hr := by conv => lhs; simp [Tm.row, Tm.rows_eq, Cs.rows_eq, h1s, hp])
      refine ⟨⟨(i + 1, (v ++ ⟨#[32]⟩) ++ s), hi1, ⟨by rw [hj1, if_pos (by omega)], by dsimp only; try simp only [ByteArray.size_append, zl0, zl1, zl2, zl3, zl4, zl5, zl6, zl7, zl8, zl9, zl10, zl11, zl12, zl13, zl14, zl15, zl16, zl17, zl18]; omega⟩⟩, by simp; omega, ?_⟩
      dsimp only
      exact Le.sub (by simp) (by simp)
    refine AWp.rg [] [] ?_ (hr := by conv => lhs; simp [Tm.row, Tm.rows_eq, Cs.rows_eq, h1s, hp])
    refine AWp.cn ?_
    refine AWp.skip ?_
    refine AWp.rg [] [] ?_ (hr := by conv => lhs; simp [Tm.row, Tm.rows_eq, Cs.rows_eq, h1s, hp])
    refine AWp.rg [] [] ?_ (hr := by conv => lhs; simp [Tm.row, Tm.rows_eq, Cs.rows_eq, h1s, hp])
    refine ⟨⟨(i + 1, v ++ s), hi1, ⟨by rw [hj1, if_neg (by omega)], by dsimp only; try simp only [ByteArray.size_append, zl0, zl1, zl2, zl3, zl4, zl5, zl6, zl7, zl8, zl9, zl10, zl11, zl12, zl13, zl14, zl15, zl16, zl17, zl18]; omega⟩⟩, by simp; omega, ?_⟩
    dsimp only
    exact Le.sub (by simp) (by simp)
  have hi1 : i = tvs.length := by have := of_decide_eq_false hc; omega
  subst hi1
  clear hc
  obtain ⟨hj1, hj2⟩ := hw
  rw [List.drop_length, joinB] at hj1
  rw [hj1] at hR hV
  clear hj1 hj2
  refine AWp.exit ?_
  refine AWp.rg [] [.p (fun _ => .d (.str T)) none] ?_ (hr := by conv => lhs; simp [Tm.row, Tm.rows_eq, Cs.rows_eq])
  refine AWp.rg [] [] ?_ (hr := by conv => lhs; simp [Tm.row, Tm.rows_eq, Cs.rows_eq])
  by_cases q1 : tk = 1
  · have q1t := eq_true q1
    refine AWp.rg [] [] ?_ (hr := by conv => lhs; simp [Tm.row, Tm.rows_eq, Cs.rows_eq, q1t])
    refine AWp.cy ?_
    rw [shK, if_pos (by omega)] at hR
    rw [hR]
    refine AWp.rg [] [] ?_ (hr := by conv => lhs; simp [Tm.row, Tm.rows_eq, Cs.rows_eq, q1t])
    refine AWp.ret ?_
    try dsimp only [thenQ, blockQ]
    apply endQ.ret
    · rfl
    · conv => lhs; simp [resAV, Tryd.results47]
    first | rfl | simp [resVal]
  refine AWp.rg [] [] ?_ (hr := by conv => lhs; simp [Tm.row, Tm.rows_eq, Cs.rows_eq, q1])
  refine AWp.cn ?_
  by_cases q2 : tk = 2
  · have q2t := eq_true q2
    refine AWp.rg [] [] ?_ (hr := by conv => lhs; simp [Tm.row, Tm.rows_eq, Cs.rows_eq, q1, q2t])
    refine AWp.cy ?_
    rw [shK, if_neg (by omega), if_pos (by omega)] at hR
    rw [← hT0] at hR
    rw [hR]
    refine AWp.rg [] [.p (fun _ => .d (.str T)) none] ?_ (hr := by conv => lhs; simp [Tm.row, Tm.rows_eq, Cs.rows_eq, q1, q2t])
    refine AWp.ret ?_
    try dsimp only [thenQ, blockQ]
    apply endQ.ret
    · rfl
    · conv => lhs; simp [resAV, Tryd.results47]
    first | rfl | simp [resVal]
  refine AWp.rg [] [] ?_ (hr := by conv => lhs; simp [Tm.row, Tm.rows_eq, Cs.rows_eq, q1, q2])
  refine AWp.cn ?_
  by_cases q3 : tk = 3
  · have q3t := eq_true q3
    refine AWp.rg [] [] ?_ (hr := by conv => lhs; simp [Tm.row, Tm.rows_eq, Cs.rows_eq, q1, q2, q3t])
    refine AWp.cy ?_
    rw [shK, if_neg (by omega), if_neg (by omega), if_pos (by omega)] at hR
    rw [← hT0] at hR
    rw [hR]
    refine AWp.rg [] [] ?_ (hr := by conv => lhs; simp [Tm.row, Tm.rows_eq, Cs.rows_eq, q1, q2, q3t])
    refine AWp.ret ?_
    try dsimp only [thenQ, blockQ]
    apply endQ.ret
    · rfl
    · conv => lhs; simp [resAV, Tryd.results47]
    first | rfl | simp [resVal]
  refine AWp.rg [] [] ?_ (hr := by conv => lhs; simp [Tm.row, Tm.rows_eq, Cs.rows_eq, q1, q2, q3])
  refine AWp.cn ?_
  by_cases q4 : tk = 4
  · have q4t := eq_true q4
    refine AWp.rg [] [] ?_ (hr := by conv => lhs; simp [Tm.row, Tm.rows_eq, Cs.rows_eq, q1, q2, q3, q4t])
    refine AWp.cy ?_
    rw [shK, if_neg (by omega), if_neg (by omega), if_neg (by omega), if_pos (by omega)] at hR
    rw [hR]
    refine AWp.rg [] [] ?_ (hr := by conv => lhs; simp [Tm.row, Tm.rows_eq, Cs.rows_eq, q1, q2, q3, q4t])
    refine AWp.ret ?_
    try dsimp only [thenQ, blockQ]
    apply endQ.ret
    · rfl
    · conv => lhs; simp [resAV, Tryd.results47]
    first | rfl | simp [resVal]
  refine AWp.rg [] [] ?_ (hr := by conv => lhs; simp [Tm.row, Tm.rows_eq, Cs.rows_eq, q1, q2, q3, q4])
  refine AWp.cn ?_
  by_cases q5 : tk = 5
  · have q5t := eq_true q5
    refine AWp.rg [] [] ?_ (hr := by conv => lhs; simp [Tm.row, Tm.rows_eq, Cs.rows_eq, q1, q2, q3, q4, q5t])
    refine AWp.cy ?_
    by_cases q6 : 0 < tn
    · by_cases q7 : tn < 6
      · refine AWp.rg [] [] ?_ (hr := by conv => lhs; simp [Tm.row, Tm.rows_eq, Cs.rows_eq, q1, q2, q3, q4, q5t, q6, q7])
        refine AWp.cy ?_
        rw [shK, if_neg (by omega), if_neg (by omega), if_neg (by omega), if_neg (by omega), if_pos (by omega), if_pos (by omega)] at hR
        rw [hR]
        refine AWp.rg [] [] ?_ (hr := by conv => lhs; simp [Tm.row, Tm.rows_eq, Cs.rows_eq, q1, q2, q3, q4, q5t, q6, q7])
        refine AWp.ret ?_
        try dsimp only [thenQ, blockQ]
        apply endQ.ret
        · rfl
        · conv => lhs; simp [resAV, Tryd.results47]
        first | rfl | simp [resVal]
      refine AWp.rg [] [] ?_ (hr := by conv => lhs; simp [Tm.row, Tm.rows_eq, Cs.rows_eq, q1, q2, q3, q4, q5t, q6, q7])
      refine AWp.cn ?_
      refine AWp.skip ?_
      rw [shK, if_neg (by omega), if_neg (by omega), if_neg (by omega), if_neg (by omega), if_pos (by omega), if_neg (by omega)] at hR
      rw [hR]
      refine AWp.rg [] [] ?_ (hr := by conv => lhs; simp [Tm.row, Tm.rows_eq, Cs.rows_eq, q1, q2, q3, q4, q5t, q6, q7])
      refine AWp.ret ?_
      try dsimp only [thenQ, blockQ]
      apply endQ.ret
      · rfl
      · conv => lhs; simp [resAV, Tryd.results47]
      first | rfl | simp [resVal]
    refine AWp.rg [] [] ?_ (hr := by conv => lhs; simp [Tm.row, Tm.rows_eq, Cs.rows_eq, q1, q2, q3, q4, q5t, q6])
    refine AWp.cn ?_
    refine AWp.skip ?_
    rw [shK, if_neg (by omega), if_neg (by omega), if_neg (by omega), if_neg (by omega), if_pos (by omega), if_neg (by omega)] at hR
    rw [hR]
    refine AWp.rg [] [] ?_ (hr := by conv => lhs; simp [Tm.row, Tm.rows_eq, Cs.rows_eq, q1, q2, q3, q4, q5t, q6])
    refine AWp.ret ?_
    try dsimp only [thenQ, blockQ]
    apply endQ.ret
    · rfl
    · conv => lhs; simp [resAV, Tryd.results47]
    first | rfl | simp [resVal]
  refine AWp.rg [] [] ?_ (hr := by conv => lhs; simp [Tm.row, Tm.rows_eq, Cs.rows_eq, q1, q2, q3, q4, q5])
  refine AWp.cn ?_
  by_cases q8 : tk = 6
  · have q8t := eq_true q8
    refine AWp.rg [] [] ?_ (hr := by conv => lhs; simp [Tm.row, Tm.rows_eq, Cs.rows_eq, q1, q2, q3, q4, q5, q8t])
    refine AWp.cy ?_
    rw [shK, if_neg (by omega), if_neg (by omega), if_neg (by omega), if_neg (by omega), if_neg (by omega), if_pos (by omega)] at hR
    rw [hR]
    refine AWp.rg [] [] ?_ (hr := by conv => lhs; simp [Tm.row, Tm.rows_eq, Cs.rows_eq, q1, q2, q3, q4, q5, q8t])
    refine AWp.ret ?_
    try dsimp only [thenQ, blockQ]
    apply endQ.ret
    · rfl
    · conv => lhs; simp [resAV, Tryd.results47]
    first | rfl | simp [resVal]
  refine AWp.rg [] [] ?_ (hr := by conv => lhs; simp [Tm.row, Tm.rows_eq, Cs.rows_eq, q1, q2, q3, q4, q5, q8])
  refine AWp.cn ?_
  by_cases q9 : tk = 7
  · have q9t := eq_true q9
    refine AWp.rg [] [] ?_ (hr := by conv => lhs; simp [Tm.row, Tm.rows_eq, Cs.rows_eq, q1, q2, q3, q4, q5, q8, q9t])
    refine AWp.cy ?_
    rw [shK, if_neg (by omega), if_neg (by omega), if_neg (by omega), if_neg (by omega), if_neg (by omega), if_neg (by omega), if_pos (by omega)] at hR
    obtain ⟨M0, hM0⟩ : ∃ M, M = ⟨#[40, 109, 97, 116, 99, 104]⟩ ++ A := ⟨_, rfl⟩
    have hM0s : M0.size = 6 + A.size := by rw [hM0, ByteArray.size_append]; rfl
    rw [← hM0] at hR
    refine AWp.rg [] [] ?_ (hr := by conv => lhs; simp [Tm.row, Tm.rows_eq, Cs.rows_eq, q1, q2, q3, q4, q5, q8, q9t])
    rw [← hM0]
    clear hM0
    refine AWp.rg [] [] ?_ (hr := by conv => lhs; simp [Tm.row, Tm.rows_eq, Cs.rows_eq, q1, q2, q3, q4, q5, q8, q9t])
    repeat (first | refine AWp.seq ?_ | refine AWp.block ?_)
    refine AWp.loop (σ := fun u : {u : Nat × ByteArray // u.1 ≤ tcs.length ∧ (Cs.shL tcs M0 = Cs.shL (tcs.drop u.1) u.2 ∧ u.2.size + Cs.wtL (tcs.drop u.1) ≤ M0.size + Cs.wtL tcs)} => ⟨209, [(10, .d (.str u.1.2)), (107, .d (.sl (tcs.map Cs.row))), (108, .d (.int (tcs.length : Int))), (109, .d (.int (u.1.1 : Int)))], []⟩)
      (μ := fun u => tcs.length - u.1.1) ⟨(0, M0), ⟨Nat.zero_le _, ⟨by rw [List.drop_zero], by rw [List.drop_zero]; exact Nat.le_refl _⟩⟩⟩ (Le.sub (by simp) (by simp)) (fun ⟨(i, m), ⟨hi34, hw⟩⟩ => ?_)
    dsimp only at hi34 hw ⊢
    refine AWp.rg [] [] ?_ (hr := by conv => lhs; simp [Tm.row, Tm.rows_eq, Cs.rows_eq, q1, q2, q3, q4, q5, q8, q9t])
    repeat (first | refine AWp.seq ?_ | refine AWp.block ?_)
    refine AWp.cond rfl (fun hc => ?_) (fun hc => ?_)
    · have hi1 : i < tcs.length := by have := of_decide_eq_true hc; omega
      clear hc
      have h1y : tcs[i]? = some tcs[i] := List.getElem?_eq_getElem hi1
      have hmy : tcs[i] ∈ tcs := List.getElem_mem hi1
      have hdy : tcs.drop i = tcs[i] :: tcs.drop (i + 1) := List.drop_eq_getElem_cons hi1
      generalize tcs[i] = y at h1y hmy hdy
      obtain ⟨hm1, hm2⟩ := hw
      have hyw := Cs.wtL_mem hmy
      rw [hdy, Cs.shL] at hm1
      rw [hdy, Cs.wtL] at hm2
      have hyI := hcI y hmy
      have hysz := Cs.szs_mem hmy
      obtain ⟨dt, dws, y⟩ := y
      rw [Cs.wt] at hm2 hyw
      rw [Cs.sz] at hysz
      have hit := sp_Itoa dt hyI.1
      have hT2 := itoaB_size hyI.1
      have hwl := strW_len dws
      have hx := ih y (by omega) hyI.2 (by omega)
      have hz := Tm.sh_size y hyI.2
      rw [Cs.shC] at hm1
      generalize itoaB dt = T2 at hit hT2 hm1
      generalize y.sh = z at hx hz hm1
      generalize y.wt = yw at hz hm2 hyw
      obtain ⟨yk, yn, ya, yb, yvs, yxs, ycs⟩ := y
      obtain ⟨m1, hm1d⟩ : ∃ x, x = ((m ++ ⟨#[32, 40, 35]⟩) ++ T2) ++ ⟨#[32, 40]⟩ := ⟨_, rfl⟩
      have hm1s : m1.size = m.size + T2.size + 5 := by rw [hm1d]; try simp only [ByteArray.size_append, zl0, zl1, zl2, zl3, zl4, zl5, zl6, zl7, zl8, zl9, zl10, zl11, zl12, zl13, zl14, zl15, zl16, zl17, zl18]; omega
      rw [← hm1d] at hm1
      refine AWp.skip ?_
      refine AWp.rg [] [] ?_ (hr := by conv => lhs; simp [Tm.row, Tm.rows_eq, Cs.rows_eq, h1y, Cs.row, q1, q2, q3, q4, q5, q8, q9t])
      refine AWp.rg [] [.p (fun _ => .d (.str T2)) none] ?_ (hr := by conv => lhs; simp [Tm.row, Tm.rows_eq, Cs.rows_eq, h1y, Cs.row, q1, q2, q3, q4, q5, q8, q9t])
      rw [← hm1d]
      refine AWp.rg [] [] ?_ (hr := by conv => lhs; simp [Tm.row, Tm.rows_eq, Cs.rows_eq, h1y, Cs.row, q1, q2, q3, q4, q5, q8, q9t])
      repeat (first | refine AWp.seq ?_ | refine AWp.block ?_)
      refine AWp.loop (σ := fun u : {u : Nat × ByteArray // u.1 ≤ dws.length ∧ (joinB 0 dws m1 = joinB u.1 (dws.drop u.1) u.2 ∧ u.2.size + strW (dws.drop u.1) ≤ (m1 : ByteArray).size + strW dws)} => ⟨209, [(10, .d (.str u.1.2)), (12, .ptr 12 0), (107, .d (.sl (tcs.map Cs.row))), (108, .d (.int (tcs.length : Int))), (109, .d (.int (i : Int))), (121, .d (strsD dws)), (122, .d (.int (dws.length : Int))), (123, .d (.int (u.1.1 : Int)))], [(12, some (.blk 40 [.d (.int dt), .d (strsD dws), .d (.int yk), .d (.int yn), .d (.str ya), .d (.str yb), .d (strsD yvs), .d (.sl (yxs.map Tm.row)), .d (.sl (ycs.map Cs.row))]))]⟩)
        (μ := fun u => dws.length - u.1.1) ⟨(0, m1), ⟨Nat.zero_le _, ⟨by rw [List.drop_zero], by rw [List.drop_zero]; exact Nat.le_refl _⟩⟩⟩ (Le.sub (by simp) (by simp)) (fun ⟨(j, v), ⟨hi38, hw⟩⟩ => ?_)
      dsimp only at hi38 hw ⊢
      refine AWp.rg [] [] ?_ (hr := by conv => lhs; simp [Tm.row, Tm.rows_eq, Cs.rows_eq, h1y, Cs.row, q1, q2, q3, q4, q5, q8, q9t])
      repeat (first | refine AWp.seq ?_ | refine AWp.block ?_)
      refine AWp.cond rfl (fun hc => ?_) (fun hc => ?_)
      · have hi1 : j < dws.length := by have := of_decide_eq_true hc; omega
        clear hc
        have h1s : dws[j]? = some dws[j] := List.getElem?_eq_getElem hi1
        have hms : dws[j] ∈ dws := List.getElem_mem hi1
        have hds : dws.drop j = dws[j] :: dws.drop (j + 1) := List.drop_eq_getElem_cons hi1
        generalize dws[j] = s at h1s hms hds
        obtain ⟨hj1, hj2⟩ := hw
        rw [hds, joinB] at hj1
        rw [hds, strW] at hj2
        refine AWp.skip ?_
        refine AWp.rg [] [] ?_ (hr := by conv => lhs; simp [Tm.row, Tm.rows_eq, Cs.rows_eq, h1y, Cs.row, h1s, q1, q2, q3, q4, q5, q8, q9t])
        by_cases hp : 0 < j
        · refine AWp.rg [] [] ?_ (hr := by conv => lhs; simp [Tm.row, Tm.rows_eq, Cs.rows_eq, h1y, Cs.row, h1s, q1, q2, q3, q4, q5, q8, q9t, hp])
          refine AWp.cy ?_
          refine AWp.rg [] [] ?_ (hr := by conv => lhs; simp [Tm.row, Tm.rows_eq, Cs.rows_eq, h1y, Cs.row, h1s, q1, q2, q3, q4, q5, q8, q9t, hp])
          refine AWp.rg [] [] ?_ (hr := by conv => lhs; simp [Tm.row, Tm.rows_eq, Cs.rows_eq, h1y, Cs.row, h1s, q1, q2, q3, q4, q5, q8, q9t, hp])
          refine AWp.rg [] [] ?_ (hr := by conv => lhs; simp [Tm.row, Tm.rows_eq, Cs.rows_eq, h1y, Cs.row, h1s, q1, q2, q3, q4, q5, q8, q9t, hp])
          refine ⟨⟨(j + 1, (v ++ ⟨#[32]⟩) ++ s), hi1, ⟨by rw [hj1, if_pos (by omega)], by dsimp only; try simp only [ByteArray.size_append, zl0, zl1, zl2, zl3, zl4, zl5, zl6, zl7, zl8, zl9, zl10, zl11, zl12, zl13, zl14, zl15, zl16, zl17, zl18]; omega⟩⟩, by simp; omega, ?_⟩
          dsimp only
          exact Le.sub (by simp) (by simp)
        refine AWp.rg [] [] ?_ (hr := by conv => lhs; simp [Tm.row, Tm.rows_eq, Cs.rows_eq, h1y, Cs.row, h1s, q1, q2, q3, q4, q5, q8, q9t, hp])
        refine AWp.cn ?_
        refine AWp.skip ?_
        refine AWp.rg [] [] ?_ (hr := by conv => lhs; simp [Tm.row, Tm.rows_eq, Cs.rows_eq, h1y, Cs.row, h1s, q1, q2, q3, q4, q5, q8, q9t, hp])
        refine AWp.rg [] [] ?_ (hr := by conv => lhs; simp [Tm.row, Tm.rows_eq, Cs.rows_eq, h1y, Cs.row, h1s, q1, q2, q3, q4, q5, q8, q9t, hp])
        refine ⟨⟨(j + 1, v ++ s), hi1, ⟨by rw [hj1, if_neg (by omega)], by dsimp only; try simp only [ByteArray.size_append, zl0, zl1, zl2, zl3, zl4, zl5, zl6, zl7, zl8, zl9, zl10, zl11, zl12, zl13, zl14, zl15, zl16, zl17, zl18]; omega⟩⟩, by simp; omega, ?_⟩
        dsimp only
        exact Le.sub (by simp) (by simp)
      have hi1 : j = dws.length := by have := of_decide_eq_false hc; omega
      subst hi1
      clear hc
      obtain ⟨hj1, hj2⟩ := hw
      rw [List.drop_length, joinB] at hj1
      rw [List.drop_length, strW] at hj2
      rw [hj1] at hm1
      refine AWp.exit ?_
      refine AWp.rg [] [.p (fun _ => .d (.str z)) none] ?_ (hr := by conv => lhs; simp [Tm.row, Tm.rows_eq, Cs.rows_eq, h1y, Cs.row, q1, q2, q3, q4, q5, q8, q9t])
      refine AWp.rg [] [] ?_ (hr := by conv => lhs; simp [Tm.row, Tm.rows_eq, Cs.rows_eq, h1y, Cs.row, q1, q2, q3, q4, q5, q8, q9t])
      refine ⟨⟨(i + 1, ((v ++ ⟨#[41, 32]⟩) ++ z) ++ ⟨#[41]⟩), hi1, ⟨hm1, by dsimp only; try simp only [ByteArray.size_append, zl0, zl1, zl2, zl3, zl4, zl5, zl6, zl7, zl8, zl9, zl10, zl11, zl12, zl13, zl14, zl15, zl16, zl17, zl18]; omega⟩⟩, by simp; omega, ?_⟩
      dsimp only
      exact Le.sub (by simp) (by simp)
    have hi1 : i = tcs.length := by have := of_decide_eq_false hc; omega
    subst hi1
    clear hc
    obtain ⟨hm1, hm2⟩ := hw
    rw [List.drop_length, Cs.shL] at hm1
    rw [hm1] at hR
    rw [List.drop_length, Cs.wtL] at hm2
    refine AWp.exit ?_
    rw [hR]
    refine AWp.rg [] [] ?_ (hr := by conv => lhs; simp [Tm.row, Tm.rows_eq, Cs.rows_eq, q1, q2, q3, q4, q5, q8, q9t])
    refine AWp.ret ?_
    try dsimp only [thenQ, blockQ]
    apply endQ.ret
    · rfl
    · conv => lhs; simp [resAV, Tryd.results47]
    first | rfl | simp [resVal]
  refine AWp.rg [] [] ?_ (hr := by conv => lhs; simp [Tm.row, Tm.rows_eq, Cs.rows_eq, q1, q2, q3, q4, q5, q8, q9])
  refine AWp.cn ?_
  by_cases q10 : tk = 8
  · have q10t := eq_true q10
    refine AWp.rg [] [] ?_ (hr := by conv => lhs; simp [Tm.row, Tm.rows_eq, Cs.rows_eq, q1, q2, q3, q4, q5, q8, q9, q10t])
    refine AWp.cy ?_
    rw [shK, if_neg (by omega), if_neg (by omega), if_neg (by omega), if_neg (by omega), if_neg (by omega), if_neg (by omega), if_neg (by omega), if_pos (by omega)] at hR
    rw [hR]
    refine AWp.rg [] [] ?_ (hr := by conv => lhs; simp [Tm.row, Tm.rows_eq, Cs.rows_eq, q1, q2, q3, q4, q5, q8, q9, q10t])
    refine AWp.ret ?_
    try dsimp only [thenQ, blockQ]
    apply endQ.ret
    · rfl
    · conv => lhs; simp [resAV, Tryd.results47]
    first | rfl | simp [resVal]
  refine AWp.rg [] [] ?_ (hr := by conv => lhs; simp [Tm.row, Tm.rows_eq, Cs.rows_eq, q1, q2, q3, q4, q5, q8, q9, q10])
  refine AWp.cn ?_
  by_cases q11 : tk = 9
  · have q11t := eq_true q11
    refine AWp.rg [] [] ?_ (hr := by conv => lhs; simp [Tm.row, Tm.rows_eq, Cs.rows_eq, q1, q2, q3, q4, q5, q8, q9, q10, q11t])
    refine AWp.cy ?_
    rw [shK, if_neg (by omega), if_neg (by omega), if_neg (by omega), if_neg (by omega), if_neg (by omega), if_neg (by omega), if_neg (by omega), if_neg (by omega), if_pos (by omega)] at hR
    rw [hR]
    refine AWp.rg [] [] ?_ (hr := by conv => lhs; simp [Tm.row, Tm.rows_eq, Cs.rows_eq, q1, q2, q3, q4, q5, q8, q9, q10, q11t])
    refine AWp.ret ?_
    try dsimp only [thenQ, blockQ]
    apply endQ.ret
    · rfl
    · conv => lhs; simp [resAV, Tryd.results47]
    first | rfl | simp [resVal]
  refine AWp.rg [] [] ?_ (hr := by conv => lhs; simp [Tm.row, Tm.rows_eq, Cs.rows_eq, q1, q2, q3, q4, q5, q8, q9, q10, q11])
  refine AWp.cn ?_
  by_cases q12 : tk = 10
  · have q12t := eq_true q12
    refine AWp.rg [] [] ?_ (hr := by conv => lhs; simp [Tm.row, Tm.rows_eq, Cs.rows_eq, q1, q2, q3, q4, q5, q8, q9, q10, q11, q12t])
    refine AWp.cy ?_
    rw [shK, if_neg (by omega), if_neg (by omega), if_neg (by omega), if_neg (by omega), if_neg (by omega), if_neg (by omega), if_neg (by omega), if_neg (by omega), if_neg (by omega), if_pos (by omega)] at hR
    rw [hR]
    refine AWp.rg [] [] ?_ (hr := by conv => lhs; simp [Tm.row, Tm.rows_eq, Cs.rows_eq, q1, q2, q3, q4, q5, q8, q9, q10, q11, q12t])
    refine AWp.ret ?_
    try dsimp only [thenQ, blockQ]
    apply endQ.ret
    · rfl
    · conv => lhs; simp [resAV, Tryd.results47]
    first | rfl | simp [resVal]
  refine AWp.rg [] [] ?_ (hr := by conv => lhs; simp [Tm.row, Tm.rows_eq, Cs.rows_eq, q1, q2, q3, q4, q5, q8, q9, q10, q11, q12])
  refine AWp.cn ?_
  by_cases q13 : tk = 11
  · have q13t := eq_true q13
    refine AWp.rg [] [] ?_ (hr := by conv => lhs; simp [Tm.row, Tm.rows_eq, Cs.rows_eq, q1, q2, q3, q4, q5, q8, q9, q10, q11, q12, q13t])
    refine AWp.cy ?_
    rw [shK, if_neg (by omega), if_neg (by omega), if_neg (by omega), if_neg (by omega), if_neg (by omega), if_neg (by omega), if_neg (by omega), if_neg (by omega), if_neg (by omega), if_neg (by omega), if_pos (by omega)] at hR
    rw [hR]
    refine AWp.rg [] [] ?_ (hr := by conv => lhs; simp [Tm.row, Tm.rows_eq, Cs.rows_eq, q1, q2, q3, q4, q5, q8, q9, q10, q11, q12, q13t])
    refine AWp.ret ?_
    try dsimp only [thenQ, blockQ]
    apply endQ.ret
    · rfl
    · conv => lhs; simp [resAV, Tryd.results47]
    first | rfl | simp [resVal]
  refine AWp.rg [] [] ?_ (hr := by conv => lhs; simp [Tm.row, Tm.rows_eq, Cs.rows_eq, q1, q2, q3, q4, q5, q8, q9, q10, q11, q12, q13])
  refine AWp.cn ?_
  by_cases q14 : tk = 12
  · have q14t := eq_true q14
    refine AWp.rg [] [] ?_ (hr := by conv => lhs; simp [Tm.row, Tm.rows_eq, Cs.rows_eq, q1, q2, q3, q4, q5, q8, q9, q10, q11, q12, q13, q14t])
    refine AWp.cy ?_
    rw [shK, if_neg (by omega), if_neg (by omega), if_neg (by omega), if_neg (by omega), if_neg (by omega), if_neg (by omega), if_neg (by omega), if_neg (by omega), if_neg (by omega), if_neg (by omega), if_neg (by omega), if_pos (by omega)] at hR
    rw [← hT0] at hR
    rw [hR]
    refine AWp.rg [] [] ?_ (hr := by conv => lhs; simp [Tm.row, Tm.rows_eq, Cs.rows_eq, q1, q2, q3, q4, q5, q8, q9, q10, q11, q12, q13, q14t])
    refine AWp.ret ?_
    try dsimp only [thenQ, blockQ]
    apply endQ.ret
    · rfl
    · conv => lhs; simp [resAV, Tryd.results47]
    first | rfl | simp [resVal]
  refine AWp.rg [] [] ?_ (hr := by conv => lhs; simp [Tm.row, Tm.rows_eq, Cs.rows_eq, q1, q2, q3, q4, q5, q8, q9, q10, q11, q12, q13, q14])
  refine AWp.cn ?_
  by_cases q15 : tk = 13
  · have q15t := eq_true q15
    refine AWp.rg [] [] ?_ (hr := by conv => lhs; simp [Tm.row, Tm.rows_eq, Cs.rows_eq, q1, q2, q3, q4, q5, q8, q9, q10, q11, q12, q13, q14, q15t])
    refine AWp.cy ?_
    rw [shK, if_neg (by omega), if_neg (by omega), if_neg (by omega), if_neg (by omega), if_neg (by omega), if_neg (by omega), if_neg (by omega), if_neg (by omega), if_neg (by omega), if_neg (by omega), if_neg (by omega), if_neg (by omega), if_pos (by omega)] at hR
    rw [hR]
    refine AWp.rg [] [] ?_ (hr := by conv => lhs; simp [Tm.row, Tm.rows_eq, Cs.rows_eq, q1, q2, q3, q4, q5, q8, q9, q10, q11, q12, q13, q14, q15t])
    refine AWp.ret ?_
    try dsimp only [thenQ, blockQ]
    apply endQ.ret
    · rfl
    · conv => lhs; simp [resAV, Tryd.results47]
    first | rfl | simp [resVal]
  refine AWp.rg [] [] ?_ (hr := by conv => lhs; simp [Tm.row, Tm.rows_eq, Cs.rows_eq, q1, q2, q3, q4, q5, q8, q9, q10, q11, q12, q13, q14, q15])
  refine AWp.cn ?_
  refine AWp.skip ?_
  rw [shK, if_neg (by omega), if_neg (by omega), if_neg (by omega), if_neg (by omega), if_neg (by omega), if_neg (by omega), if_neg (by omega), if_neg (by omega), if_neg (by omega), if_neg (by omega), if_neg (by omega), if_neg (by omega), if_neg (by omega)] at hR
  rw [hR]
  refine AWp.rg [] [] ?_ (hr := by conv => lhs; simp [Tm.row, Tm.rows_eq, Cs.rows_eq, q1, q2, q3, q4, q5, q8, q9, q10, q11, q12, q13, q14, q15])
  refine AWp.ret ?_
  try dsimp only [thenQ, blockQ]
  apply endQ.ret
  · rfl
  · conv => lhs; simp [resAV, Tryd.results47]
  first | rfl | simp [resVal]
theorem sh_all : ∀ N, ShN N
  | 0 => fun t h => by have := t.sz_ge; omega
  | N + 1 => sh_step N (sh_all N)
theorem sp_Show (t : Tm) (hI : t.In) (hW : t.wt ≤ 4611686018427387904) : PSpec Tryd.prog 47 [tmAV t] (fun _ => .d (.str t.sh)) none := sh_all t.sz t (Nat.le_refl _) hI hW
set_option maxRecDepth 20000 in
set_option maxHeartbeats 16000000 in
theorem sp_Print (l : List Fn) (hI : ∀ f ∈ l, f.body.In) (hW : Fn.wtL l ≤ 4611686018427387904) : PSpec Tryd.prog 45 [fnsAV l] (fun _ => .d (.str (Fn.shL l ⟨#[]⟩))) none := by
  obtain ⟨R, hR⟩ : ∃ R, R = Fn.shL l ⟨#[]⟩ := ⟨_, rfl⟩
  rw [← hR]
  have hll := Fn.wtL_len l
  refine PSpec.of Tryd.func45 rfl rfl rfl (Nat.le_of_ble_eq_true rfl) ?_
  show AWp _ _ (endQ _ Tryd.f45 _ _ _) (startAS 45 _)
  refine AWp.rg [] [] ?_ (hr := by conv => lhs; simp [Fn.row, Tm.row, Tm.rows_eq, Cs.rows_eq])
  refine AWp.rg [] [] ?_ (hr := by conv => lhs; simp [Fn.row, Tm.row, Tm.rows_eq, Cs.rows_eq])
  refine AWp.rg [] [] ?_ (hr := by conv => lhs; simp [Fn.row, Tm.row, Tm.rows_eq, Cs.rows_eq])
  repeat (first | refine AWp.seq ?_ | refine AWp.block ?_)
  refine AWp.loop (σ := fun u : {u : Nat × ByteArray // u.1 ≤ l.length ∧ (Fn.shL l ⟨#[]⟩ = Fn.shL (l.drop u.1) u.2 ∧ u.2.size + Fn.wtL (l.drop u.1) ≤ Fn.wtL l)} => ⟨45, [(3, .d (.str u.1.2)), (8, .d (.sl (l.map Fn.row))), (9, .d (.int (l.length : Int))), (10, .d (.int (u.1.1 : Int)))], []⟩)
    (μ := fun u => l.length - u.1.1) ⟨(0, ⟨#[]⟩), ⟨Nat.zero_le _, ⟨by rw [List.drop_zero], by rw [List.drop_zero]; exact Nat.le_of_eq (Nat.zero_add _)⟩⟩⟩ (Le.sub (by simp) (by simp)) (fun ⟨(i, m), ⟨hi3, hw⟩⟩ => ?_)
  dsimp only at hi3 hw ⊢
  refine AWp.rg [] [] ?_ (hr := by conv => lhs; simp [Fn.row, Tm.row, Tm.rows_eq, Cs.rows_eq])
  repeat (first | refine AWp.seq ?_ | refine AWp.block ?_)
  refine AWp.cond rfl (fun hc => ?_) (fun hc => ?_)
  · have hi1 : i < l.length := by have := of_decide_eq_true hc; omega
    clear hc
    have h1y : l[i]? = some l[i] := List.getElem?_eq_getElem hi1
    have hmy : l[i] ∈ l := List.getElem_mem hi1
    have hdy : l.drop i = l[i] :: l.drop (i + 1) := List.drop_eq_getElem_cons hi1
    generalize l[i] = y at h1y hmy hdy
    obtain ⟨hm1, hm2⟩ := hw
    have hyw := Fn.wtL_mem hmy
    rw [hdy, Fn.shL] at hm1
    rw [hdy, Fn.wtL] at hm2
    have hyI := hI y hmy
    obtain ⟨fg, dws, y⟩ := y
    dsimp only at hm1 hm2 hyw hyI
    have hwl := strW_len dws
    have hx := sp_Show y hyI (by omega)
    have hz := Tm.sh_size y hyI
    generalize y.sh = z at hx hz hm1
    generalize y.wt = yw at hz hm2 hyw
    obtain ⟨yk, yn, ya, yb, yvs, yxs, ycs⟩ := y
    obtain ⟨m1, hm1d⟩ : ∃ x, x = ((m ++ ⟨#[40, 102, 110, 32]⟩) ++ fg) ++ ⟨#[32, 40]⟩ := ⟨_, rfl⟩
    have hm1s : m1.size = m.size + fg.size + 6 := by rw [hm1d]; try simp only [ByteArray.size_append, zl0, zl1, zl2, zl3, zl4, zl5, zl6, zl7, zl8, zl9, zl10, zl11, zl12, zl13, zl14, zl15, zl16, zl17, zl18]; omega
    rw [← hm1d] at hm1
    refine AWp.skip ?_
    refine AWp.rg [] [] ?_ (hr := by conv => lhs; simp [Fn.row, Tm.row, Tm.rows_eq, Cs.rows_eq, h1y])
    refine AWp.rg [] [] ?_ (hr := by conv => lhs; simp [Fn.row, Tm.row, Tm.rows_eq, Cs.rows_eq, h1y])
    rw [← hm1d]
    clear hm1d
    refine AWp.rg [] [] ?_ (hr := by conv => lhs; simp [Fn.row, Tm.row, Tm.rows_eq, Cs.rows_eq, h1y])
    repeat (first | refine AWp.seq ?_ | refine AWp.block ?_)
    refine AWp.loop (σ := fun u : {u : Nat × ByteArray // u.1 ≤ dws.length ∧ (joinB 0 dws m1 = joinB u.1 (dws.drop u.1) u.2 ∧ u.2.size + strW (dws.drop u.1) ≤ (m1 : ByteArray).size + strW dws)} => ⟨45, [(3, .d (.str u.1.2)), (5, .ptr 5 0), (8, .d (.sl (l.map Fn.row))), (9, .d (.int (l.length : Int))), (10, .d (.int (i : Int))), (21, .d (strsD dws)), (22, .d (.int (dws.length : Int))), (23, .d (.int (u.1.1 : Int)))], [(5, some (.blk 36 [.d (.str fg), .d (strsD dws), .d (.int yk), .d (.int yn), .d (.str ya), .d (.str yb), .d (strsD yvs), .d (.sl (yxs.map Tm.row)), .d (.sl (ycs.map Cs.row))]))]⟩)
      (μ := fun u => dws.length - u.1.1) ⟨(0, m1), ⟨Nat.zero_le _, ⟨by rw [List.drop_zero], by rw [List.drop_zero]; exact Nat.le_refl _⟩⟩⟩ (Le.sub (by simp) (by simp)) (fun ⟨(j, v), ⟨hi7, hw⟩⟩ => ?_)
    dsimp only at hi7 hw ⊢
    refine AWp.rg [] [] ?_ (hr := by conv => lhs; simp [Fn.row, Tm.row, Tm.rows_eq, Cs.rows_eq, h1y])
    repeat (first | refine AWp.seq ?_ | refine AWp.block ?_)
    refine AWp.cond rfl (fun hc => ?_) (fun hc => ?_)
    · have hi1 : j < dws.length := by have := of_decide_eq_true hc; omega
      clear hc
      have h1s : dws[j]? = some dws[j] := List.getElem?_eq_getElem hi1
      have hms : dws[j] ∈ dws := List.getElem_mem hi1
      have hds : dws.drop j = dws[j] :: dws.drop (j + 1) := List.drop_eq_getElem_cons hi1
      generalize dws[j] = s at h1s hms hds
      obtain ⟨hj1, hj2⟩ := hw
      rw [hds, joinB] at hj1
      rw [hds, strW] at hj2
      refine AWp.skip ?_
      refine AWp.rg [] [] ?_ (hr := by conv => lhs; simp [Fn.row, Tm.row, Tm.rows_eq, Cs.rows_eq, h1y, h1s])
      by_cases hp : 0 < j
      · refine AWp.rg [] [] ?_ (hr := by conv => lhs; simp [Fn.row, Tm.row, Tm.rows_eq, Cs.rows_eq, h1y, h1s, hp])
        refine AWp.cy ?_
        refine AWp.rg [] [] ?_ (hr := by conv => lhs; simp [Fn.row, Tm.row, Tm.rows_eq, Cs.rows_eq, h1y, h1s, hp])
        refine AWp.rg [] [] ?_ (hr := by conv => lhs; simp [Fn.row, Tm.row, Tm.rows_eq, Cs.rows_eq, h1y, h1s, hp])
        refine AWp.rg [] [] ?_ (hr := by conv => lhs; simp [Fn.row, Tm.row, Tm.rows_eq, Cs.rows_eq, h1y, h1s, hp])
        refine ⟨⟨(j + 1, (v ++ ⟨#[32]⟩) ++ s), hi1, ⟨by rw [hj1, if_pos (by omega)], by dsimp only; try simp only [ByteArray.size_append, zl0, zl1, zl2, zl3, zl4, zl5, zl6, zl7, zl8, zl9, zl10, zl11, zl12, zl13, zl14, zl15, zl16, zl17, zl18]; omega⟩⟩, by simp; omega, ?_⟩
        dsimp only
        exact Le.sub (by simp) (by simp)
      refine AWp.rg [] [] ?_ (hr := by conv => lhs; simp [Fn.row, Tm.row, Tm.rows_eq, Cs.rows_eq, h1y, h1s, hp])
      refine AWp.cn ?_
      refine AWp.skip ?_
      refine AWp.rg [] [] ?_ (hr := by conv => lhs; simp [Fn.row, Tm.row, Tm.rows_eq, Cs.rows_eq, h1y, h1s, hp])
      refine AWp.rg [] [] ?_ (hr := by conv => lhs; simp [Fn.row, Tm.row, Tm.rows_eq, Cs.rows_eq, h1y, h1s, hp])
      refine ⟨⟨(j + 1, v ++ s), hi1, ⟨by rw [hj1, if_neg (by omega)], by dsimp only; try simp only [ByteArray.size_append, zl0, zl1, zl2, zl3, zl4, zl5, zl6, zl7, zl8, zl9, zl10, zl11, zl12, zl13, zl14, zl15, zl16, zl17, zl18]; omega⟩⟩, by simp; omega, ?_⟩
      dsimp only
      exact Le.sub (by simp) (by simp)
    have hi1 : j = dws.length := by have := of_decide_eq_false hc; omega
    subst hi1
    clear hc
    obtain ⟨hj1, hj2⟩ := hw
    rw [List.drop_length, joinB] at hj1
    rw [List.drop_length, strW] at hj2
    rw [hj1] at hm1
    refine AWp.exit ?_
    refine AWp.rg [] [.p (fun _ => .d (.str z)) none] ?_ (hr := by conv => lhs; simp [Fn.row, Tm.row, Tm.rows_eq, Cs.rows_eq, h1y])
    refine AWp.rg [] [] ?_ (hr := by conv => lhs; simp [Fn.row, Tm.row, Tm.rows_eq, Cs.rows_eq, h1y])
    refine ⟨⟨(i + 1, ((v ++ ⟨#[41, 32]⟩) ++ z) ++ ⟨#[41, 10]⟩), hi1, ⟨hm1, by dsimp only; try simp only [ByteArray.size_append, zl0, zl1, zl2, zl3, zl4, zl5, zl6, zl7, zl8, zl9, zl10, zl11, zl12, zl13, zl14, zl15, zl16, zl17, zl18]; omega⟩⟩, by simp; omega, ?_⟩
    dsimp only
    exact Le.sub (by simp) (by simp)
  have hi1 : i = l.length := by have := of_decide_eq_false hc; omega
  subst hi1
  clear hc
  obtain ⟨hm1, hm2⟩ := hw
  rw [List.drop_length, Fn.shL] at hm1
  rw [hm1] at hR
  refine AWp.exit ?_
  rw [hR]
  refine AWp.rg [] [] ?_ (hr := by conv => lhs; simp [Fn.row, Tm.row, Tm.rows_eq, Cs.rows_eq])
  refine AWp.ret ?_
  try dsimp only [thenQ, blockQ]
  apply endQ.ret
  · rfl
  · conv => lhs; simp [resAV, Tryd.results45]
  first | rfl | simp [resVal]

def twB (l : List ByteArray) : Bool := (List.range l.length).any fun j => match l[j]? with | some x => hasB (l.take j) x | none => false
def badB (l : List ByteArray) : Bool := l.any fun s => !nameB s

end Go.Proofs.YtapiiklnnkkdlaaDoor

namespace Go.Proofs.YtapiiklnnkkdlaaDoor
open Go.RowKit
set_option linter.unusedVariables false
set_option linter.unusedSimpArgs false
theorem AWp.keep {P : Program} {c : Code} {Q : Exit → AS → Prop} {s : AS} (lf lm : List Nat) {fr : List (Nat × AV)} {mem : List (Nat × Option AObj)} (hf : keepF s.fr lf = fr) (hm : keepM s.mem lm = mem) (h : AWp P c Q ⟨s.n, fr, mem⟩) : AWp P c Q s :=
  AWp.le (by have := Le.keep s lf lm; rw [hf, hm] at this; exact this) h
abbrev Arity := List (ByteArray × Nat)
def Arity.get (f : Arity) (s : ByteArray) : Option Nat := (f.find? fun x => decide (x.1 = s)).map (·.2)
def headE (f : Arity) (k n : Int) (a : ByteArray) (names : List ByteArray) (na : Nat) : Int :=
  if k = 1 then (if hasB names a then 0 else 6)
  else if k = 2 then (if n < -2147483648 ∨ 2147483647 < n then 3 else 0)
  else if k = 3 then (if n < 0 ∨ 9 < n then 3 else 0)
  else if k = 5 then (if n < 1 ∨ 5 < n then 1 else 0)
  else if k = 6 then (if nameB a then 0 else 7)
  else if k = 4 then (match f.get a with | none => 6 | some m => if m = na then 0 else 5)
  else 0
def manyB (k : Int) (na nc : Nat) : Bool :=
  (if k = 3 ∨ k = 4 then decide (6 < na) else if k = 7 then decide (na ≠ 1) else if k = 5 ∨ k = 6 then decide (na ≠ 2) else decide (na ≠ 0)) || (decide (k ≠ 7) && decide (0 < nc))
mutual
def Tm.wrong (f : Arity) : Tm → List ByteArray → Int → Int
  | .mk k n a _ _ xs cs, names, deep =>
    if 24 < deep then 9 else if k < 1 ∨ 7 < k then 1 else if manyB k xs.length cs.length then 5
    else if headE f k n a names xs.length ≠ 0 then headE f k n a names xs.length
    else if Tm.wrongs f k a names deep 0 xs ≠ 0 then Tm.wrongs f k a names deep 0 xs
    else if k ≠ 7 then 0 else if cs.length = 0 ∨ 5 < cs.length then 5 else Cs.wrongs f names deep [] cs
def Tm.wrongs (f : Arity) (k : Int) (a : ByteArray) (names : List ByteArray) (deep : Int) : Nat → List Tm → Int
  | _, [] => 0
  | i, x :: r => if x.wrong f (if k = 6 ∧ i = 1 then names ++ [a] else names) (deep + 1) ≠ 0 then x.wrong f (if k = 6 ∧ i = 1 then names ++ [a] else names) (deep + 1) else Tm.wrongs f k a names deep (i + 1) r
def Cs.wrongs (f : Arity) (names : List ByteArray) (deep : Int) : List Int → List Cs → Int
  | _, [] => 0
  | had, c :: r => if Cs.wrongC f names deep had c ≠ 0 then Cs.wrongC f names deep had c else Cs.wrongs f names deep (c.tag :: had) r
def Cs.wrongC (f : Arity) (names : List ByteArray) (deep : Int) : List Int → Cs → Int
  | had, .mk t vs b => if t < 0 ∨ 9 < t then 3 else if (had.contains t || twB vs || badB vs) then 7 else if 6 < vs.length then 5 else b.wrong f (names ++ vs) (deep + 1)
end
end Go.Proofs.YtapiiklnnkkdlaaDoor
