import Derived.Test.YtapiiklnnkkdlaaDoorParseE
import Derived.Test.YtapiiklnnkkdlaaDoorParseC
import Derived.Test.YtapiiklnnkkdlaaDoorNameB
/- xcref1.Parse. Printed by a small program. -/
namespace Go.Proofs.YtapiiklnnkkdlaaDoor
open Go.RowKit
attribute [local simp] runD mkRc ldOf stOf stOk ldArg noAny dstOk guardOk opEff opEff0 effOp pureOp callOp zEff evA constAV scalAV Value.oneCell' frGet memGet startAS frOf isGoCall idIn AS.after nextR opnIds objIds AV.ids idsL AObj.ids frNo memNo opnAny isAny mkVal rdCells wrCells fldAddr idxAddr srcRows litRows toD1 toDs setAt sliceAV optI partAV bldAV fillAV binAV binI AV.cells callEff calleeOf frKill memKill AV.kill AObj.kill AV.has AV.hasL Op.operands Call.operands keepF keepM viewIds cChk renOf moGet moWs moQ cEff moLike moHave AV.ren renL AObj.ren AObj.like kept startC moMem AV.frz frz1 frzL frSub memSub frzs AS.frz frFrz memFrz AObj.frz takeMap takeLen bleF Nat.ble_eq memAny objAny mapOp D.keyOk rowAV valRow extOp wrapOp phO frLow memLow memLow1 objLow memEmpty Low LowL
set_option linter.unusedVariables false
set_option linter.unusedSimpArgs false
set_option maxRecDepth 20000 in
set_option maxHeartbeats 16000000 in
theorem sp_Parse (s : ByteArray) : PSpec Tryd.prog 42 [.d (.str s)] (fun _ => .tuple [fnsAV (parseP false s).1, .d (.int (parseP false s).2)]) none := by
  obtain ⟨R, hR⟩ : ∃ R, R = parseP false s := ⟨_, rfl⟩
  rw [← hR]
  unfold parseP at hR
  obtain ⟨F, hF⟩ : ∃ F, F = fnsP false s (s.size + 2) (0, 0) := ⟨_, rfl⟩
  rw [← hF] at hR
  obtain ⟨N, hN⟩ : ∃ N : Int, (s.size : Int) = N := ⟨_, rfl⟩
  try unfold pO at *
  refine PSpec.of Tryd.func42 rfl rfl rfl (Nat.le_of_ble_eq_true rfl) ?_
  show AWp _ _ (endQ _ Tryd.f42 _ _ _) (startAS 54 _)
  refine AWp.rg [] [] ?_ (hr := by conv => lhs; simp [Fn.row, Tm.row, Tm.rows_eq, Cs.rows_eq, hN])
  by_cases q1 : 1500 < N
  · refine AWp.rg [] [] ?_ (hr := by conv => lhs; simp [Fn.row, Tm.row, Tm.rows_eq, Cs.rows_eq, hN, q1])
    refine AWp.cy ?_
    rw [if_pos (by omega)] at hR
    subst hR
    refine AWp.rg [] [] ?_ (hr := by conv => lhs; simp [Fn.row, Tm.row, Tm.rows_eq, Cs.rows_eq, hN, q1])
    refine AWp.ret ?_
    try dsimp only [thenQ, blockQ]
    apply endQ.ret
    · rfl
    · conv => lhs; simp [resAV, Tryd.results42]
    first | rfl | simp [resVal, AV.nilD]
  refine AWp.rg [] [] ?_ (hr := by conv => lhs; simp [Fn.row, Tm.row, Tm.rows_eq, Cs.rows_eq, hN, q1])
  refine AWp.cn ?_
  refine AWp.skip ?_
  rw [if_neg (by omega)] at hR
  have hs : s.size ≤ 1500 := by omega
  refine AWp.rg [] [] ?_ (hr := by conv => lhs; simp [Fn.row, Tm.row, Tm.rows_eq, Cs.rows_eq, hN, q1])
  refine AWp.rg [] [] ?_ (hr := by conv => lhs; simp [Fn.row, Tm.row, Tm.rows_eq, Cs.rows_eq, hN, q1])
  repeat (first | refine AWp.seq ?_ | refine AWp.block ?_)
  refine AWp.le (Le.low [400] [] (fr := [(4, .ptr 4 0), (5, .arr 400 0 ([] : List Fn).length)]) (mem := [(4, some (.blk 100 [.ptr 12 0])), (12, some (.blk 102 [.d (.str s), .d (.int ((0 : Nat) : Int)), .d (.int (0 : Int))])), (400, some (.arr 36 9 (([] : List Fn).map Fn.row)))]) rfl (by simp) (by simp)) ?_
  refine AWp.loop (σ := fun u : {u : List Fn × Nat × Int × Nat // (F = (u.1 ++ (fnsP false s u.2.2.2 (u.2.1, u.2.2.1)).1, (fnsP false s u.2.2.2 (u.2.1, u.2.2.1)).2) ∧ u.2.1 ≤ s.size ∧ u.1.length + u.2.2.2 = s.size + 2 ∧ 0 < u.2.2.2 ∧ (u.2.2.1 ≠ 0 ∨ s.size - u.2.1 + 1 < u.2.2.2))} => ⟨54, [(4, .ptr 4 0), (5, .arr 400 0 u.1.1.length)], [(4, some (.blk 100 [.ptr 12 0])), (12, some (.blk 102 [.d (.str s), .d (.int (u.1.2.1 : Int)), .d (.int u.1.2.2.1)])), (400, some (.arr 36 9 (u.1.1.map Fn.row)))]⟩)
    (μ := fun u => u.1.2.2.2) ⟨([], 0, 0, s.size + 2), ⟨by rw [hF]; simp, Nat.zero_le _, by simp, by dsimp only; omega, .inr (by dsimp only; omega)⟩⟩ (Le.sub (by simp) (by simp)) (fun ⟨(fs, c, ee, m), hw⟩ => ?_)
  dsimp only at hw ⊢
  obtain ⟨hmm, hcl, hum, hm0, hon⟩ := hw
  obtain ⟨m, rfl⟩ : ∃ k, m = k + 1 := ⟨m - 1, by omega⟩
  have hpk := cs_Peek s c ee hcl hs
  rw [fnsP] at hmm
  obtain ⟨W, hW⟩ : ∃ W, W = pkW s c := ⟨_, rfl⟩
  obtain ⟨A, hA⟩ : ∃ A, A = pkA s c := ⟨_, rfl⟩
  have hA1 : c ≤ A := by rw [hA]; exact (pkA_le hcl).1
  have hA2 : A ≤ s.size := by rw [hA]; exact (pkA_le hcl).2
  rw [← hA] at hpk
  rw [← hW] at hpk
  dsimp only at hmm
  rw [← hW, ← hA] at hmm
  by_cases q2 : ee = 0
  · have q2t := eq_true q2
    by_cases q3 : W = ⟨#[]⟩
    · have q3t := eq_true q3
      refine AWp.rg [] [.c [(1000, 12)] [.ptr 1000 0] [(1000, .blk 102 [.d (.str s), .d (.int (c : Int)), .d (.int ee)])] (.d (.str W)) [(1000, .blk 102 [.d (.str s), .d (.int (A : Int)), .d (.int ee)])]] ?_ (hr := by conv => lhs; simp [Fn.row, Tm.row, Tm.rows_eq, Cs.rows_eq, hN, q1, q2t, q3t])
      refine AWp.cn ?_
      refine AWp.exit ?_
      rw [if_pos q2, if_pos (by rw [q3]; rfl), List.append_nil] at hmm
      rw [hmm] at hR
      dsimp only at hR
      refine AWp.rg [] [] ?_ (hr := by conv => lhs; simp [Fn.row, Tm.row, Tm.rows_eq, Cs.rows_eq, hN, q1, q2t, q3t])
      refine AWp.cn ?_
      refine AWp.skip ?_
      rw [if_pos q2] at hR
      subst hR
      refine AWp.rg [] [] ?_ (hr := by conv => lhs; simp [Fn.row, Tm.row, Tm.rows_eq, Cs.rows_eq, hN, q1, q2t, q3t])
      refine AWp.ret ?_
      try dsimp only [thenQ, blockQ]
      apply endQ.retF [400]
      · rfl
      · conv => lhs; simp
      · conv => lhs; simp [resAV, Tryd.results42]
      simp [resVal, AV.nilD, *]
    refine AWp.rg [] [.c [(1000, 12)] [.ptr 1000 0] [(1000, .blk 102 [.d (.str s), .d (.int (c : Int)), .d (.int ee)])] (.d (.str W)) [(1000, .blk 102 [.d (.str s), .d (.int (A : Int)), .d (.int ee)])]] ?_ (hr := by conv => lhs; simp [Fn.row, Tm.row, Tm.rows_eq, Cs.rows_eq, hN, q1, q2t, q3])
    refine AWp.cy ?_
    refine AWp.skip ?_
    rw [if_pos q2, if_neg (fun h => q3 (size_zero h))] at hmm
    have hadv := fnP_adv (g := false) (s := s) (p := (A, ee)) hA2
    unfold fnP at hmm hadv
    dsimp only at hmm hadv
    have hw1 := cs_want s lbr A ee hA2 hs
    have h1 := wantS_adv (s := s) (w := lbr) (p := (A, ee)) hA2
    generalize wantS s lbr (A, ee) = p1 at hw1 h1 hmm hadv
    obtain ⟨A1, e1⟩ := p1
    have h1s := h1.sz
    dsimp only at h1s hw1
    have hw2 := cs_want s wFn A1 e1 h1s hs
    have h2 := wantS_adv (s := s) (w := wFn) (p := (A1, e1)) h1s
    generalize wantS s wFn (A1, e1) = p2 at hw2 h2 hmm hadv
    obtain ⟨A2, e2⟩ := p2
    have h2s := h2.sz
    dsimp only at h2s hw2
    have hw3 := cs_pname s A2 e2 h2s hs
    have h3 := namP_adv (s := s) (p := (A2, e2)) h2s
    generalize namP s (A2, e2) = t3 at hw3 h3 hmm hadv
    obtain ⟨fg, A3, e3⟩ := t3
    have h3s := h3.sz
    dsimp only at h3s hw3 hmm hadv
    have hw4 := cs_want s lbr A3 e3 h3s hs
    have h4 := wantS_adv (s := s) (w := lbr) (p := (A3, e3)) h3s
    generalize wantS s lbr (A3, e3) = p4 at hw4 h4 hmm hadv
    obtain ⟨A4, e4⟩ := p4
    have h4s := h4.sz
    dsimp only at h4s hw4
    have hw5 := cs_manyP s fg A4 e4 h4s hs (fun us a e hul ha => cs_pP s fg us a e hul ha hs)
    simp only [List.length_nil, List.map_nil] at hw5
    have h5 := (manyP_adv (fun p h => namP_adv (s := s) h) (s.size + 2) (A4, e4) h4s).1
    generalize manyP s (namP s) (s.size + 2) (A4, e4) = t5 at hw5 h5 hmm hadv
    obtain ⟨ws, A5, e5⟩ := t5
    have h5s := h5.sz
    dsimp only at h5s hw5 hmm hadv
    have hw6 := cs_Term s hs 25 (Nat.le_refl _) A5 e5 h5s
    have h6 := ps_adv (g := false) (s := s) 25 (A5, e5) h5s
    generalize Tm.ps false s 25 (A5, e5) = t6 at hw6 h6 hmm hadv
    obtain ⟨⟨xk, xn, xa, xb, xvs, xxs, xcs⟩, A6, e6⟩ := t6
    have h6s := h6.sz
    dsimp only at h6s hw6 hmm hadv
    have hw7 := cs_want s rbr A6 e6 h6s hs
    generalize wantS s rbr (A6, e6) = p7 at hw7 hmm hadv
    obtain ⟨A7, e7⟩ := p7
    have hs7 := hadv.sz
    have ho7 := hadv.on
    dsimp only at hs7 ho7 hw7 hmm
    obtain ⟨fs2, hfs2⟩ : ∃ l, l = fs ++ [Fn.mk fg ws (.mk xk xn xa xb xvs xxs xcs)] := ⟨_, rfl⟩
    have hfs2l : fs2.length = fs.length + 1 := by rw [hfs2]; simp
    have hfs2m : fs.map Fn.row ++ [[.str fg, strsD ws, .int xk, .int xn, .str xa, .str xb, strsD xvs, .sl (xxs.map Tm.row), .sl (xcs.map Cs.row)]] = fs2.map Fn.row := by rw [hfs2]; simp [Fn.row, Tm.row, Tm.rows_eq, Cs.rows_eq]
    rw [show (25 : Int) - ((25 : Nat) : Int) = 0 from rfl] at hw6
    refine AWp.rg [] [.c [(1000, 12)] [.ptr 1000 0, .d (.str (⟨#[40]⟩))] [(1000, .blk 102 [.d (.str s), .d (.int (A : Int)), .d (.int ee)])] (.tuple []) [(1000, .blk 102 [.d (.str s), .d (.int (A1 : Int)), .d (.int e1)])]] ?_ (hr := by conv => lhs; simp [Fn.row, Tm.row, Tm.rows_eq, Cs.rows_eq, hN, q1, q2t, q3])
    refine AWp.rg [] [.c [(1000, 12)] [.ptr 1000 0, .d (.str (⟨#[102, 110]⟩))] [(1000, .blk 102 [.d (.str s), .d (.int (A1 : Int)), .d (.int e1)])] (.tuple []) [(1000, .blk 102 [.d (.str s), .d (.int (A2 : Int)), .d (.int e2)])]] ?_ (hr := by conv => lhs; simp [Fn.row, Tm.row, Tm.rows_eq, Cs.rows_eq, hN, q1, q2t, q3])
    refine AWp.rg [] [.c [(1000, 12)] [.ptr 1000 0] [(1000, .blk 102 [.d (.str s), .d (.int (A2 : Int)), .d (.int e2)])] (.d (.str fg)) [(1000, .blk 102 [.d (.str s), .d (.int (A3 : Int)), .d (.int e3)])]] ?_ (hr := by conv => lhs; simp [Fn.row, Tm.row, Tm.rows_eq, Cs.rows_eq, hN, q1, q2t, q3])
    refine AWp.rg [] [.c [(1000, 12)] [.ptr 1000 0, .d (.str (⟨#[40]⟩))] [(1000, .blk 102 [.d (.str s), .d (.int (A3 : Int)), .d (.int e3)])] (.tuple []) [(1000, .blk 102 [.d (.str s), .d (.int (A4 : Int)), .d (.int e4)])]] ?_ (hr := by conv => lhs; simp [Fn.row, Tm.row, Tm.rows_eq, Cs.rows_eq, hN, q1, q2t, q3])
    repeat (first | refine AWp.seq ?_ | refine AWp.block ?_)
    refine AWp.le (Le.low [401] [] (fr := [(4, .ptr 4 0), (5, .arr 400 0 fs.length), (6, .ptr 6 0)]) (mem := [(4, some (.blk 100 [.ptr 12 0])), (6, some (.blk 36 [.d (.str fg), .arr 401 0 0, .d (.int 0), .d (.int 0), .d (.str ByteArray.empty), .d (.str ByteArray.empty), .lit (.slice none 0 0), .lit (.slice none 0 0), .lit (.slice none 0 0)])), (12, some (.blk 102 [.d (.str s), .d (.int (A4 : Int)), .d (.int e4)])), (400, some (.arr 36 9 (fs.map Fn.row))), (401, some (.arr 9 1 ([])))]) rfl (by simp) (by simp)) ?_
    refine AWp.rg [] [.c [(1000, 12), (1001, 6), (1002, 4), (500, 401)] [.ptr 1000 0, .clo 94 [.ptr 1001 0, .ptr 1002 0]] [(1000, .blk 102 [.d (.str s), .d (.int (A4 : Int)), .d (.int e4)]), (1001, .blk 36 [.d (.str fg), .arr 500 0 0, .d (.int 0), .d (.int 0), .d (.str ByteArray.empty), .d (.str ByteArray.empty), .lit (.slice none 0 0), .lit (.slice none 0 0), .lit (.slice none 0 0)]), (1002, .blk 100 [.ptr 1000 0]), (500, .arr 9 1 ([]))] (.tuple []) [(1000, .blk 102 [.d (.str s), .d (.int (A5 : Int)), .d (.int e5)]), (1001, .blk 36 [.d (.str fg), .arr 500 0 ws.length, .d (.int 0), .d (.int 0), .d (.str ByteArray.empty), .d (.str ByteArray.empty), .lit (.slice none 0 0), .lit (.slice none 0 0), .lit (.slice none 0 0)]), (1002, .blk 100 [.ptr 1000 0]), (500, .arr 9 1 (ws.map strR))]] ?_ (hr := by conv => lhs; simp [Fn.row, Tm.row, Tm.rows_eq, Cs.rows_eq, hN, q1, q2t, q3])
    refine AWp.rg [] [.c [(1000, 12)] [.ptr 1000 0, .d (.int 0)] [(1000, .blk 102 [.d (.str s), .d (.int (A5 : Int)), .d (.int e5)])] (.agg [.d (.int xk), .d (.int xn), .d (.str xa), .d (.str xb), .d (strsD xvs), .d (.sl (xxs.map Tm.row)), .d (.sl (xcs.map Cs.row))]) [(1000, .blk 102 [.d (.str s), .d (.int (A6 : Int)), .d (.int e6)])]] ?_ (hr := by conv => lhs; simp [Fn.row, Tm.row, Tm.rows_eq, Cs.rows_eq, hN, q1, q2t, q3])
    refine AWp.rg [] [.c [(1000, 12)] [.ptr 1000 0, .d (.str (⟨#[41]⟩))] [(1000, .blk 102 [.d (.str s), .d (.int (A6 : Int)), .d (.int e6)])] (.tuple []) [(1000, .blk 102 [.d (.str s), .d (.int (A7 : Int)), .d (.int e7)])]] ?_ (hr := by conv => lhs; simp [Fn.row, Tm.row, Tm.rows_eq, Cs.rows_eq, hN, q1, q2t, q3])
    apply AWp.frzs [401]
    · conv => lhs; simp
    refine AWp.rg [] [] ?_ (hr := by conv => lhs; simp [Fn.row, Tm.row, Tm.rows_eq, Cs.rows_eq, hN, q1, q2t, q3])
    refine ⟨⟨(fs2, A7, e7, m), ⟨by rw [hmm, hfs2]; simp, hs7, by dsimp only; omega, by dsimp only; rcases hon with h | h <;> omega, by dsimp only; rcases ho7 with h | h; exact .inl h; right; rcases hon with h | h <;> omega⟩⟩, by dsimp only; omega, ?_⟩
    dsimp only
    exact Le.sub (by simp [hfs2m, hfs2l]) (by simp [hfs2m, hfs2l])
  refine AWp.rg [] [] ?_ (hr := by conv => lhs; simp [Fn.row, Tm.row, Tm.rows_eq, Cs.rows_eq, hN, q1, q2])
  refine AWp.cn ?_
  refine AWp.exit ?_
  rw [if_neg q2, List.append_nil] at hmm
  rw [hmm] at hR
  dsimp only at hR
  refine AWp.rg [] [] ?_ (hr := by conv => lhs; simp [Fn.row, Tm.row, Tm.rows_eq, Cs.rows_eq, hN, q1, q2])
  refine AWp.cy ?_
  rw [if_neg q2] at hR
  subst hR
  refine AWp.dw [] [] mixed ?_ (hr := by conv => lhs; simp [Fn.row, Tm.row, Tm.rows_eq, Cs.rows_eq, hN, q1, q2])
  refine AWp.ret ?_
  try dsimp only [thenQ, blockQ]
  apply endQ.ret
  · rfl
  · conv => lhs; simp [resAV, Tryd.results42]
  first | rfl | simp [resVal, AV.nilD]
end Go.Proofs.YtapiiklnnkkdlaaDoor

namespace Go.Proofs.YtapiiklnnkkdlaaDoor
open Go.RowKit
set_option linter.unusedVariables false
set_option linter.unusedSimpArgs false
def joinB : Nat → List ByteArray → ByteArray → ByteArray
  | _, [], o => o
  | i, x :: r, o => joinB (i + 1) r ((if 0 < i then o ++ ⟨#[32]⟩ else o) ++ x)
def shK (k n : Int) (a b V A M : ByteArray) : ByteArray :=
  if k = 1 then a else if k = 2 then itoaB n
  else if k = 3 then ((⟨#[40]⟩ ++ (⟨#[35]⟩ ++ itoaB n)) ++ A) ++ ⟨#[41]⟩
  else if k = 4 then ((⟨#[40]⟩ ++ a) ++ A) ++ ⟨#[41]⟩
  else if k = 5 then (if 0 < n ∧ n < 6 then ((⟨#[40]⟩ ++ (⟨#[43, 45, 42, 60, 61]⟩ : ByteArray).extract (n - 1).toNat n.toNat) ++ A) ++ ⟨#[41]⟩ else ⟨#[63]⟩)
  else if k = 6 then ((⟨#[40, 108, 101, 116, 32]⟩ ++ a) ++ A) ++ ⟨#[41]⟩
  else if k = 7 then M ++ ⟨#[41]⟩
  else if k = 8 then ((⟨#[40, 100, 117, 112, 32]⟩ ++ a) ++ A) ++ ⟨#[41]⟩
  else if k = 9 then ((⟨#[40, 100, 114, 111, 112, 32]⟩ ++ a) ++ A) ++ ⟨#[41]⟩
  else if k = 10 then (((((⟨#[40, 116, 97, 107, 101, 32]⟩ ++ a) ++ ⟨#[32, 40]⟩) ++ V) ++ ⟨#[41]⟩) ++ A) ++ ⟨#[41]⟩
  else if k = 11 then (((((((⟨#[40, 104, 111, 108, 100, 32]⟩ ++ a) ++ ⟨#[32]⟩) ++ b) ++ ⟨#[32, 40]⟩) ++ V) ++ ⟨#[41]⟩) ++ A) ++ ⟨#[41]⟩
  else if k = 12 then ((((⟨#[40, 117, 115, 101, 32]⟩ ++ b) ++ ⟨#[32]⟩) ++ (⟨#[35]⟩ ++ itoaB n)) ++ A) ++ ⟨#[41]⟩
  else if k = 13 then ((⟨#[40, 102, 114, 101, 101, 32]⟩ ++ b) ++ A) ++ ⟨#[41]⟩
  else ⟨#[63]⟩
mutual
def Tm.sh : Tm → ByteArray
  | .mk k n a b vs xs cs => shK k n a b (joinB 0 vs ⟨#[]⟩) (Tm.shL xs ⟨#[]⟩) (Cs.shL cs (⟨#[40, 109, 97, 116, 99, 104]⟩ ++ Tm.shL xs ⟨#[]⟩))
def Tm.shL : List Tm → ByteArray → ByteArray
  | [], o => o
  | x :: r, o => Tm.shL r ((o ++ ⟨#[32]⟩) ++ x.sh)
def Cs.shL : List Cs → ByteArray → ByteArray
  | [], o => o
  | c :: r, o => Cs.shL r (c.shC o)
def Cs.shC : Cs → ByteArray → ByteArray
  | .mk t ws y, o => ((joinB 0 ws (((o ++ ⟨#[32, 40, 35]⟩) ++ itoaB t) ++ ⟨#[32, 40]⟩) ++ ⟨#[41, 32]⟩) ++ y.sh) ++ ⟨#[41]⟩
end
def Fn.shL : List Fn → ByteArray → ByteArray
  | [], o => o
  | f :: r, o => Fn.shL r (((joinB 0 f.params (((o ++ ⟨#[40, 102, 110, 32]⟩) ++ f.name) ++ ⟨#[32, 40]⟩) ++ ⟨#[41, 32]⟩) ++ f.body.sh) ++ ⟨#[41, 10]⟩)
theorem Tm.sz_ge (t : Tm) : 1 ≤ t.sz := by obtain ⟨k, n, a, b, vs, xs, cs⟩ := t; simp only [Tm.sz]; omega
def strW : List ByteArray → Nat
  | [] => 0
  | s :: r => s.size + 1 + strW r
mutual
def Tm.wt : Tm → Nat
  | .mk k n a b vs xs cs => 60 + a.size + b.size + strW vs + Tm.wtL xs + Cs.wtL cs
def Tm.wtL : List Tm → Nat
  | [] => 0
  | x :: r => 1 + x.wt + Tm.wtL r
def Cs.wtL : List Cs → Nat
  | [] => 0
  | c :: r => c.wt + Cs.wtL r
def Cs.wt : Cs → Nat
  | .mk t ws y => 40 + strW ws + y.wt
end
mutual
def Tm.In : Tm → Prop
  | .mk k n a b vs xs cs => inI n ∧ Tm.InL xs ∧ Cs.InL cs
def Tm.InL : List Tm → Prop
  | [] => True
  | x :: r => x.In ∧ Tm.InL r
def Cs.InL : List Cs → Prop
  | [] => True
  | c :: r => c.In ∧ Cs.InL r
def Cs.In : Cs → Prop
  | .mk t ws y => inI t ∧ y.In
end
theorem Tm.InL_iff : ∀ {l : List Tm}, Tm.InL l ↔ ∀ x ∈ l, x.In
  | [] => by simp [Tm.InL]
  | x :: r => by simp [Tm.InL, Tm.InL_iff (l := r)]
theorem Cs.InL_iff : ∀ {l : List Cs}, Cs.InL l ↔ ∀ x ∈ l, x.In
  | [] => by simp [Cs.InL]
  | x :: r => by simp [Cs.InL, Cs.InL_iff (l := r)]
theorem strW_len : ∀ l : List ByteArray, l.length ≤ strW l
  | [] => Nat.le_refl _
  | x :: r => by have := strW_len r; simp only [strW, List.length_cons]; omega
theorem Tm.wtL_len : ∀ l : List Tm, l.length ≤ Tm.wtL l
  | [] => Nat.le_refl _
  | x :: r => by have := Tm.wtL_len r; simp only [Tm.wtL, List.length_cons]; omega
theorem Cs.wtL_len : ∀ l : List Cs, l.length ≤ Cs.wtL l
  | [] => Nat.le_refl _
  | .mk t ws y :: r => by have := Cs.wtL_len r; simp only [Cs.wtL, Cs.wt, List.length_cons]; omega
theorem joinB_size : ∀ (l : List ByteArray) (i : Nat) (o : ByteArray), (joinB i l o).size ≤ o.size + strW l
  | [], _, o => Nat.le_refl _
  | x :: r, i, o => by
    have h := joinB_size r (i + 1) ((if 0 < i then o ++ ⟨#[32]⟩ else o) ++ x)
    rw [joinB, strW]
    have h2 : ((if 0 < i then o ++ ⟨#[32]⟩ else o) ++ x).size ≤ o.size + 1 + x.size := by
      split <;> simp [ByteArray.size_append]
    omega
theorem zl0 : (⟨#[35]⟩ : ByteArray).size = 1 := rfl
theorem zl1 : (⟨#[63]⟩ : ByteArray).size = 1 := rfl
theorem zl2 : (⟨#[40]⟩ : ByteArray).size = 1 := rfl
theorem zl3 : (⟨#[32]⟩ : ByteArray).size = 1 := rfl
theorem zl4 : (⟨#[41]⟩ : ByteArray).size = 1 := rfl
theorem zl5 : (⟨#[41, 32]⟩ : ByteArray).size = 2 := rfl
theorem zl6 : (⟨#[41, 10]⟩ : ByteArray).size = 2 := rfl
theorem zl7 : (⟨#[32, 40]⟩ : ByteArray).size = 2 := rfl
theorem zl8 : (⟨#[32, 40, 35]⟩ : ByteArray).size = 3 := rfl
theorem zl9 : (⟨#[40, 102, 110, 32]⟩ : ByteArray).size = 4 := rfl
theorem zl10 : (⟨#[43, 45, 42, 60, 61]⟩ : ByteArray).size = 5 := rfl
theorem zl11 : (⟨#[40, 100, 117, 112, 32]⟩ : ByteArray).size = 5 := rfl
theorem zl12 : (⟨#[40, 117, 115, 101, 32]⟩ : ByteArray).size = 5 := rfl
theorem zl13 : (⟨#[40, 108, 101, 116, 32]⟩ : ByteArray).size = 5 := rfl
theorem zl14 : (⟨#[40, 116, 97, 107, 101, 32]⟩ : ByteArray).size = 6 := rfl
theorem zl15 : (⟨#[40, 109, 97, 116, 99, 104]⟩ : ByteArray).size = 6 := rfl
theorem zl16 : (⟨#[40, 102, 114, 101, 101, 32]⟩ : ByteArray).size = 6 := rfl
theorem zl17 : (⟨#[40, 100, 114, 111, 112, 32]⟩ : ByteArray).size = 6 := rfl
theorem zl18 : (⟨#[40, 104, 111, 108, 100, 32]⟩ : ByteArray).size = 6 := rfl
theorem shK_size {k n : Int} {a b V A M : ByteArray} (hn : inI n) : (shK k n a b V A M).size ≤ 50 + a.size + b.size + V.size + A.size + (if k = 7 then M.size else 0) := by
  have h1 := itoaB_size hn
  have h2 : ((⟨#[43, 45, 42, 60, 61]⟩ : ByteArray).extract (n - 1).toNat n.toNat).size ≤ 5 := by
    have e5 : (⟨#[43, 45, 42, 60, 61]⟩ : ByteArray).size = 5 := rfl
    rw [ByteArray.size_extract, e5]; omega
  by_cases hk7 : k = 7
  · subst hk7
    unfold shK
    rw [if_neg (by omega), if_neg (by omega), if_neg (by omega), if_neg (by omega), if_neg (by omega), if_neg (by omega), if_pos rfl, if_pos rfl, ByteArray.size_append, zl4]
    omega
  rw [if_neg hk7]
  unfold shK
  by_cases k1 : k = 1
  · rw [if_pos k1]
    omega
  rw [if_neg k1]
  by_cases k2 : k = 2
  · rw [if_pos k2]
    omega
  rw [if_neg k2]
  by_cases k3 : k = 3
  · rw [if_pos k3]
    simp only [ByteArray.size_append, zl0, zl1, zl2, zl3, zl4, zl5, zl6, zl7, zl8, zl9, zl10, zl11, zl12, zl13, zl14, zl15, zl16, zl17, zl18]
    omega
  rw [if_neg k3]
  by_cases k4 : k = 4
  · rw [if_pos k4]
    simp only [ByteArray.size_append, zl0, zl1, zl2, zl3, zl4, zl5, zl6, zl7, zl8, zl9, zl10, zl11, zl12, zl13, zl14, zl15, zl16, zl17, zl18]
    omega
  rw [if_neg k4]
  by_cases k5 : k = 5
  · rw [if_pos k5]
    split
    · simp only [ByteArray.size_append, zl0, zl1, zl2, zl3, zl4, zl5, zl6, zl7, zl8, zl9, zl10, zl11, zl12, zl13, zl14, zl15, zl16, zl17, zl18]
      omega
    · simp only [zl0, zl1, zl2, zl3, zl4, zl5, zl6, zl7, zl8, zl9, zl10, zl11, zl12, zl13, zl14, zl15, zl16, zl17, zl18]
      omega
  rw [if_neg k5]
  by_cases k6 : k = 6
  · rw [if_pos k6]
    simp only [ByteArray.size_append, zl0, zl1, zl2, zl3, zl4, zl5, zl6, zl7, zl8, zl9, zl10, zl11, zl12, zl13, zl14, zl15, zl16, zl17, zl18]
    omega
  rw [if_neg k6]
  rw [if_neg hk7]
  by_cases k8 : k = 8
  · rw [if_pos k8]
    simp only [ByteArray.size_append, zl0, zl1, zl2, zl3, zl4, zl5, zl6, zl7, zl8, zl9, zl10, zl11, zl12, zl13, zl14, zl15, zl16, zl17, zl18]
    omega
  rw [if_neg k8]
  by_cases k9 : k = 9
  · rw [if_pos k9]
    simp only [ByteArray.size_append, zl0, zl1, zl2, zl3, zl4, zl5, zl6, zl7, zl8, zl9, zl10, zl11, zl12, zl13, zl14, zl15, zl16, zl17, zl18]
    omega
  rw [if_neg k9]
  by_cases k10 : k = 10
  · rw [if_pos k10]
    simp only [ByteArray.size_append, zl0, zl1, zl2, zl3, zl4, zl5, zl6, zl7, zl8, zl9, zl10, zl11, zl12, zl13, zl14, zl15, zl16, zl17, zl18]
    omega
  rw [if_neg k10]
  by_cases k11 : k = 11
  · rw [if_pos k11]
    simp only [ByteArray.size_append, zl0, zl1, zl2, zl3, zl4, zl5, zl6, zl7, zl8, zl9, zl10, zl11, zl12, zl13, zl14, zl15, zl16, zl17, zl18]
    omega
  rw [if_neg k11]
  by_cases k12 : k = 12
  · rw [if_pos k12]
    simp only [ByteArray.size_append, zl0, zl1, zl2, zl3, zl4, zl5, zl6, zl7, zl8, zl9, zl10, zl11, zl12, zl13, zl14, zl15, zl16, zl17, zl18]
    omega
  rw [if_neg k12]
  by_cases k13 : k = 13
  · rw [if_pos k13]
    simp only [ByteArray.size_append, zl0, zl1, zl2, zl3, zl4, zl5, zl6, zl7, zl8, zl9, zl10, zl11, zl12, zl13, zl14, zl15, zl16, zl17, zl18]
    omega
  rw [if_neg k13]
  simp only [zl0, zl1, zl2, zl3, zl4, zl5, zl6, zl7, zl8, zl9, zl10, zl11, zl12, zl13, zl14, zl15, zl16, zl17, zl18]
  omega
mutual
theorem Tm.sh_size : ∀ t : Tm, t.In → t.sh.size ≤ t.wt
  | .mk k n a b vs xs cs, h => by
    obtain ⟨h1, h2, h3⟩ := h
    have g1 := joinB_size vs 0 ⟨#[]⟩
    have g2 := Tm.shL_size xs ⟨#[]⟩ h2
    have g3 := Cs.shL_size cs (⟨#[40, 109, 97, 116, 99, 104]⟩ ++ Tm.shL xs ⟨#[]⟩) h3
    have g4 := shK_size (k := k) (n := n) (a := a) (b := b) (V := joinB 0 vs ⟨#[]⟩) (A := Tm.shL xs ⟨#[]⟩) (M := Cs.shL cs (⟨#[40, 109, 97, 116, 99, 104]⟩ ++ Tm.shL xs ⟨#[]⟩)) h1
    have e : (⟨#[]⟩ : ByteArray).size = 0 := rfl
    have e6 : (⟨#[40, 109, 97, 116, 99, 104]⟩ : ByteArray).size = 6 := rfl
    rw [ByteArray.size_append, e6] at g3
    rw [Tm.sh, Tm.wt]
    by_cases hk : k = 7
    · subst hk
      have e7 : (shK 7 n a b (joinB 0 vs ⟨#[]⟩) (Tm.shL xs ⟨#[]⟩) (Cs.shL cs (⟨#[40, 109, 97, 116, 99, 104]⟩ ++ Tm.shL xs ⟨#[]⟩))).size = (Cs.shL cs (⟨#[40, 109, 97, 116, 99, 104]⟩ ++ Tm.shL xs ⟨#[]⟩)).size + 1 := by
        unfold shK
        rw [if_neg (by omega), if_neg (by omega), if_neg (by omega), if_neg (by omega), if_neg (by omega), if_neg (by omega), if_pos rfl, ByteArray.size_append]
        rfl
      omega
    · rw [if_neg hk] at g4
      omega
theorem Tm.shL_size : ∀ (l : List Tm) (o : ByteArray), Tm.InL l → (Tm.shL l o).size ≤ o.size + Tm.wtL l
  | [], o, _ => Nat.le_refl _
  | x :: r, o, h => by
    have g1 := Tm.sh_size x h.1
    have g2 := Tm.shL_size r ((o ++ ⟨#[32]⟩) ++ x.sh) h.2
    have e1 : (⟨#[32]⟩ : ByteArray).size = 1 := rfl
    rw [ByteArray.size_append, ByteArray.size_append, e1] at g2
    rw [Tm.shL, Tm.wtL]
    omega
theorem Cs.shL_size : ∀ (l : List Cs) (o : ByteArray), Cs.InL l → (Cs.shL l o).size ≤ o.size + Cs.wtL l
  | [], o, _ => Nat.le_refl _
  | x :: r, o, h => by
    have g1 := Cs.shC_size x o h.1
    have g2 := Cs.shL_size r (x.shC o) h.2
    rw [Cs.shL, Cs.wtL]
    omega
theorem Cs.shC_size : ∀ (c : Cs) (o : ByteArray), c.In → (c.shC o).size ≤ o.size + c.wt
  | .mk t ws y, o, h => by
    have g1 := Tm.sh_size y h.2
    have g2 := itoaB_size h.1
    have g3 := joinB_size ws 0 (((o ++ ⟨#[32, 40, 35]⟩) ++ itoaB t) ++ ⟨#[32, 40]⟩)
    rw [Cs.shC, Cs.wt]
    simp only [ByteArray.size_append, zl0, zl1, zl2, zl3, zl4, zl5, zl6, zl7, zl8, zl9, zl10, zl11, zl12, zl13, zl14, zl15, zl16, zl17, zl18] at g3 ⊢
    omega
end
def Fn.wtL : List Fn → Nat
  | [] => 0
  | f :: r => 20 + f.name.size + strW f.params + f.body.wt + Fn.wtL r
theorem Fn.wtL_len : ∀ l : List Fn, l.length ≤ Fn.wtL l
  | [] => Nat.le_refl _
  | f :: r => by have := Fn.wtL_len r; simp only [Fn.wtL, List.length_cons]; omega
theorem Fn.wtL_mem {f : Fn} : ∀ {l : List Fn}, f ∈ l → 20 + f.name.size + strW f.params + f.body.wt ≤ Fn.wtL l
  | x :: l, h => by
    simp only [Fn.wtL]
    rcases List.mem_cons.1 h with rfl | h
    · omega
    · have := Fn.wtL_mem h; omega
theorem Tm.wtL_mem {t : Tm} : ∀ {l : List Tm}, t ∈ l → 1 + t.wt ≤ Tm.wtL l
  | x :: l, h => by
    simp only [Tm.wtL]
    rcases List.mem_cons.1 h with rfl | h
    · omega
    · have := Tm.wtL_mem h; omega
theorem Cs.wtL_mem {t : Cs} : ∀ {l : List Cs}, t ∈ l → t.wt ≤ Cs.wtL l
  | x :: l, h => by
    simp only [Cs.wtL]
    rcases List.mem_cons.1 h with rfl | h
    · omega
    · have := Cs.wtL_mem h; omega
@[simp] theorem le_maxLen0 : 0 ≤ maxLen := by decide
@[simp] theorem le_maxLen4 : 4 ≤ maxLen := by decide
@[simp] theorem le_maxLen6 : 6 ≤ maxLen := by decide
@[simp] theorem le_maxLen7 : 7 ≤ maxLen := by decide
@[simp] theorem le_maxLen8 : 8 ≤ maxLen := by decide
@[simp] theorem le_maxLen9 : 9 ≤ maxLen := by decide
@[simp] theorem le_maxLen10 : 10 ≤ maxLen := by decide
@[simp] theorem le_maxLen11 : 11 ≤ maxLen := by decide
@[simp] theorem le_maxLen12 : 12 ≤ maxLen := by decide

def strOkB (s : ByteArray) : Bool := Nat.ble s.size 1000
mutual
def Tm.okB : Tm → Bool
  | .mk _ n a b vs xs cs => (strOkB a && (strOkB b && vs.all strOkB)) && ((Nat.ble vs.length 1000 && (Nat.ble xs.length 1000 && Nat.ble cs.length 1000)) && ((decide (-1000000 ≤ n) && decide (n ≤ 1000000)) && (Tm.okBs xs && Cs.okBs cs)))
def Tm.okBs : List Tm → Bool
  | [] => true
  | x :: r => x.okB && Tm.okBs r
def Cs.okBs : List Cs → Bool
  | [] => true
  | c :: r => c.okB && Cs.okBs r
def Cs.okB : Cs → Bool
  | .mk t ws y => (decide (-1000000 ≤ t) && decide (t ≤ 1000000)) && ((Nat.ble ws.length 1000 && ws.all strOkB) && y.okB)
end
theorem strOkB_le {s : ByteArray} (h : strOkB s = true) : s.size ≤ 1000 := Nat.le_of_ble_eq_true h
mutual
theorem Tm.okB_ok : ∀ t : Tm, t.okB = true → t.Ok ∧ t.In
  | .mk k n a b vs xs cs, h => by
    simp only [Tm.okB, Bool.and_eq_true, List.all_eq_true, decide_eq_true_eq] at h
    obtain ⟨⟨h1, h2, h3⟩, ⟨h4, h5, h6⟩, ⟨h7, h8⟩, h9, h10⟩ := h
    have g1 := strOkB_le h1
    have g2 := strOkB_le h2
    have g4 := Nat.le_of_ble_eq_true h4
    have g5 := Nat.le_of_ble_eq_true h5
    have g6 := Nat.le_of_ble_eq_true h6
    obtain ⟨p1, p2⟩ := Tm.okBs_ok xs h9
    obtain ⟨p3, p4⟩ := Cs.okBs_ok cs h10
    exact ⟨⟨⟨by omega, by omega, fun s hs => by have := strOkB_le (h3 s hs); omega⟩, ⟨by omega, by omega, by omega⟩, p1, p3⟩, ⟨by omega, by omega⟩, p2, p4⟩
theorem Tm.okBs_ok : ∀ l : List Tm, Tm.okBs l = true → Tm.Oks l ∧ Tm.InL l
  | [], _ => ⟨trivial, trivial⟩
  | x :: r, h => by
    rw [Tm.okBs, Bool.and_eq_true] at h
    obtain ⟨h1, h2⟩ := Tm.okB_ok x h.1
    obtain ⟨h3, h4⟩ := Tm.okBs_ok r h.2
    exact ⟨⟨h1, h3⟩, h2, h4⟩
theorem Cs.okBs_ok : ∀ l : List Cs, Cs.okBs l = true → Cs.Oks l ∧ Cs.InL l
  | [], _ => ⟨trivial, trivial⟩
  | x :: r, h => by
    rw [Cs.okBs, Bool.and_eq_true] at h
    obtain ⟨h1, h2⟩ := Cs.okB_ok x h.1
    obtain ⟨h3, h4⟩ := Cs.okBs_ok r h.2
    exact ⟨⟨h1, h3⟩, h2, h4⟩
theorem Cs.okB_ok : ∀ c : Cs, c.okB = true → c.Ok ∧ c.In
  | .mk t ws y, h => by
    simp only [Cs.okB, Bool.and_eq_true, List.all_eq_true, decide_eq_true_eq] at h
    obtain ⟨⟨h1, h2⟩, ⟨h3, h4⟩, h5⟩ := h
    have g3 := Nat.le_of_ble_eq_true h3
    obtain ⟨p1, p2⟩ := Tm.okB_ok y h5
    exact ⟨⟨fun s hs => by have := strOkB_le (h4 s hs); omega, by omega, p1⟩, ⟨by omega, by omega⟩, p2⟩
end
def Fn.okB (f : Fn) : Bool := strOkB f.name && ((Nat.ble f.params.length 1000 && f.params.all strOkB) && f.body.okB)
def fnsOkB (l : List Fn) : Bool := Nat.ble l.length 1000 && l.all Fn.okB
theorem Fn.okB_ok {f : Fn} (h : f.okB = true) : f.Ok ∧ f.body.In := by
  simp only [Fn.okB, Bool.and_eq_true, List.all_eq_true] at h
  obtain ⟨h1, ⟨h2, h3⟩, h4⟩ := h
  have g1 := strOkB_le h1
  have g2 := Nat.le_of_ble_eq_true h2
  obtain ⟨p1, p2⟩ := Tm.okB_ok _ h4
  exact ⟨⟨by omega, by omega, fun s hs => by have := strOkB_le (h3 s hs); omega, p1⟩, p2⟩
theorem fnsOk_of {l : List Fn} (h : fnsOkB l = true) : FnsOk l := by
  simp only [fnsOkB, Bool.and_eq_true, List.all_eq_true] at h
  have g := Nat.le_of_ble_eq_true h.1
  exact ⟨by omega, fun f hf => (Fn.okB_ok (h.2 f hf)).1⟩
end Go.Proofs.YtapiiklnnkkdlaaDoor
