import Derived.Test.YtialccgjbanmcaaDoorPlainA
/- plain.maker: term. Printed by a small program. -/
namespace Go.Proofs.YtialccgjbanmcaaDoor
open Go.RowKit
attribute [local simp] runD mkRc ldOf ldArg noAny dstOk guardOk opEff opEff0 effOp pureOp callOp zEff evA constAV frGet memGet startAS frOf isGoCall idIn AS.after nextR opnIds objIds AV.ids idsL AObj.ids frNo memNo opnAny isAny mkVal rdCells wrCells fldAddr idxAddr srcRows litRows toD1 toDs setAt sliceAV optI partAV bldAV fillAV binAV binI AV.cells callEff calleeOf frKill memKill AV.kill AObj.kill AV.has AV.hasL Op.operands Call.operands keepF keepM viewIds cChk renOf moGet moWs moQ cEff moLike moHave AV.ren renL AObj.ren AObj.like kept startC moMem AV.frz frz1 frzL frSub memSub frzs AS.frz frFrz memFrz AObj.frz takeMap takeLen bleF Nat.ble_eq memAny objAny mapOp D.keyOk rowAV valRow extOp wrapOp phO frLow memLow memLow1 objLow memEmpty Low LowL
set_option linter.unusedVariables false
set_option linter.unusedSimpArgs false


end Go.Proofs.YtialccgjbanmcaaDoor

/- xcref4.W: atoms, around, Term. Printed by a small program. -/
namespace Go.Proofs.YtialccgjbanmcaaDoor
open Go.RowKit
attribute [local simp] runD mkRc ldOf ldArg noAny dstOk guardOk opEff opEff0 effOp pureOp callOp zEff evA constAV frGet memGet startAS frOf isGoCall idIn AS.after nextR opnIds objIds AV.ids idsL AObj.ids frNo memNo opnAny isAny mkVal rdCells wrCells fldAddr idxAddr srcRows litRows toD1 toDs setAt sliceAV optI partAV bldAV fillAV binAV binI AV.cells callEff calleeOf frKill memKill AV.kill AObj.kill AV.has AV.hasL Op.operands Call.operands keepF keepM viewIds cChk renOf moGet moWs moQ cEff moLike moHave AV.ren renL AObj.ren AObj.like kept startC moMem AV.frz frz1 frzL frSub memSub frzs AS.frz frFrz memFrz AObj.frz takeMap takeLen bleF Nat.ble_eq memAny objAny mapOp D.keyOk rowAV valRow extOp wrapOp phO frLow memLow memLow1 objLow memEmpty Low LowL
set_option linter.unusedVariables false
set_option linter.unusedSimpArgs false

abbrev wkO (c : Int) : AObj := .blk 80 [.d (.int c)]
def bsR (b : ByteArray × Tm) : List D := .str b.1 :: b.2.row
def WtN (N : Nat) : Prop := ∀ (t : Tm) (c : Int), t.Rt N → t.Ok →
  CSpec Tryd.prog 67 [.ptr 1000 0, tmAV t] [(1000, wkO c)] (tmAV (t.pl c).1) [(1000, wkO (t.pl c).2)]
set_option maxRecDepth 20000 in
set_option maxHeartbeats 16000000 in
theorem cs_atoms (N : Nat) (ih : WtN N) (l : List Tm) (c : Int) (hn : l.length ≤ 6) (hl : ∀ x ∈ l, x.Rt N ∧ x.Ok) : CSpec Tryd.prog 97 [.ptr 1000 0, .d (.sl (l.map Tm.row))] [(1000, wkO c)] (.tuple [.d (.sl ((Tm.ats l c).1.map Tm.row)), .d (.sl ((Tm.ats l c).2.1.map bsR))]) [(1000, wkO (Tm.ats l c).2.2)] := by
  obtain ⟨R, hR⟩ : ∃ R, R = Tm.ats l c := ⟨_, rfl⟩
  rw [← hR]
  refine CSpec.of Tryd.func97 rfl rfl (Nat.le_of_ble_eq_true rfl) ?_
  show AWp _ _ (endC _ Tryd.f97 _ _) (startC 53 _ _)
  repeat (first | refine AWp.seq ?_ | refine AWp.block ?_)
  apply AWp.reg [] []
  · conv => lhs; simp [Tm.row, Tm.rows_eq, Cs.rows_eq, lit119, bsR]
  · (repeat' apply And.intro) <;> first | omega | assumption | trivial | (intros; subst_vars; rfl) | (intro i r h; rcases i with _ | i <;> simp at h; subst h; rfl) | (simp [inI, maxLen]; done) | (simp [inI, maxLen]; omega)
  repeat (first | refine AWp.seq ?_ | refine AWp.block ?_)
  apply AWp.reg [] []
  · conv => lhs; simp [Tm.row, Tm.rows_eq, Cs.rows_eq, lit119, bsR]
  · (repeat' apply And.intro) <;> first | omega | assumption | trivial | (intros; subst_vars; rfl) | (intro i r h; rcases i with _ | i <;> simp at h; subst h; rfl) | (simp [inI, maxLen]; done) | (simp [inI, maxLen]; omega)
  repeat (first | refine AWp.seq ?_ | refine AWp.block ?_)
  apply AWp.reg [] []
  · conv => lhs; simp [Tm.row, Tm.rows_eq, Cs.rows_eq, lit119, bsR]
  · (repeat' apply And.intro) <;> first | omega | assumption | trivial | (intros; subst_vars; rfl) | (intro i r h; rcases i with _ | i <;> simp at h; subst h; rfl) | (simp [inI, maxLen]; done) | (simp [inI, maxLen]; omega)
  repeat (first | refine AWp.seq ?_ | refine AWp.block ?_)
  apply AWp.reg [] []
  · conv => lhs; simp [Tm.row, Tm.rows_eq, Cs.rows_eq, lit119, bsR]
  · (repeat' apply And.intro) <;> first | omega | assumption | trivial | (intros; subst_vars; rfl) | (intro i r h; rcases i with _ | i <;> simp at h; subst h; rfl) | (simp [inI, maxLen]; done) | (simp [inI, maxLen]; omega)
  repeat (first | refine AWp.seq ?_ | refine AWp.block ?_)
  refine AWp.le (Le.low [400, 401] [] (fr := [(0, .ptr 1000 0), (6, .arr 400 0 ([] : List Tm).length), (7, .arr 401 0 ([] : Bs).length), (11, .d (.sl (l.map Tm.row))), (12, .d (.int (l.length : Int))), (13, .d (.int (0 : Int)))]) (mem := [(400, some (.arr 32 7 (([] : List Tm).map Tm.row))), (401, some (.arr 128 8 (([] : Bs).map bsR))), (1000, some (.blk 80 [.d (.int (c : Int))]))]) rfl (by simp) (by simp)) ?_
  refine AWp.loop (σ := fun u : {u : Nat × List Tm × Bs × Int // u.1 ≤ l.length ∧ (Tm.ats l c = (u.2.1 ++ (Tm.ats (l.drop u.1) u.2.2.2).1, u.2.2.1 ++ (Tm.ats (l.drop u.1) u.2.2.2).2.1, (Tm.ats (l.drop u.1) u.2.2.2).2.2) ∧ u.2.1.length = u.1 ∧ u.2.2.1.length ≤ u.1)} => ⟨53, [(0, .ptr 1000 0), (6, .arr 400 0 u.1.2.1.length), (7, .arr 401 0 u.1.2.2.1.length), (11, .d (.sl (l.map Tm.row))), (12, .d (.int (l.length : Int))), (13, .d (.int (u.1.1 : Int)))], [(400, some (.arr 32 7 (u.1.2.1.map Tm.row))), (401, some (.arr 128 8 (u.1.2.2.1.map bsR))), (1000, some (.blk 80 [.d (.int u.1.2.2.2)]))]⟩)
    (μ := fun u => l.length - u.1.1) ⟨(0, [], [], c), ⟨Nat.zero_le _, ⟨by simp, rfl, Nat.le_refl _⟩⟩⟩ (Le.sub (by simp) (by simp)) (fun ⟨(i, vs, bs, k), ⟨hi4, hw⟩⟩ => ?_)
  dsimp only at hi4 hw ⊢
  repeat (first | refine AWp.seq ?_ | refine AWp.block ?_)
  apply AWp.reg [] []
  · conv => lhs; simp [Tm.row, Tm.rows_eq, Cs.rows_eq, lit119, bsR]
  · (repeat' apply And.intro) <;> first | omega | assumption | trivial | (intros; subst_vars; rfl) | (intro i r h; rcases i with _ | i <;> simp at h; subst h; rfl) | (simp [inI, maxLen]; done) | (simp [inI, maxLen]; omega)
  repeat (first | refine AWp.seq ?_ | refine AWp.block ?_)
  refine AWp.cond rfl (fun hc => ?_) (fun hc => ?_)
  · have hi1 : i < l.length := by have := of_decide_eq_true hc; omega
    clear hc
    have h1y : l[i]? = some l[i] := List.getElem?_eq_getElem hi1
    have hmy : l[i] ∈ l := List.getElem_mem hi1
    have hdy : l.drop i = l[i] :: l.drop (i + 1) := List.drop_eq_getElem_cons hi1
    generalize l[i] = y at h1y hmy hdy
    obtain ⟨hap, hvl, hbl⟩ := hw
    rw [hdy, Tm.ats] at hap
    obtain ⟨hyR, hyO⟩ := hl y hmy
    obtain ⟨yk, yn, ya, yb, yvs, yxs, ycs⟩ := y
    rw [Tm.tk] at hap
    refine AWp.skip ?_
    repeat (first | refine AWp.seq ?_ | refine AWp.block ?_)
    apply AWp.reg [] []
    · conv => lhs; simp [Tm.row, Tm.rows_eq, Cs.rows_eq, lit119, bsR, h1y]
    · (repeat' apply And.intro) <;> first | omega | assumption | trivial | (intros; subst_vars; rfl) | (intro i r h; rcases i with _ | i <;> simp at h; subst h; rfl) | (simp [inI, maxLen]; done) | (simp [inI, maxLen]; omega)
    by_cases q1 : yk = 1
    · repeat (first | refine AWp.seq ?_ | refine AWp.block ?_)
      apply AWp.reg [] []
      · conv => lhs; simp [Tm.row, Tm.rows_eq, Cs.rows_eq, lit119, bsR, h1y, q1]
      · (repeat' apply And.intro) <;> first | omega | assumption | trivial | (intros; subst_vars; rfl) | (intro i r h; rcases i with _ | i <;> simp at h; subst h; rfl) | (simp [inI, maxLen]; done) | (simp [inI, maxLen]; omega)
      repeat (first | refine AWp.seq ?_ | refine AWp.block ?_)
      refine AWp.cond rfl (fun hc => ?_) (fun hc => ?_)
      rotate_left
      · cases hc
      subst q1
      rw [if_pos rfl] at hap
      repeat (first | refine AWp.seq ?_ | refine AWp.block ?_)
      apply AWp.reg [] []
      · conv => lhs; simp [Tm.row, Tm.rows_eq, Cs.rows_eq, lit119, bsR, h1y]
      · (repeat' apply And.intro) <;> first | omega | assumption | trivial | (intros; subst_vars; rfl) | (intro i r h; rcases i with _ | i <;> simp at h; subst h; rfl) | (simp [inI, maxLen]; done) | (simp [inI, maxLen]; omega)
      refine AWp.exit ?_
      repeat (first | refine AWp.seq ?_ | refine AWp.block ?_)
      apply AWp.reg [] []
      · conv => lhs; simp [Tm.row, Tm.rows_eq, Cs.rows_eq, lit119, bsR, h1y]
      · (repeat' apply And.intro) <;> first | omega | assumption | trivial | (intros; subst_vars; rfl) | (intro i r h; rcases i with _ | i <;> simp at h; subst h; rfl) | (simp [inI, maxLen]; done) | (simp [inI, maxLen]; omega)
      refine ⟨⟨(i + 1, vs ++ [.mk 1 yn ya yb yvs yxs ycs], bs, k), hi1, ⟨by rw [hap]; simp, by simp [hvl], by dsimp only; omega⟩⟩, by simp; omega, ?_⟩
      dsimp only
      exact Le.sub (by simp [bsR, Tm.row, Tm.rows_eq, Cs.rows_eq, hvl]) (by simp [bsR, Tm.row, Tm.rows_eq, Cs.rows_eq, hvl])
    repeat (first | refine AWp.seq ?_ | refine AWp.block ?_)
    apply AWp.reg [] []
    · conv => lhs; simp [Tm.row, Tm.rows_eq, Cs.rows_eq, lit119, bsR, h1y, q1]
    · (repeat' apply And.intro) <;> first | omega | assumption | trivial | (intros; subst_vars; rfl) | (intro i r h; rcases i with _ | i <;> simp at h; subst h; rfl) | (simp [inI, maxLen]; done) | (simp [inI, maxLen]; omega)
    repeat (first | refine AWp.seq ?_ | refine AWp.block ?_)
    refine AWp.cond rfl (fun hc => ?_) (fun hc => ?_)
    · cases hc
    refine AWp.skip ?_
    rw [if_neg q1] at hap
    obtain ⟨e, he⟩ : ∃ e : Int, wr (k + 1) = e := ⟨_, rfl⟩
    rw [he] at hap
    have heI : inI e := by rw [← he]; exact wr_in _
    have hit := sp_Itoa e heI
    have hsz := itoaB_size heI
    have h1s : (⟨#[119]⟩ : ByteArray).size = 1 := rfl
    have hx := ih (.mk yk yn ya yb yvs yxs ycs) e hyR hyO
    generalize (Tm.mk yk yn ya yb yvs yxs ycs).pl e = o at hx hap
    obtain ⟨z, c2⟩ := o
    dsimp only at hx hap
    obtain ⟨zk, zn, za, zb, zvs, zxs, zcs⟩ := z
    repeat (first | refine AWp.seq ?_ | refine AWp.block ?_)
    apply AWp.reg [4] []
    · conv => lhs; simp [Tm.row, Tm.rows_eq, Cs.rows_eq, lit119, bsR, h1y, he, q1]
    · (repeat' apply And.intro) <;> first | omega | assumption | trivial | (intros; subst_vars; rfl) | (intro i r h; rcases i with _ | i <;> simp at h; subst h; rfl) | (simp [inI, maxLen]; done) | (simp [inI, maxLen]; omega)
    repeat (first | refine AWp.seq ?_ | refine AWp.block ?_)
    apply AWp.reg [] [.p (fun _ => .d (.str (itoaB e))) none]
    · conv => lhs; simp [Tm.row, Tm.rows_eq, Cs.rows_eq, lit119, bsR, h1y, he, q1]
    · (repeat' apply And.intro) <;> first | omega | assumption | trivial | (intros; subst_vars; rfl) | (intro i r h; rcases i with _ | i <;> simp at h; subst h; rfl) | (simp [inI, maxLen]; done) | (simp [inI, maxLen]; omega)
    obtain ⟨s, hs⟩ : ∃ s, s = ⟨#[119]⟩ ++ itoaB e := ⟨_, rfl⟩
    rw [← hs]
    rw [wNm, ← hs] at hap
    repeat (first | refine AWp.seq ?_ | refine AWp.block ?_)
    apply AWp.reg [] [.c [] [.ptr 1000 0, .agg [.d (.int yk), .d (.int yn), .d (.str ya), .d (.str yb), .d (strsD yvs), .d (.sl (yxs.map Tm.row)), .d (.sl (ycs.map Cs.row))]] [(1000, .blk 80 [.d (.int e)])] (.agg [.d (.int zk), .d (.int zn), .d (.str za), .d (.str zb), .d (strsD zvs), .d (.sl (zxs.map Tm.row)), .d (.sl (zcs.map Cs.row))]) [(1000, .blk 80 [.d (.int c2)])]]
    · conv => lhs; simp [Tm.row, Tm.rows_eq, Cs.rows_eq, lit119, bsR, h1y, q1]
    · (repeat' apply And.intro) <;> first | omega | assumption | trivial | (intros; subst_vars; rfl) | (intro i r h; rcases i with _ | i <;> simp at h; subst h; rfl) | (simp [inI, maxLen]; done) | (simp [inI, maxLen]; omega)
    repeat (first | refine AWp.seq ?_ | refine AWp.block ?_)
    apply AWp.reg [] []
    · conv => lhs; simp [Tm.row, Tm.rows_eq, Cs.rows_eq, lit119, bsR, h1y, q1]
    · (repeat' apply And.intro) <;> first | omega | assumption | trivial | (intros; subst_vars; rfl) | (intro i r h; rcases i with _ | i <;> simp at h; subst h; rfl) | (simp [inI, maxLen]; done) | (simp [inI, maxLen]; omega)
    repeat (first | refine AWp.seq ?_ | refine AWp.block ?_)
    apply AWp.reg [] []
    · conv => lhs; simp [Tm.row, Tm.rows_eq, Cs.rows_eq, lit119, bsR, h1y, q1]
    · (repeat' apply And.intro) <;> first | omega | assumption | trivial | (intros; subst_vars; rfl) | (intro i r h; rcases i with _ | i <;> simp at h; subst h; rfl) | (simp [inI, maxLen]; done) | (simp [inI, maxLen]; omega)
    refine ⟨⟨(i + 1, vs ++ [.mk 1 0 s .empty [] [] []], bs ++ [(s, .mk zk zn za zb zvs zxs zcs)], c2), hi1, ⟨by rw [hap]; simp [varT], by simp [hvl], by dsimp only; simp; omega⟩⟩, by simp; omega, ?_⟩
    dsimp only
    exact Le.sub (by simp [bsR, Tm.row, Tm.rows_eq, Cs.rows_eq, hvl]) (by simp [bsR, Tm.row, Tm.rows_eq, Cs.rows_eq, hvl])
  have hi1 : i = l.length := by have := of_decide_eq_false hc; omega
  subst hi1
  clear hc
  obtain ⟨hap, hvl, hbl⟩ := hw
  rw [List.drop_length, Tm.ats] at hap
  simp only [List.append_nil] at hap
  rw [hap] at hR
  try dsimp only at hR
  subst hR
  refine AWp.exit ?_
  repeat (first | refine AWp.seq ?_ | refine AWp.block ?_)
  apply AWp.reg [] []
  · conv => lhs; simp [Tm.row, Tm.rows_eq, Cs.rows_eq, lit119, bsR]
  · (repeat' apply And.intro) <;> first | omega | assumption | trivial | (intros; subst_vars; rfl) | (intro i r h; rcases i with _ | i <;> simp at h; subst h; rfl) | (simp [inI, maxLen]; done) | (simp [inI, maxLen]; omega)
  refine AWp.ret ?_
  try dsimp only [thenQ, blockQ]
  apply endC.retF [400, 401]
  · rfl
  · conv => lhs; simp
  · conv => lhs; simp [resAV, Tryd.results97]
  · rfl
  · simp [moEnd, memGet]

set_option maxRecDepth 20000 in
set_option maxHeartbeats 16000000 in
theorem sp_around (bs : Bs) (tk tn : Int) (ta tb : ByteArray) (tvs : List ByteArray) (txs : List Tm) (tcs : List Cs) (hn : bs.length ≤ 6) : PSpec Tryd.prog 98 [.d (.sl (bs.map bsR)), tmAV (.mk tk tn ta tb tvs txs tcs)] (fun _ => tmAV (around bs (.mk tk tn ta tb tvs txs tcs))) none := by
  obtain ⟨R, hR⟩ : ∃ R, R = around bs (.mk tk tn ta tb tvs txs tcs) := ⟨_, rfl⟩
  rw [← hR]
  obtain ⟨rk, rn, ra, rb, rvs, rxs, rcs⟩ := R
  refine PSpec.of Tryd.func98 rfl rfl rfl (Nat.le_of_ble_eq_true rfl) ?_
  show AWp _ _ (endQ _ Tryd.f98 _ _ _) (startAS 27 _)
  repeat (first | refine AWp.seq ?_ | refine AWp.block ?_)
  apply AWp.reg [] []
  · conv => lhs; simp [Tm.row, Tm.rows_eq, Cs.rows_eq, bsR]
  · (repeat' apply And.intro) <;> first | omega | assumption | trivial | (intros; subst_vars; rfl) | (intro i r h; rcases i with _ | i <;> simp at h; subst h; rfl) | (simp [inI, maxLen]; done) | (simp [inI, maxLen]; omega)
  repeat (first | refine AWp.seq ?_ | refine AWp.block ?_)
  apply AWp.reg [] []
  · conv => lhs; simp [Tm.row, Tm.rows_eq, Cs.rows_eq, bsR]
  · (repeat' apply And.intro) <;> first | omega | assumption | trivial | (intros; subst_vars; rfl) | (intro i r h; rcases i with _ | i <;> simp at h; subst h; rfl) | (simp [inI, maxLen]; done) | (simp [inI, maxLen]; omega)
  repeat (first | refine AWp.seq ?_ | refine AWp.block ?_)
  refine AWp.loop (σ := fun u : {u : Nat × Int × Int × ByteArray × ByteArray × List ByteArray × List Tm × List Cs // (around bs (.mk tk tn ta tb tvs txs tcs) = around (bs.take u.1) (.mk u.2.1 u.2.2.1 u.2.2.2.1 u.2.2.2.2.1 u.2.2.2.2.2.1 u.2.2.2.2.2.2.1 u.2.2.2.2.2.2.2) ∧ u.1 ≤ bs.length)} => ⟨27, [(0, .d (.sl (bs.map bsR))), (3, .ptr 3 0), (4, .ptr 4 0), (5, .d (.int ((u.1.1 : Int) - 1)))], [(3, some (.blk 32 [.d (.int u.1.2.1), .d (.int u.1.2.2.1), .d (.str u.1.2.2.2.1), .d (.str u.1.2.2.2.2.1), .d (strsD u.1.2.2.2.2.2.1), .d (.sl (u.1.2.2.2.2.2.2.1.map Tm.row)), .d (.sl (u.1.2.2.2.2.2.2.2.map Cs.row))])), (4, some (.blk 32 [.d (.int 0), .d (.int 0), .d (.str ByteArray.empty), .d (.str ByteArray.empty), .lit (.slice none 0 0), .lit (.slice none 0 0), .lit (.slice none 0 0)]))]⟩)
    (μ := fun u => u.1.1) ⟨(bs.length, tk, tn, ta, tb, tvs, txs, tcs), ⟨by rw [List.take_length], Nat.le_refl _⟩⟩ (Le.sub (by simp) (by simp)) (fun ⟨(j0, zk, zn, za, zb, zvs, zxs, zcs), hw⟩ => ?_)
  dsimp only at hw ⊢
  obtain ⟨hw, hj⟩ := hw
  rcases j0 with _ | j
  · rw [show ((0 : Nat) : Int) - 1 = -1 from rfl]
    repeat (first | refine AWp.seq ?_ | refine AWp.block ?_)
    apply AWp.reg [] []
    · conv => lhs; simp [Tm.row, Tm.rows_eq, Cs.rows_eq, bsR]
    · (repeat' apply And.intro) <;> first | omega | assumption | trivial | (intros; subst_vars; rfl) | (intro i r h; rcases i with _ | i <;> simp at h; subst h; rfl) | (simp [inI, maxLen]; done) | (simp [inI, maxLen]; omega)
    repeat (first | refine AWp.seq ?_ | refine AWp.block ?_)
    refine AWp.cond rfl (fun hc => ?_) (fun hc => ?_)
    · cases hc
    refine AWp.exit ?_
    rw [List.take_zero] at hw
    obtain ⟨rfl, rfl, rfl, rfl, rfl, rfl, rfl⟩ : zk = rk ∧ zn = rn ∧ za = ra ∧ zb = rb ∧ zvs = rvs ∧ zxs = rxs ∧ zcs = rcs := by simpa [around] using (hR.trans hw).symm
    repeat (first | refine AWp.seq ?_ | refine AWp.block ?_)
    apply AWp.reg [] []
    · conv => lhs; simp [Tm.row, Tm.rows_eq, Cs.rows_eq, bsR]
    · (repeat' apply And.intro) <;> first | omega | assumption | trivial | (intros; subst_vars; rfl) | (intro i r h; rcases i with _ | i <;> simp at h; subst h; rfl) | (simp [inI, maxLen]; done) | (simp [inI, maxLen]; omega)
    refine AWp.ret ?_
    try dsimp only [thenQ, blockQ]
    apply endQ.ret
    · rfl
    · conv => lhs; simp [resAV, Tryd.results98]
    first | rfl | simp [resVal, tmAV]
  rw [show ((j + 1 : Nat) : Int) - 1 = (j : Int) by omega]
  have hk0 := eq_true (Int.natCast_nonneg j)
  have hk1 : j < bs.length := by omega
  have h1p : bs[j]? = some bs[j] := List.getElem?_eq_getElem hk1
  have htk : bs.take (j + 1) = bs.take j ++ [bs[j]] := by rw [List.take_add_one, h1p]; rfl
  generalize bs[j] = p at h1p htk
  obtain ⟨bn, xk, xn, xa, xb, xvs, xxs, xcs⟩ := p
  rw [htk, around_append] at hw
  dsimp only [around] at hw
  repeat (first | refine AWp.seq ?_ | refine AWp.block ?_)
  apply AWp.reg [] []
  · conv => lhs; simp [Tm.row, Tm.rows_eq, Cs.rows_eq, bsR, h1p, hk0]
  · (repeat' apply And.intro) <;> first | omega | assumption | trivial | (intros; subst_vars; rfl) | (intro i r h; rcases i with _ | i <;> simp at h; subst h; rfl) | (simp [inI, maxLen]; done) | (simp [inI, maxLen]; omega)
  repeat (first | refine AWp.seq ?_ | refine AWp.block ?_)
  refine AWp.cond rfl (fun hc => ?_) (fun hc => ?_)
  rotate_left
  · cases hc
  refine AWp.skip ?_
  repeat (first | refine AWp.seq ?_ | refine AWp.block ?_)
  apply AWp.draw [11] [] mixed
  · conv => lhs; simp [Tm.row, Tm.rows_eq, Cs.rows_eq, bsR, h1p, hk0]
  · kernel_rfl
  · (repeat' apply And.intro) <;> first | omega | assumption | trivial | (intros; subst_vars; rfl) | (intro i r h; rcases i with _ | i <;> simp at h; subst h; rfl) | (simp [inI, maxLen]; done) | (simp [inI, maxLen]; omega)
  repeat (first | refine AWp.seq ?_ | refine AWp.block ?_)
  refine AWp.le (Le.low [] [] (fr := [(0, .d (.sl (bs.map bsR))), (3, .ptr 3 0), (4, .ptr 4 0), (5, .d (.int (j : Int)))]) (mem := [(3, some (.blk 32 [.d (.int 6), .d (.int 0), .d (.str bn), .d (.str ByteArray.empty), .d (.sl []), .d (.sl [[.int xk, .int xn, .str xa, .str xb, strsD xvs, .sl (xxs.map Tm.row), .sl (xcs.map Cs.row)], [.int zk, .int zn, .str za, .str zb, strsD zvs, .sl (zxs.map Tm.row), .sl (zcs.map Cs.row)]]), .d (.sl [])])), (4, some (.blk 32 [.d (.int 0), .d (.int 0), .d (.str ByteArray.empty), .d (.str ByteArray.empty), .lit (.slice none 0 0), .lit (.slice none 0 0), .lit (.slice none 0 0)]))]) rfl (by simp) (by simp)) ?_
  repeat (first | refine AWp.seq ?_ | refine AWp.block ?_)
  apply AWp.reg [] []
  · conv => lhs; simp [Tm.row, Tm.rows_eq, Cs.rows_eq, bsR, h1p, hk0]
  · (repeat' apply And.intro) <;> first | omega | assumption | trivial | (intros; subst_vars; rfl) | (intro i r h; rcases i with _ | i <;> simp at h; subst h; rfl) | (simp [inI, maxLen]; done) | (simp [inI, maxLen]; omega)
  refine ⟨⟨(j, 6, 0, bn, .empty, [], [.mk xk xn xa xb xvs xxs xcs, .mk zk zn za zb zvs zxs zcs], []), ⟨hw, by omega⟩⟩, by simp only []; omega, ?_⟩
  dsimp only
  exact Le.sub (by simp [Tm.row, Tm.rows_eq, Cs.rows_eq, strsD]) (by simp [Tm.row, Tm.rows_eq, Cs.rows_eq, strsD])

end Go.Proofs.YtialccgjbanmcaaDoor

/- names.changer: bind with each of its functions; these functions. Printed by a small program. -/
namespace Go.Proofs.YtialccgjbanmcaaDoor
open Go.RowKit
attribute [local simp] runD mkRc ldOf ldArg noAny dstOk guardOk opEff opEff0 effOp pureOp callOp zEff evA constAV frGet memGet startAS frOf isGoCall idIn AS.after nextR opnIds objIds AV.ids idsL AObj.ids frNo memNo opnAny isAny mkVal rdCells wrCells fldAddr idxAddr srcRows litRows toD1 toDs setAt sliceAV optI partAV bldAV fillAV binAV binI AV.cells callEff calleeOf frKill memKill AV.kill AObj.kill AV.has AV.hasL Op.operands Call.operands keepF keepM viewIds cChk renOf moGet moWs moQ cEff moLike moHave AV.ren renL AObj.ren AObj.like kept startC moMem AV.frz frz1 frzL frSub memSub frzs AS.frz frFrz memFrz AObj.frz takeMap takeLen bleF Nat.ble_eq memAny objAny mapOp D.keyOk rowAV valRow extOp wrapOp phO frLow memLow memLow1 objLow memEmpty Low LowL
set_option linter.unusedVariables false
set_option linter.unusedSimpArgs false


end Go.Proofs.YtialccgjbanmcaaDoor

/- names.changer: term's functions. Printed by a small program. -/
namespace Go.Proofs.YtialccgjbanmcaaDoor
open Go.RowKit
attribute [local simp] runD mkRc ldOf ldArg noAny dstOk guardOk opEff opEff0 effOp pureOp callOp zEff evA constAV frGet memGet startAS frOf isGoCall idIn AS.after nextR opnIds objIds AV.ids idsL AObj.ids frNo memNo opnAny isAny mkVal rdCells wrCells fldAddr idxAddr srcRows litRows toD1 toDs setAt sliceAV optI partAV bldAV fillAV binAV binI AV.cells callEff calleeOf frKill memKill AV.kill AObj.kill AV.has AV.hasL Op.operands Call.operands keepF keepM viewIds cChk renOf moGet moWs moQ cEff moLike moHave AV.ren renL AObj.ren AObj.like kept startC moMem AV.frz frz1 frzL frSub memSub frzs AS.frz frFrz memFrz AObj.frz takeMap takeLen bleF Nat.ble_eq memAny objAny mapOp D.keyOk rowAV valRow extOp wrapOp phO
set_option linter.unusedVariables false
set_option linter.unusedSimpArgs false

end Go.Proofs.YtialccgjbanmcaaDoor

/- names.changer: term. Printed by a small program. -/
namespace Go.Proofs.YtialccgjbanmcaaDoor
open Go.RowKit
attribute [local simp] runD mkRc ldOf ldArg noAny dstOk guardOk opEff opEff0 effOp pureOp callOp zEff evA constAV frGet memGet startAS frOf isGoCall idIn AS.after nextR opnIds objIds AV.ids idsL AObj.ids frNo memNo opnAny isAny mkVal rdCells wrCells fldAddr idxAddr srcRows litRows toD1 toDs setAt sliceAV optI partAV bldAV fillAV binAV binI AV.cells callEff calleeOf frKill memKill AV.kill AObj.kill AV.has AV.hasL Op.operands Call.operands keepF keepM viewIds cChk renOf moGet moWs moQ cEff moLike moHave AV.ren renL AObj.ren AObj.like kept startC moMem AV.frz frz1 frzL frSub memSub frzs AS.frz frFrz memFrz AObj.frz takeMap takeLen bleF Nat.ble_eq memAny objAny mapOp D.keyOk rowAV valRow extOp wrapOp phO
set_option linter.unusedVariables false
set_option linter.unusedSimpArgs false

end Go.Proofs.YtialccgjbanmcaaDoor

/- names.Fn. Printed by a small program. -/
namespace Go.Proofs.YtialccgjbanmcaaDoor
open Go.RowKit
attribute [local simp] runD mkRc ldOf ldArg noAny dstOk guardOk opEff opEff0 effOp pureOp callOp zEff evA constAV frGet memGet startAS frOf isGoCall idIn AS.after nextR opnIds objIds AV.ids idsL AObj.ids frNo memNo opnAny isAny mkVal rdCells wrCells fldAddr idxAddr srcRows litRows toD1 toDs setAt sliceAV optI partAV bldAV fillAV binAV binI AV.cells callEff calleeOf frKill memKill AV.kill AObj.kill AV.has AV.hasL Op.operands Call.operands keepF keepM viewIds cChk renOf moGet moWs moQ cEff moLike moHave AV.ren renL AObj.ren AObj.like kept startC moMem AV.frz frz1 frzL frSub memSub frzs AS.frz frFrz memFrz AObj.frz takeMap takeLen bleF Nat.ble_eq memAny objAny mapOp D.keyOk rowAV valRow extOp wrapOp phO frLow memLow memLow1 objLow memEmpty Low LowL
set_option linter.unusedVariables false
set_option linter.unusedSimpArgs false

end Go.Proofs.YtialccgjbanmcaaDoor

/- names.All; xcref4.Each with Named. Printed by a small program. -/
namespace Go.Proofs.YtialccgjbanmcaaDoor
open Go.RowKit
attribute [local simp] runD mkRc ldOf ldArg noAny dstOk guardOk opEff opEff0 effOp pureOp callOp zEff evA constAV frGet memGet startAS frOf isGoCall idIn AS.after nextR opnIds objIds AV.ids idsL AObj.ids frNo memNo opnAny isAny mkVal rdCells wrCells fldAddr idxAddr srcRows litRows toD1 toDs setAt sliceAV optI partAV bldAV fillAV binAV binI AV.cells callEff calleeOf frKill memKill AV.kill AObj.kill AV.has AV.hasL Op.operands Call.operands keepF keepM viewIds cChk renOf moGet moWs moQ cEff moLike moHave AV.ren renL AObj.ren AObj.like kept startC moMem AV.frz frz1 frzL frSub memSub frzs AS.frz frFrz memFrz AObj.frz takeMap takeLen bleF Nat.ble_eq memAny objAny mapOp D.keyOk rowAV valRow extOp wrapOp phO frLow memLow memLow1 objLow memEmpty Low LowL
set_option linter.unusedVariables false
set_option linter.unusedSimpArgs false

end Go.Proofs.YtialccgjbanmcaaDoor
