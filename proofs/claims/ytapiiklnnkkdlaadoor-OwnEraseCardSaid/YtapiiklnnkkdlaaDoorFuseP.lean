import Derived.Test.YtapiiklnnkkdlaaDoorPlainB
import Derived.Test.YtapiiklnnkkdlaaDoorNameB
/- xcref4.W: atoms, around, Term. Printed by a small program. -/
namespace Go.Proofs.YtapiiklnnkkdlaaDoor
open Go.RowKit
attribute [local simp] runD mkRc ldOf stOf stOk ldArg noAny dstOk guardOk opEff opEff0 effOp pureOp callOp zEff evA constAV scalAV Value.oneCell' frGet memGet startAS frOf isGoCall idIn AS.after nextR opnIds objIds AV.ids idsL AObj.ids frNo memNo opnAny isAny mkVal rdCells wrCells fldAddr idxAddr srcRows litRows toD1 toDs setAt sliceAV optI partAV bldAV fillAV binAV binI AV.cells callEff calleeOf frKill memKill AV.kill AObj.kill AV.has AV.hasL Op.operands Call.operands keepF keepM viewIds cChk renOf moGet moWs moQ cEff moLike moHave AV.ren renL AObj.ren AObj.like kept startC moMem AV.frz frz1 frzL frSub memSub frzs AS.frz frFrz memFrz AObj.frz takeMap takeLen bleF Nat.ble_eq memAny objAny mapOp D.keyOk rowAV valRow extOp wrapOp phO frLow memLow memLow1 objLow memEmpty Low LowL
set_option linter.unusedVariables false
set_option linter.unusedSimpArgs false
abbrev wkO (c : Int) : AObj := .blk 88 [.d (.int c)]
def bsR (b : ByteArray × Tm) : List D := .str b.1 :: b.2.row
def WtN (N : Nat) : Prop := ∀ (t : Tm) (c : Int), t.Rt N → t.Ok →
  CSpec Tryd.prog 75 [.ptr 1000 0, tmAV t] [(1000, wkO c)] (tmAV (t.pl c).1) [(1000, wkO (t.pl c).2)]
set_option maxRecDepth 20000 in
set_option maxHeartbeats 16000000 in
theorem cs_atoms (N : Nat) (ih : WtN N) (l : List Tm) (c : Int) (hn : l.length ≤ 6) (hl : ∀ x ∈ l, x.Rt N ∧ x.Ok) : CSpec Tryd.prog 119 [.ptr 1000 0, .d (.sl (l.map Tm.row))] [(1000, wkO c)] (.tuple [.d (.sl ((Tm.ats l c).1.map Tm.row)), .d (.sl ((Tm.ats l c).2.1.map bsR))]) [(1000, wkO (Tm.ats l c).2.2)] := by
  obtain ⟨R, hR⟩ : ∃ R, R = Tm.ats l c := ⟨_, rfl⟩
  rw [← hR]
  refine CSpec.of Tryd.func119 rfl rfl (Nat.le_of_ble_eq_true rfl) ?_
  show AWp _ _ (endC _ Tryd.f119 _ _) (startC 53 _ _)
  refine AWp.rg [] [] ?_ (hr := by conv => lhs; simp [Tm.row, Tm.rows_eq, Cs.rows_eq, lit119, bsR])
  refine AWp.rg [] [] ?_ (hr := by conv => lhs; simp [Tm.row, Tm.rows_eq, Cs.rows_eq, lit119, bsR])
  refine AWp.rg [] [] ?_ (hr := by conv => lhs; simp [Tm.row, Tm.rows_eq, Cs.rows_eq, lit119, bsR])
  refine AWp.rg [] [] ?_ (hr := by conv => lhs; simp [Tm.row, Tm.rows_eq, Cs.rows_eq, lit119, bsR])
  repeat (first | refine AWp.seq ?_ | refine AWp.block ?_)
  refine AWp.le (Le.low [400, 401] [] (fr := [(0, .ptr 1000 0), (6, .arr 400 0 ([] : List Tm).length), (7, .arr 401 0 ([] : Bs).length), (11, .d (.sl (l.map Tm.row))), (12, .d (.int (l.length : Int))), (13, .d (.int (0 : Int)))]) (mem := [(400, some (.arr 34 7 (([] : List Tm).map Tm.row))), (401, some (.arr 167 8 (([] : Bs).map bsR))), (1000, some (.blk 88 [.d (.int (c : Int))]))]) rfl (by simp) (by simp)) ?_
  refine AWp.loop (σ := fun u : {u : Nat × List Tm × Bs × Int // u.1 ≤ l.length ∧ (Tm.ats l c = (u.2.1 ++ (Tm.ats (l.drop u.1) u.2.2.2).1, u.2.2.1 ++ (Tm.ats (l.drop u.1) u.2.2.2).2.1, (Tm.ats (l.drop u.1) u.2.2.2).2.2) ∧ u.2.1.length = u.1 ∧ u.2.2.1.length ≤ u.1)} => ⟨53, [(0, .ptr 1000 0), (6, .arr 400 0 u.1.2.1.length), (7, .arr 401 0 u.1.2.2.1.length), (11, .d (.sl (l.map Tm.row))), (12, .d (.int (l.length : Int))), (13, .d (.int (u.1.1 : Int)))], [(400, some (.arr 34 7 (u.1.2.1.map Tm.row))), (401, some (.arr 167 8 (u.1.2.2.1.map bsR))), (1000, some (.blk 88 [.d (.int u.1.2.2.2)]))]⟩)
    (μ := fun u => l.length - u.1.1) ⟨(0, [], [], c), ⟨Nat.zero_le _, ⟨by simp, rfl, Nat.le_refl _⟩⟩⟩ (Le.sub (by simp) (by simp)) (fun ⟨(i, vs, bs, k), ⟨hi4, hw⟩⟩ => ?_)
  dsimp only at hi4 hw ⊢
  refine AWp.rg [] [] ?_ (hr := by conv => lhs; simp [Tm.row, Tm.rows_eq, Cs.rows_eq, lit119, bsR])
  repeat (first | refine AWp.seq ?_ | refine AWp.block ?_)
  refine AWp.cond rfl (fun hc => ?_) (fun hc => ?_)
  · have hi1 : i < l.length := by have := of_decide_eq_true hc; omega
    clear hc
    have h1y : l[i]? = some l[i] := List.getElem?_eq_getElem hi1
    have hmy : l[i] ∈ l := List.getElem_mem hi1
    have hdy : l.drop i = l[i] :: l.drop (i + 1) := List.drop_eq_getElem_cons hi1
    generalize l[i] = y at h1y hmy hdy
    obtain ⟨hap, hvl, hbl⟩ := hw
    rw [hdy, Tm.ats] at hap
    obtain ⟨hyR, hyO⟩ := hl y hmy
    obtain ⟨yk, yn, ya, yb, yvs, yxs, ycs⟩ := y
    rw [Tm.tk] at hap
    refine AWp.skip ?_
    refine AWp.rg [] [] ?_ (hr := by conv => lhs; simp [Tm.row, Tm.rows_eq, Cs.rows_eq, lit119, bsR, h1y])
    by_cases q1 : yk = 1
    · refine AWp.rg [] [] ?_ (hr := by conv => lhs; simp [Tm.row, Tm.rows_eq, Cs.rows_eq, lit119, bsR, h1y, q1])
      refine AWp.cy ?_
      subst q1
      rw [if_pos rfl] at hap
      refine AWp.rg [] [] ?_ (hr := by conv => lhs; simp [Tm.row, Tm.rows_eq, Cs.rows_eq, lit119, bsR, h1y])
      refine AWp.exit ?_
      refine AWp.rg [] [] ?_ (hr := by conv => lhs; simp [Tm.row, Tm.rows_eq, Cs.rows_eq, lit119, bsR, h1y])
      refine ⟨⟨(i + 1, vs ++ [.mk 1 yn ya yb yvs yxs ycs], bs, k), hi1, ⟨by rw [hap]; simp, by simp [hvl], by dsimp only; omega⟩⟩, by simp; omega, ?_⟩
      dsimp only
      exact Le.sub (by simp [bsR, Tm.row, Tm.rows_eq, Cs.rows_eq, hvl]) (by simp [bsR, Tm.row, Tm.rows_eq, Cs.rows_eq, hvl])
    refine AWp.rg [] [] ?_ (hr := by conv => lhs; simp [Tm.row, Tm.rows_eq, Cs.rows_eq, lit119, bsR, h1y, q1])
    refine AWp.cn ?_
    refine AWp.skip ?_
    rw [if_neg q1] at hap
    obtain ⟨e, he⟩ : ∃ e : Int, wr (k + 1) = e := ⟨_, rfl⟩
    rw [he] at hap
    have heI : inI e := by rw [← he]; exact wr_in _
    have hit := sp_Itoa e heI
    have hsz := itoaB_size heI
    have h1s : (⟨#[119]⟩ : ByteArray).size = 1 := rfl
    have hx := ih (.mk yk yn ya yb yvs yxs ycs) e hyR hyO
    generalize (Tm.mk yk yn ya yb yvs yxs ycs).pl e = o at hx hap
    obtain ⟨z, c2⟩ := o
    dsimp only at hx hap
    obtain ⟨zk, zn, za, zb, zvs, zxs, zcs⟩ := z
    refine AWp.rg [4] [] ?_ (hr := by conv => lhs; simp [Tm.row, Tm.rows_eq, Cs.rows_eq, lit119, bsR, h1y, he, q1])
    refine AWp.rg [] [.p (fun _ => .d (.str (itoaB e))) none] ?_ (hr := by conv => lhs; simp [Tm.row, Tm.rows_eq, Cs.rows_eq, lit119, bsR, h1y, he, q1])
    obtain ⟨s, hs⟩ : ∃ s, s = ⟨#[119]⟩ ++ itoaB e := ⟨_, rfl⟩
    rw [← hs]
    rw [wNm, ← hs] at hap
    refine AWp.rg [] [.c [] [.ptr 1000 0, .agg [.d (.int yk), .d (.int yn), .d (.str ya), .d (.str yb), .d (strsD yvs), .d (.sl (yxs.map Tm.row)), .d (.sl (ycs.map Cs.row))]] [(1000, .blk 88 [.d (.int e)])] (.agg [.d (.int zk), .d (.int zn), .d (.str za), .d (.str zb), .d (strsD zvs), .d (.sl (zxs.map Tm.row)), .d (.sl (zcs.map Cs.row))]) [(1000, .blk 88 [.d (.int c2)])]] ?_ (hr := by conv => lhs; simp [Tm.row, Tm.rows_eq, Cs.rows_eq, lit119, bsR, h1y, q1])
    refine AWp.rg [] [] ?_ (hr := by conv => lhs; simp [Tm.row, Tm.rows_eq, Cs.rows_eq, lit119, bsR, h1y, q1])
    refine AWp.rg [] [] ?_ (hr := by conv => lhs; simp [Tm.row, Tm.rows_eq, Cs.rows_eq, lit119, bsR, h1y, q1])
    refine ⟨⟨(i + 1, vs ++ [.mk 1 0 s .empty [] [] []], bs ++ [(s, .mk zk zn za zb zvs zxs zcs)], c2), hi1, ⟨by rw [hap]; simp [varT], by simp [hvl], by dsimp only; simp; omega⟩⟩, by simp; omega, ?_⟩
    dsimp only
    exact Le.sub (by simp [bsR, Tm.row, Tm.rows_eq, Cs.rows_eq, hvl]) (by simp [bsR, Tm.row, Tm.rows_eq, Cs.rows_eq, hvl])
  have hi1 : i = l.length := by have := of_decide_eq_false hc; omega
  subst hi1
  clear hc
  obtain ⟨hap, hvl, hbl⟩ := hw
  rw [List.drop_length, Tm.ats] at hap
  simp only [List.append_nil] at hap
  rw [hap] at hR
  try dsimp only at hR
  subst hR
  refine AWp.exit ?_
  refine AWp.rg [] [] ?_ (hr := by conv => lhs; simp [Tm.row, Tm.rows_eq, Cs.rows_eq, lit119, bsR])
  refine AWp.ret ?_
  try dsimp only [thenQ, blockQ]
  apply endC.retF [400, 401]
  · rfl
  · conv => lhs; simp
  · conv => lhs; simp [resAV, Tryd.results119]
  · rfl
  · simp [moEnd, memGet]
set_option maxRecDepth 20000 in
set_option maxHeartbeats 16000000 in
theorem sp_around (bs : Bs) (tk tn : Int) (ta tb : ByteArray) (tvs : List ByteArray) (txs : List Tm) (tcs : List Cs) (hn : bs.length ≤ 6) : PSpec Tryd.prog 120 [.d (.sl (bs.map bsR)), tmAV (.mk tk tn ta tb tvs txs tcs)] (fun _ => tmAV (around bs (.mk tk tn ta tb tvs txs tcs))) none := by
  obtain ⟨R, hR⟩ : ∃ R, R = around bs (.mk tk tn ta tb tvs txs tcs) := ⟨_, rfl⟩
  rw [← hR]
  obtain ⟨rk, rn, ra, rb, rvs, rxs, rcs⟩ := R
  refine PSpec.of Tryd.func120 rfl rfl rfl (Nat.le_of_ble_eq_true rfl) ?_
  show AWp _ _ (endQ _ Tryd.f120 _ _ _) (startAS 27 _)
  refine AWp.rg [] [] ?_ (hr := by conv => lhs; simp [Tm.row, Tm.rows_eq, Cs.rows_eq, bsR])
  refine AWp.rg [] [] ?_ (hr := by conv => lhs; simp [Tm.row, Tm.rows_eq, Cs.rows_eq, bsR])
  repeat (first | refine AWp.seq ?_ | refine AWp.block ?_)
  refine AWp.loop (σ := fun u : {u : Nat × Int × Int × ByteArray × ByteArray × List ByteArray × List Tm × List Cs // (around bs (.mk tk tn ta tb tvs txs tcs) = around (bs.take u.1) (.mk u.2.1 u.2.2.1 u.2.2.2.1 u.2.2.2.2.1 u.2.2.2.2.2.1 u.2.2.2.2.2.2.1 u.2.2.2.2.2.2.2) ∧ u.1 ≤ bs.length)} => ⟨27, [(0, .d (.sl (bs.map bsR))), (3, .ptr 3 0), (4, .ptr 4 0), (5, .d (.int ((u.1.1 : Int) - 1)))], [(3, some (.blk 34 [.d (.int u.1.2.1), .d (.int u.1.2.2.1), .d (.str u.1.2.2.2.1), .d (.str u.1.2.2.2.2.1), .d (strsD u.1.2.2.2.2.2.1), .d (.sl (u.1.2.2.2.2.2.2.1.map Tm.row)), .d (.sl (u.1.2.2.2.2.2.2.2.map Cs.row))])), (4, some (.blk 34 [.d (.int 0), .d (.int 0), .d (.str ByteArray.empty), .d (.str ByteArray.empty), .lit (.slice none 0 0), .lit (.slice none 0 0), .lit (.slice none 0 0)]))]⟩)
    (μ := fun u => u.1.1) ⟨(bs.length, tk, tn, ta, tb, tvs, txs, tcs), ⟨by rw [List.take_length], Nat.le_refl _⟩⟩ (Le.sub (by simp) (by simp)) (fun ⟨(j0, zk, zn, za, zb, zvs, zxs, zcs), hw⟩ => ?_)
  dsimp only at hw ⊢
  obtain ⟨hw, hj⟩ := hw
  rcases j0 with _ | j
  · rw [show ((0 : Nat) : Int) - 1 = -1 from rfl]
    refine AWp.rg [] [] ?_ (hr := by conv => lhs; simp [Tm.row, Tm.rows_eq, Cs.rows_eq, bsR])
    refine AWp.cn ?_
    refine AWp.exit ?_
    rw [List.take_zero] at hw
    obtain ⟨rfl, rfl, rfl, rfl, rfl, rfl, rfl⟩ : zk = rk ∧ zn = rn ∧ za = ra ∧ zb = rb ∧ zvs = rvs ∧ zxs = rxs ∧ zcs = rcs := by simpa [around] using (hR.trans hw).symm
    refine AWp.rg [] [] ?_ (hr := by conv => lhs; simp [Tm.row, Tm.rows_eq, Cs.rows_eq, bsR])
    refine AWp.ret ?_
    try dsimp only [thenQ, blockQ]
    apply endQ.ret
    · rfl
    · conv => lhs; simp [resAV, Tryd.results120]
    first | rfl | simp [resVal, tmAV]
  rw [show ((j + 1 : Nat) : Int) - 1 = (j : Int) by omega]
  have hk0 := eq_true (Int.natCast_nonneg j)
  have hk1 : j < bs.length := by omega
  have h1p : bs[j]? = some bs[j] := List.getElem?_eq_getElem hk1
  have htk : bs.take (j + 1) = bs.take j ++ [bs[j]] := by rw [List.take_add_one, h1p]; rfl
  generalize bs[j] = p at h1p htk
  obtain ⟨bn, xk, xn, xa, xb, xvs, xxs, xcs⟩ := p
  rw [htk, around_append] at hw
  dsimp only [around] at hw
  refine AWp.rg [] [] ?_ (hr := by conv => lhs; simp [Tm.row, Tm.rows_eq, Cs.rows_eq, bsR, h1p, hk0])
  refine AWp.cy ?_
  refine AWp.skip ?_
  refine AWp.dw [11] [] mixed ?_ (hr := by conv => lhs; simp [Tm.row, Tm.rows_eq, Cs.rows_eq, bsR, h1p, hk0])
  repeat (first | refine AWp.seq ?_ | refine AWp.block ?_)
  refine AWp.le (Le.low [] [] (fr := [(0, .d (.sl (bs.map bsR))), (3, .ptr 3 0), (4, .ptr 4 0), (5, .d (.int (j : Int)))]) (mem := [(3, some (.blk 34 [.d (.int 6), .d (.int 0), .d (.str bn), .d (.str ByteArray.empty), .d (.sl []), .d (.sl [[.int xk, .int xn, .str xa, .str xb, strsD xvs, .sl (xxs.map Tm.row), .sl (xcs.map Cs.row)], [.int zk, .int zn, .str za, .str zb, strsD zvs, .sl (zxs.map Tm.row), .sl (zcs.map Cs.row)]]), .d (.sl [])])), (4, some (.blk 34 [.d (.int 0), .d (.int 0), .d (.str ByteArray.empty), .d (.str ByteArray.empty), .lit (.slice none 0 0), .lit (.slice none 0 0), .lit (.slice none 0 0)]))]) rfl (by simp) (by simp)) ?_
  refine AWp.rg [] [] ?_ (hr := by conv => lhs; simp [Tm.row, Tm.rows_eq, Cs.rows_eq, bsR, h1p, hk0])
  refine ⟨⟨(j, 6, 0, bn, .empty, [], [.mk xk xn xa xb xvs xxs xcs, .mk zk zn za zb zvs zxs zcs], []), ⟨hw, by omega⟩⟩, by simp only []; omega, ?_⟩
  dsimp only
  exact Le.sub (by simp [Tm.row, Tm.rows_eq, Cs.rows_eq, strsD]) (by simp [Tm.row, Tm.rows_eq, Cs.rows_eq, strsD])

end Go.Proofs.YtapiiklnnkkdlaaDoor

namespace Go.Proofs.YtapiiklnnkkdlaaDoor
open Go.RowKit
attribute [local simp] runD mkRc ldOf stOf stOk ldArg noAny dstOk guardOk opEff opEff0 effOp pureOp callOp zEff evA constAV scalAV Value.oneCell' frGet memGet startAS frOf isGoCall idIn AS.after nextR opnIds objIds AV.ids idsL AObj.ids frNo memNo opnAny isAny mkVal rdCells wrCells fldAddr idxAddr srcRows litRows toD1 toDs setAt sliceAV optI partAV bldAV fillAV binAV binI AV.cells callEff calleeOf frKill memKill AV.kill AObj.kill AV.has AV.hasL Op.operands Call.operands keepF keepM viewIds cChk renOf moGet moWs moQ cEff moLike moHave AV.ren renL AObj.ren AObj.like kept startC moMem AV.frz frz1 frzL frSub memSub frzs AS.frz frFrz memFrz AObj.frz takeMap takeLen bleF Nat.ble_eq memAny objAny mapOp D.keyOk rowAV valRow extOp wrapOp phO
set_option linter.unusedVariables false
set_option linter.unusedSimpArgs false

end Go.Proofs.YtapiiklnnkkdlaaDoor

namespace Go.Proofs.YtapiiklnnkkdlaaDoor
open Go.RowKit
attribute [local simp] runD mkRc ldOf stOf stOk ldArg noAny dstOk guardOk opEff opEff0 effOp pureOp callOp zEff evA constAV scalAV Value.oneCell' frGet memGet startAS frOf isGoCall idIn AS.after nextR opnIds objIds AV.ids idsL AObj.ids frNo memNo opnAny isAny mkVal rdCells wrCells fldAddr idxAddr srcRows litRows toD1 toDs setAt sliceAV optI partAV bldAV fillAV binAV binI AV.cells callEff calleeOf frKill memKill AV.kill AObj.kill AV.has AV.hasL Op.operands Call.operands keepF keepM viewIds cChk renOf moGet moWs moQ cEff moLike moHave AV.ren renL AObj.ren AObj.like kept startC moMem AV.frz frz1 frzL frSub memSub frzs AS.frz frFrz memFrz AObj.frz takeMap takeLen bleF Nat.ble_eq memAny objAny mapOp D.keyOk rowAV valRow extOp wrapOp phO frLow memLow memLow1 objLow memEmpty Low LowL
set_option linter.unusedVariables false
set_option linter.unusedSimpArgs false


theorem ats_blen : ∀ (l : List Tm) (c : Int), (Tm.ats l c).2.1.length ≤ l.length
  | [], _ => Nat.le_refl _
  | x :: r, c => by
    rw [Tm.ats]
    split
    · have := ats_blen r c
      simp; omega
    · have := ats_blen r (x.pl (wr (c + 1))).2
      simp; omega
set_option maxRecDepth 20000 in
set_option maxHeartbeats 16000000 in
theorem wt_step (N : Nat) (ih : WtN N) : WtN (N + 1) := by
  intro t c hRt hO
  obtain ⟨R, hR⟩ : ∃ R, R = t.pl c := ⟨_, rfl⟩
  rw [← hR]
  obtain ⟨tk, tn, ta, tb, tvs, txs, tcs⟩ := t
  obtain ⟨hkk, hmany, h6, hxR, hcR0⟩ := hRt
  have hxO : ∀ x ∈ txs, x.Ok := fun x hx => Tm.Oks_iff.1 hO.2.2.1 x hx
  have hcR : ∀ d ∈ tcs, d.3.Rt N ∧ d.3.Ok := fun d hd => ⟨(hcR0 d hd).2, by
    obtain ⟨dt, dws, y⟩ := d
    exact (Cs.Oks_iff.1 hO.2.2.2 _ hd).2.2⟩
  refine CSpec.of Tryd.func75 rfl rfl (Nat.le_of_ble_eq_true rfl) ?_
  show AWp _ _ (endC _ Tryd.f75 _ _) (startC 92 _ _)
  refine AWp.rg [] [] ?_ (hr := by conv => lhs; simp [Tm.row, Tm.rows_eq, Cs.rows_eq])
  refine AWp.rg [] [] ?_ (hr := by conv => lhs; simp [Tm.row, Tm.rows_eq, Cs.rows_eq])
  by_cases q1 : tk = 3
  · refine AWp.rg [] [] ?_ (hr := by conv => lhs; simp [Tm.row, Tm.rows_eq, Cs.rows_eq, q1])
    refine AWp.cy ?_
    refine AWp.skip ?_
    refine AWp.cy ?_
    subst q1
    rw [Tm.pl, if_pos (by omega)] at hR
    have hat := cs_atoms N ih txs c (by omega) (fun x hx => ⟨hxR x hx, hxO x hx⟩)
    have hbl := ats_blen txs c
    generalize Tm.ats txs c = o at hat hR hbl
    obtain ⟨vs, bs, c2⟩ := o
    dsimp only at hat hR hbl
    have har := sp_around bs 3 tn ta .empty [] vs [] (by omega)
    generalize around bs (.mk 3 tn ta .empty [] vs []) = z at har hR
    subst hR
    obtain ⟨zk, zn, za, zb, zvs, zxs, zcs⟩ := z
    replace har := PSpec.nilArgs (args := [.d (.sl (bs.map bsR)), .agg [.d (.int 3), .d (.int tn), .d (.str ta), .d (.str .empty), .lit (.slice none 0 0), .d (.sl (vs.map Tm.row)), .lit (.slice none 0 0)]]) har
    refine AWp.rg [] [.c [] [.ptr 1000 0, .d (.sl (txs.map Tm.row))] [(1000, .blk 88 [.d (.int c)])] (.tuple [.d (.sl (vs.map Tm.row)), .d (.sl (bs.map bsR))]) [(1000, .blk 88 [.d (.int c2)])]] ?_ (hr := by conv => lhs; simp [Tm.row, Tm.rows_eq, Cs.rows_eq])
    refine AWp.rg [] [.p (fun _ => .agg [.d (.int zk), .d (.int zn), .d (.str za), .d (.str zb), .d (strsD zvs), .d (.sl (zxs.map Tm.row)), .d (.sl (zcs.map Cs.row))]) none] ?_ (hr := by conv => lhs; simp [Tm.row, Tm.rows_eq, Cs.rows_eq])
    refine AWp.ret ?_
    try dsimp only [thenQ, blockQ]
    apply endC.ret
    · rfl
    · conv => lhs; simp [resAV, Tryd.results75]
    · first | rfl | simp [resVal, tmAV, Tm.row, Tm.rows_eq, Cs.rows_eq, AV.nilD, nilDL, strsD]
    · simp [moEnd, memGet]
  refine AWp.rg [] [] ?_ (hr := by conv => lhs; simp [Tm.row, Tm.rows_eq, Cs.rows_eq, q1])
  refine AWp.cn ?_
  by_cases q2 : tk = 4
  · refine AWp.rg [] [] ?_ (hr := by conv => lhs; simp [Tm.row, Tm.rows_eq, Cs.rows_eq, q1, q2])
    refine AWp.cy ?_
    refine AWp.skip ?_
    refine AWp.cy ?_
    subst q2
    rw [Tm.pl, if_pos (by omega)] at hR
    have hat := cs_atoms N ih txs c (by omega) (fun x hx => ⟨hxR x hx, hxO x hx⟩)
    have hbl := ats_blen txs c
    generalize Tm.ats txs c = o at hat hR hbl
    obtain ⟨vs, bs, c2⟩ := o
    dsimp only at hat hR hbl
    have har := sp_around bs 4 tn ta .empty [] vs [] (by omega)
    generalize around bs (.mk 4 tn ta .empty [] vs []) = z at har hR
    subst hR
    obtain ⟨zk, zn, za, zb, zvs, zxs, zcs⟩ := z
    replace har := PSpec.nilArgs (args := [.d (.sl (bs.map bsR)), .agg [.d (.int 4), .d (.int tn), .d (.str ta), .d (.str .empty), .lit (.slice none 0 0), .d (.sl (vs.map Tm.row)), .lit (.slice none 0 0)]]) har
    refine AWp.rg [] [.c [] [.ptr 1000 0, .d (.sl (txs.map Tm.row))] [(1000, .blk 88 [.d (.int c)])] (.tuple [.d (.sl (vs.map Tm.row)), .d (.sl (bs.map bsR))]) [(1000, .blk 88 [.d (.int c2)])]] ?_ (hr := by conv => lhs; simp [Tm.row, Tm.rows_eq, Cs.rows_eq, q1])
    refine AWp.rg [] [.p (fun _ => .agg [.d (.int zk), .d (.int zn), .d (.str za), .d (.str zb), .d (strsD zvs), .d (.sl (zxs.map Tm.row)), .d (.sl (zcs.map Cs.row))]) none] ?_ (hr := by conv => lhs; simp [Tm.row, Tm.rows_eq, Cs.rows_eq, q1])
    refine AWp.ret ?_
    try dsimp only [thenQ, blockQ]
    apply endC.ret
    · rfl
    · conv => lhs; simp [resAV, Tryd.results75]
    · first | rfl | simp [resVal, tmAV, Tm.row, Tm.rows_eq, Cs.rows_eq, AV.nilD, nilDL, strsD]
    · simp [moEnd, memGet]
  refine AWp.rg [] [] ?_ (hr := by conv => lhs; simp [Tm.row, Tm.rows_eq, Cs.rows_eq, q1, q2])
  refine AWp.cn ?_
  by_cases q3 : tk = 5
  · refine AWp.rg [] [] ?_ (hr := by conv => lhs; simp [Tm.row, Tm.rows_eq, Cs.rows_eq, q1, q2, q3])
    refine AWp.cy ?_
    subst q3
    rw [Tm.pl, if_pos (by omega)] at hR
    have hat := cs_atoms N ih txs c (by omega) (fun x hx => ⟨hxR x hx, hxO x hx⟩)
    have hbl := ats_blen txs c
    generalize Tm.ats txs c = o at hat hR hbl
    obtain ⟨vs, bs, c2⟩ := o
    dsimp only at hat hR hbl
    have har := sp_around bs 5 tn ta .empty [] vs [] (by omega)
    generalize around bs (.mk 5 tn ta .empty [] vs []) = z at har hR
    subst hR
    obtain ⟨zk, zn, za, zb, zvs, zxs, zcs⟩ := z
    replace har := PSpec.nilArgs (args := [.d (.sl (bs.map bsR)), .agg [.d (.int 5), .d (.int tn), .d (.str ta), .d (.str .empty), .lit (.slice none 0 0), .d (.sl (vs.map Tm.row)), .lit (.slice none 0 0)]]) har
    refine AWp.rg [] [.c [] [.ptr 1000 0, .d (.sl (txs.map Tm.row))] [(1000, .blk 88 [.d (.int c)])] (.tuple [.d (.sl (vs.map Tm.row)), .d (.sl (bs.map bsR))]) [(1000, .blk 88 [.d (.int c2)])]] ?_ (hr := by conv => lhs; simp [Tm.row, Tm.rows_eq, Cs.rows_eq, q1, q2])
    refine AWp.rg [] [.p (fun _ => .agg [.d (.int zk), .d (.int zn), .d (.str za), .d (.str zb), .d (strsD zvs), .d (.sl (zxs.map Tm.row)), .d (.sl (zcs.map Cs.row))]) none] ?_ (hr := by conv => lhs; simp [Tm.row, Tm.rows_eq, Cs.rows_eq, q1, q2])
    refine AWp.ret ?_
    try dsimp only [thenQ, blockQ]
    apply endC.ret
    · rfl
    · conv => lhs; simp [resAV, Tryd.results75]
    · first | rfl | simp [resVal, tmAV, Tm.row, Tm.rows_eq, Cs.rows_eq, AV.nilD, nilDL, strsD]
    · simp [moEnd, memGet]
  refine AWp.rg [] [] ?_ (hr := by conv => lhs; simp [Tm.row, Tm.rows_eq, Cs.rows_eq, q1, q2, q3])
  refine AWp.cn ?_
  by_cases q4 : tk = 6
  · refine AWp.rg [] [] ?_ (hr := by conv => lhs; simp [Tm.row, Tm.rows_eq, Cs.rows_eq, q1, q2, q3, q4])
    refine AWp.cy ?_
    subst q4
    have hx2 : txs.length = 2 ∧ tcs = [] := by
      unfold manyB at hmany
      simp at hmany
      exact hmany
    obtain ⟨hx2, rfl⟩ := hx2
    obtain ⟨x, y, rfl⟩ : ∃ x y, txs = [x, y] := by
      rcases txs with _ | ⟨x, _ | ⟨y, _ | ⟨z, l⟩⟩⟩
      · cases hx2
      · cases hx2
      · exact ⟨x, y, rfl⟩
      · simp at hx2
    have hxx := ih x c (hxR x (by simp)) (hxO x (by simp))
    rw [Tm.pl, if_neg (by omega), if_pos rfl, Tm.plL, Tm.plL, Tm.plL] at hR
    dsimp only at hR
    generalize x.pl c = o at hxx hR
    obtain ⟨z, c1⟩ := o
    dsimp only at hxx hR
    have hyy := ih y c1 (hxR y (by simp)) (hxO y (by simp))
    generalize y.pl c1 = o at hyy hR
    obtain ⟨u, c2⟩ := o
    dsimp only at hyy hR
    subst hR
    obtain ⟨xk, xn, xa, xb, xvs, xxs, xcs⟩ := x
    obtain ⟨yk, yn, ya, yb, yvs, yxs, ycs⟩ := y
    obtain ⟨zk, zn, za, zb, zvs, zxs, zcs⟩ := z
    obtain ⟨uk, un, ua, ub, uvs, uxs, ucs⟩ := u
    refine AWp.rg [] [.c [] [.ptr 1000 0, .agg [.d (.int xk), .d (.int xn), .d (.str xa), .d (.str xb), .d (strsD xvs), .d (.sl (xxs.map Tm.row)), .d (.sl (xcs.map Cs.row))]] [(1000, .blk 88 [.d (.int c)])] (.agg [.d (.int zk), .d (.int zn), .d (.str za), .d (.str zb), .d (strsD zvs), .d (.sl (zxs.map Tm.row)), .d (.sl (zcs.map Cs.row))]) [(1000, .blk 88 [.d (.int c1)])]] ?_ (hr := by conv => lhs; simp [Tm.row, Tm.rows_eq, Cs.rows_eq, q1, q2, q3])
    refine AWp.dw [9] [.c [] [.ptr 1000 0, .agg [.d (.int yk), .d (.int yn), .d (.str ya), .d (.str yb), .d (strsD yvs), .d (.sl (yxs.map Tm.row)), .d (.sl (ycs.map Cs.row))]] [(1000, .blk 88 [.d (.int c1)])] (.agg [.d (.int uk), .d (.int un), .d (.str ua), .d (.str ub), .d (strsD uvs), .d (.sl (uxs.map Tm.row)), .d (.sl (ucs.map Cs.row))]) [(1000, .blk 88 [.d (.int c2)])]] mixed ?_ (hr := by conv => lhs; simp [Tm.row, Tm.rows_eq, Cs.rows_eq, q1, q2, q3])
    refine AWp.ret ?_
    try dsimp only [thenQ, blockQ]
    apply endC.ret
    · rfl
    · conv => lhs; simp [resAV, Tryd.results75]
    · first | rfl | simp [resVal, tmAV, Tm.row, Tm.rows_eq, Cs.rows_eq, AV.nilD, nilDL, strsD]
    · simp [moEnd, memGet]
  refine AWp.rg [] [] ?_ (hr := by conv => lhs; simp [Tm.row, Tm.rows_eq, Cs.rows_eq, q1, q2, q3, q4])
  refine AWp.cn ?_
  by_cases q5 : tk = 7
  · refine AWp.rg [] [] ?_ (hr := by conv => lhs; simp [Tm.row, Tm.rows_eq, Cs.rows_eq, q1, q2, q3, q4, q5])
    refine AWp.cy ?_
    subst q5
    rw [Tm.pl, if_neg (by omega), if_neg (by omega), if_pos rfl] at hR
    have hat := cs_atoms N ih txs c (by omega) (fun x hx => ⟨hxR x hx, hxO x hx⟩)
    have hbl := ats_blen txs c
    generalize Tm.ats txs c = o at hat hR hbl
    obtain ⟨vs, bs, c2⟩ := o
    dsimp only at hat hR hbl
    refine AWp.rg [] [.c [] [.ptr 1000 0, .d (.sl (txs.map Tm.row))] [(1000, .blk 88 [.d (.int c)])] (.tuple [.d (.sl (vs.map Tm.row)), .d (.sl (bs.map bsR))]) [(1000, .blk 88 [.d (.int c2)])]] ?_ (hr := by conv => lhs; simp [Tm.row, Tm.rows_eq, Cs.rows_eq, q1, q2, q3, q4])
    refine AWp.rg [] [] ?_ (hr := by conv => lhs; simp [Tm.row, Tm.rows_eq, Cs.rows_eq, q1, q2, q3, q4])
    refine AWp.rg [] [] ?_ (hr := by conv => lhs; simp [Tm.row, Tm.rows_eq, Cs.rows_eq, q1, q2, q3, q4])
    repeat (first | refine AWp.seq ?_ | refine AWp.block ?_)
    refine AWp.le (Le.low [400] [] (fr := [(0, .ptr 1000 0), (4, .ptr 4 0), (9, .d (.sl (bs.map bsR))), (10, .ptr 10 0), (67, .d (.sl (tcs.map Cs.row))), (68, .d (.int (tcs.length : Int))), (69, .d (.int (0 : Int)))]) (mem := [(4, some (.blk 34 [.d (.int 0), .d (.int 0), .d (.str ByteArray.empty), .d (.str ByteArray.empty), .lit (.slice none 0 0), .lit (.slice none 0 0), .lit (.slice none 0 0)])), (10, some (.blk 34 [.d (.int 7), .d (.int 0), .d (.str ByteArray.empty), .d (.str ByteArray.empty), .lit (.slice none 0 0), .d (.sl (vs.map Tm.row)), .arr 400 0 ([] : List Cs).length])), (400, some (.arr 40 9 (([] : List Cs).map Cs.row))), (1000, some (.blk 88 [.d (.int (c2 : Int))]))]) rfl (by simp) (by simp)) ?_
    refine AWp.loop (σ := fun u : {u : Nat × List Cs × Int // u.1 ≤ tcs.length ∧ (Cs.plL tcs c2 = (u.2.1 ++ (Cs.plL (tcs.drop u.1) u.2.2).1, (Cs.plL (tcs.drop u.1) u.2.2).2) ∧ u.2.1.length = u.1)} => ⟨92, [(0, .ptr 1000 0), (4, .ptr 4 0), (9, .d (.sl (bs.map bsR))), (10, .ptr 10 0), (67, .d (.sl (tcs.map Cs.row))), (68, .d (.int (tcs.length : Int))), (69, .d (.int (u.1.1 : Int)))], [(4, some (.blk 34 [.d (.int 0), .d (.int 0), .d (.str ByteArray.empty), .d (.str ByteArray.empty), .lit (.slice none 0 0), .lit (.slice none 0 0), .lit (.slice none 0 0)])), (10, some (.blk 34 [.d (.int 7), .d (.int 0), .d (.str ByteArray.empty), .d (.str ByteArray.empty), .lit (.slice none 0 0), .d (.sl (vs.map Tm.row)), .arr 400 0 u.1.2.1.length])), (400, some (.arr 40 9 (u.1.2.1.map Cs.row))), (1000, some (.blk 88 [.d (.int u.1.2.2)]))]⟩)
      (μ := fun u => tcs.length - u.1.1) ⟨(0, [], c2), ⟨Nat.zero_le _, ⟨by simp, rfl⟩⟩⟩ (Le.sub (by simp) (by simp)) (fun ⟨(i, ds, c3), ⟨hi14, hw⟩⟩ => ?_)
    dsimp only at hi14 hw ⊢
    refine AWp.rg [] [] ?_ (hr := by conv => lhs; simp [Tm.row, Tm.rows_eq, Cs.rows_eq, q1, q2, q3, q4])
    repeat (first | refine AWp.seq ?_ | refine AWp.block ?_)
    refine AWp.cond rfl (fun hc => ?_) (fun hc => ?_)
    · have hi1 : i < tcs.length := by have := of_decide_eq_true hc; omega
      clear hc
      have h1d : tcs[i]? = some tcs[i] := List.getElem?_eq_getElem hi1
      have hmd : tcs[i] ∈ tcs := List.getElem_mem hi1
      have hdd : tcs.drop i = tcs[i] :: tcs.drop (i + 1) := List.drop_eq_getElem_cons hi1
      generalize tcs[i] = d at h1d hmd hdd
      obtain ⟨hap, hdl⟩ := hw
      rw [hdd, Cs.plL] at hap
      obtain ⟨hyR, hyO⟩ := hcR d hmd
      obtain ⟨dt, dws, y⟩ := d
      try dsimp only at hyR hyO
      rw [Cs.pl] at hap
      have hx := ih y c3 hyR hyO
      generalize y.pl c3 = o at hx hap
      obtain ⟨z, c4⟩ := o
      dsimp only at hx hap
      obtain ⟨dk, dn, da, db, dvs, dxs, dcs⟩ := y
      obtain ⟨zk, zn, za, zb, zvs, zxs, zcs⟩ := z
      refine AWp.skip ?_
      refine AWp.rg [] [] ?_ (hr := by conv => lhs; simp [Tm.row, Tm.rows_eq, Cs.rows_eq, h1d, Cs.row, q1, q2, q3, q4])
      refine AWp.dw [] [.c [] [.ptr 1000 0, .agg [.d (.int dk), .d (.int dn), .d (.str da), .d (.str db), .d (strsD dvs), .d (.sl (dxs.map Tm.row)), .d (.sl (dcs.map Cs.row))]] [(1000, .blk 88 [.d (.int c3)])] (.agg [.d (.int zk), .d (.int zn), .d (.str za), .d (.str zb), .d (strsD zvs), .d (.sl (zxs.map Tm.row)), .d (.sl (zcs.map Cs.row))]) [(1000, .blk 88 [.d (.int c4)])]] mixed ?_ (hr := by conv => lhs; simp [Tm.row, Tm.rows_eq, Cs.rows_eq, h1d, Cs.row, q1, q2, q3, q4])
      refine AWp.rg [] [] ?_ (hr := by conv => lhs; simp [Tm.row, Tm.rows_eq, Cs.rows_eq, h1d, Cs.row, q1, q2, q3, q4])
      refine ⟨⟨(i + 1, ds ++ [.mk dt dws (.mk zk zn za zb zvs zxs zcs)], c4), hi1, ⟨by rw [hap]; simp, by simp [hdl]⟩⟩, by simp; omega, ?_⟩
      dsimp only
      exact Le.sub (by simp [Cs.row, Tm.row, Tm.rows_eq, Cs.rows_eq, hdl]) (by simp [Cs.row, Tm.row, Tm.rows_eq, Cs.rows_eq, hdl])
    have hi1 : i = tcs.length := by have := of_decide_eq_false hc; omega
    subst hi1
    clear hc
    obtain ⟨hap, hdl⟩ := hw
    rw [List.drop_length, Cs.plL] at hap
    simp only [List.append_nil] at hap
    rw [hap] at hR
    try dsimp only at hR
    have har := sp_around bs 7 0 .empty .empty [] vs ds (by omega)
    generalize around bs (.mk 7 0 .empty .empty [] vs ds) = z at har hR
    subst hR
    obtain ⟨zk, zn, za, zb, zvs, zxs, zcs⟩ := z
    replace har := PSpec.nilArgs (args := [.d (.sl (bs.map bsR)), .agg [.d (.int 7), .d (.int 0), .d (.str .empty), .d (.str .empty), .lit (.slice none 0 0), .d (.sl (vs.map Tm.row)), .d (.sl (ds.map Cs.row))]]) har
    have htk : List.take tcs.length (List.map Cs.row ds) = List.map Cs.row ds := List.take_of_length_le (by simp; omega)
    refine AWp.exit ?_
    apply AWp.frzs [400]
    · conv => lhs; simp
    refine AWp.rg [] [.p (fun _ => .agg [.d (.int zk), .d (.int zn), .d (.str za), .d (.str zb), .d (strsD zvs), .d (.sl (zxs.map Tm.row)), .d (.sl (zcs.map Cs.row))]) none] ?_ (hr := by conv => lhs; simp [Tm.row, Tm.rows_eq, Cs.rows_eq, htk, q1, q2, q3, q4])
    refine AWp.ret ?_
    try dsimp only [thenQ, blockQ]
    apply endC.ret
    · rfl
    · conv => lhs; simp [resAV, Tryd.results75]
    · first | rfl | simp [resVal, tmAV, Tm.row, Tm.rows_eq, Cs.rows_eq, AV.nilD, nilDL, strsD]
    · simp [moEnd, memGet]
  refine AWp.rg [] [] ?_ (hr := by conv => lhs; simp [Tm.row, Tm.rows_eq, Cs.rows_eq, q1, q2, q3, q4, q5])
  refine AWp.cn ?_
  refine AWp.skip ?_
  obtain rfl : R = (.mk tk tn ta tb tvs txs tcs, c) := by rw [hR, Tm.pl, if_neg (by omega), if_neg (by omega), if_neg (by omega)]
  refine AWp.rg [] [] ?_ (hr := by conv => lhs; simp [Tm.row, Tm.rows_eq, Cs.rows_eq, q1, q2, q3, q4, q5])
  refine AWp.ret ?_
  try dsimp only [thenQ, blockQ]
  apply endC.ret
  · rfl
  · conv => lhs; simp [resAV, Tryd.results75]
  · first | rfl | simp [resVal, tmAV, Tm.row, Tm.rows_eq, Cs.rows_eq, AV.nilD, nilDL, strsD]
  · simp [moEnd, memGet]
theorem wt_all : ∀ N, WtN N
  | 0 => fun _ _ h => h.elim
  | N + 1 => wt_step N (wt_all N)
theorem Fn.rn_rt (f : Fn) (hr : f.body.Rt 25) : f.rn.body.Rt 25 := Go.Proofs.YtapiiklnnkkdlaaDoor.rn_rt 25 f.body _ _ hr
set_option maxRecDepth 20000 in
set_option maxHeartbeats 16000000 in
theorem sp_Plain (f : Fn) (hb : f.body.Ok) (hr : f.body.Rt 25) (hp : f.params.length ≤ 6) : PSpec Tryd.prog 34 [fnAV f] (fun _ => fnAV f.pl) none := by
  have hn := sp_Named f hb hr hp
  have hx := wt_all 25 f.rn.body 0 (f.rn_rt hr) (f.rn_ok hb hr)
  unfold Fn.pl
  generalize f.rn = g at hn hx ⊢
  obtain ⟨gg, gps, gy⟩ := g
  dsimp only at hx ⊢
  generalize gy.pl 0 = o at hx ⊢
  obtain ⟨z, c2⟩ := o
  dsimp only at hx ⊢
  obtain ⟨fg, fps, ⟨fk, fn, fa, fb, fvs, fxs, fcs⟩⟩ := f
  obtain ⟨gk, gn, ga, gb, gvs, gxs, gcs⟩ := gy
  obtain ⟨zk, zn, za, zb, zvs, zxs, zcs⟩ := z
  dsimp only [fnAV] at hn
  refine PSpec.of Tryd.func34 rfl rfl rfl (Nat.le_of_ble_eq_true rfl) ?_
  show AWp _ _ (endQ _ Tryd.f34 _ _ _) (startAS 13 _)
  refine AWp.rg [] [] ?_ (hr := by conv => lhs; simp [fnAV, Fn.row, Tm.row, Tm.rows_eq, Cs.rows_eq])
  refine AWp.rg [] [.p (fun _ => .agg [.d (.str gg), .d (strsD gps), .d (.int gk), .d (.int gn), .d (.str ga), .d (.str gb), .d (strsD gvs), .d (.sl (gxs.map Tm.row)), .d (.sl (gcs.map Cs.row))]) none] ?_ (hr := by conv => lhs; simp [fnAV, Fn.row, Tm.row, Tm.rows_eq, Cs.rows_eq])
  refine AWp.rg [] [.c [(1000, 7)] [.ptr 1000 0, .agg [.d (.int gk), .d (.int gn), .d (.str ga), .d (.str gb), .d (strsD gvs), .d (.sl (gxs.map Tm.row)), .d (.sl (gcs.map Cs.row))]] [(1000, .blk 88 [.d (.int 0)])] (.agg [.d (.int zk), .d (.int zn), .d (.str za), .d (.str zb), .d (strsD zvs), .d (.sl (zxs.map Tm.row)), .d (.sl (zcs.map Cs.row))]) [(1000, .blk 88 [.d (.int c2)])]] ?_ (hr := by conv => lhs; simp [fnAV, Fn.row, Tm.row, Tm.rows_eq, Cs.rows_eq])
  refine AWp.rg [] [] ?_ (hr := by conv => lhs; simp [fnAV, Fn.row, Tm.row, Tm.rows_eq, Cs.rows_eq])
  refine AWp.ret ?_
  try dsimp only [thenQ, blockQ]
  apply endQ.ret
  · rfl
  · conv => lhs; simp [resAV, Tryd.results34]
  rfl
set_option maxRecDepth 20000 in
set_option maxHeartbeats 16000000 in
theorem sp_EachPlain (l : List Fn) (hl : l.length ≤ 879609302220) (hall : ∀ f ∈ l, f.body.Ok ∧ f.body.Rt 25 ∧ f.params.length ≤ 6) : PSpec Tryd.prog 33 [fnsAV l, .d (.fn 34)] (fun _ => fnsAV (l.map Fn.pl)) none := by
  obtain ⟨G, hG⟩ : ∃ G, G = l.map Fn.pl := ⟨_, rfl⟩
  rw [← hG]
  refine PSpec.of Tryd.func33 rfl rfl rfl (Nat.le_of_ble_eq_true rfl) ?_
  show AWp _ _ (endQ _ Tryd.f33 _ _ _) (startAS 22 _)
  refine AWp.rg [] [] ?_ (hr := by conv => lhs; simp [Fn.row, Tm.row, Tm.rows_eq, Cs.rows_eq])
  refine AWp.rg [] [] ?_ (hr := by conv => lhs; simp [Fn.row, Tm.row, Tm.rows_eq, Cs.rows_eq])
  refine AWp.rg [] [] ?_ (hr := by conv => lhs; simp [Fn.row, Tm.row, Tm.rows_eq, Cs.rows_eq])
  repeat (first | refine AWp.seq ?_ | refine AWp.block ?_)
  refine AWp.le (Le.low [400] [] (fr := [(1, .d (.fn 34)), (5, .arr 400 0 ([] : List Fn).length), (8, .d (.sl (l.map Fn.row))), (9, .d (.int (l.length : Int))), (10, .d (.int (0 : Int)))]) (mem := [(400, some (.arr 36 9 (([] : List Fn).map Fn.row)))]) rfl (by simp) (by simp)) ?_
  refine AWp.loop (σ := fun u : {u : Nat × List Fn // u.1 ≤ l.length ∧ u.2 = (l.take u.1).map Fn.pl} => ⟨22, [(1, .d (.fn 34)), (5, .arr 400 0 u.1.2.length), (8, .d (.sl (l.map Fn.row))), (9, .d (.int (l.length : Int))), (10, .d (.int (u.1.1 : Int)))], [(400, some (.arr 36 9 (u.1.2.map Fn.row)))]⟩)
    (μ := fun u => l.length - u.1.1) ⟨(0, []), ⟨Nat.zero_le _, by simp⟩⟩ (Le.sub (by simp) (by simp)) (fun ⟨(i, gs), ⟨hi3, hw⟩⟩ => ?_)
  dsimp only at hi3 hw ⊢
  refine AWp.rg [] [] ?_ (hr := by conv => lhs; simp [Fn.row, Tm.row, Tm.rows_eq, Cs.rows_eq])
  repeat (first | refine AWp.seq ?_ | refine AWp.block ?_)
  refine AWp.cond rfl (fun hc => ?_) (fun hc => ?_)
  · have hi1 : i < l.length := by have := of_decide_eq_true hc; omega
    clear hc
    have h1f : l[i]? = some l[i] := List.getElem?_eq_getElem hi1
    have hmf : l[i] ∈ l := List.getElem_mem hi1
    have hdf : l.drop i = l[i] :: l.drop (i + 1) := List.drop_eq_getElem_cons hi1
    generalize l[i] = f at h1f hmf hdf
    have hgl : gs.length = i := by rw [hw, List.length_map, List.length_take]; omega
    obtain ⟨k1, k2, k3⟩ := hall f hmf
    have hx := sp_Plain f k1 k2 k3
    generalize hz : f.pl = z at hx
    obtain ⟨fg, fps, ⟨fk, fn, fa, fb, fvs, fxs, fcs⟩⟩ := f
    obtain ⟨zg, zps, ⟨zk, zn, za, zb, zvs, zxs, zcs⟩⟩ := z
    dsimp only [fnAV] at hx
    refine AWp.skip ?_
    refine AWp.rg [] [] ?_ (hr := by conv => lhs; simp [Fn.row, Tm.row, Tm.rows_eq, Cs.rows_eq, h1f])
    refine AWp.rg [] [.p (fun _ => .agg [.d (.str zg), .d (strsD zps), .d (.int zk), .d (.int zn), .d (.str za), .d (.str zb), .d (strsD zvs), .d (.sl (zxs.map Tm.row)), .d (.sl (zcs.map Cs.row))]) none] ?_ (hr := by conv => lhs; simp [Fn.row, Tm.row, Tm.rows_eq, Cs.rows_eq, h1f])
    refine AWp.rg [] [] ?_ (hr := by conv => lhs; simp [Fn.row, Tm.row, Tm.rows_eq, Cs.rows_eq, h1f])
    refine ⟨⟨(i + 1, gs ++ [⟨zg, zps, .mk zk zn za zb zvs zxs zcs⟩]), hi1, by rw [hw, List.take_add_one, h1f, List.map_append, ← hz]; rfl⟩, by simp; omega, ?_⟩
    dsimp only
    exact Le.sub (by simp [Fn.row, Tm.row, Tm.rows_eq, Cs.rows_eq, hgl]) (by simp [Fn.row, Tm.row, Tm.rows_eq, Cs.rows_eq, hgl])
  have hi1 : i = l.length := by have := of_decide_eq_false hc; omega
  subst hi1
  clear hc
  rw [List.take_length] at hw
  obtain rfl : gs = G := by rw [hw, hG]
  refine AWp.exit ?_
  refine AWp.rg [] [] ?_ (hr := by conv => lhs; simp [Fn.row, Tm.row, Tm.rows_eq, Cs.rows_eq])
  refine AWp.ret ?_
  try dsimp only [thenQ, blockQ]
  apply endQ.retF [400]
  · rfl
  · conv => lhs; simp
  · conv => lhs; simp [resAV, Tryd.results33]
  rfl
end Go.Proofs.YtapiiklnnkkdlaaDoor

namespace Go.Proofs.YtapiiklnnkkdlaaDoor
open Go.RowKit
set_option linter.unusedVariables false
set_option linter.unusedSimpArgs false
theorem around_ok : ∀ (bs : Bs) (t : Tm), (∀ b ∈ bs, b.1.size ≤ 140737488355328 ∧ b.2.Ok) → t.Ok → (around bs t).Ok
  | [], _, _, h => h
  | b :: r, t, hb, h => by
    have h1 := around_ok r t (fun x hx => hb x (List.mem_cons_of_mem _ hx)) h
    obtain ⟨h2, h3⟩ := hb b (List.mem_cons_self ..)
    exact ⟨⟨h2, by simp, by simp⟩, ⟨by simp, by simp, by simp⟩, ⟨h3, h1, trivial⟩, trivial⟩
theorem varT_ok {s : ByteArray} (h : s.size ≤ 140737488355328) : (varT s).Ok :=
  ⟨⟨h, by simp, by simp⟩, ⟨by simp, by simp, by simp⟩, trivial, trivial⟩
theorem pl_ok : ∀ (d : Nat) (t : Tm) (c : Int), t.Rt d → t.Ok → (t.pl c).1.Ok := by
  intro d
  induction d with
  | zero => intro t _ h; exact h.elim
  | succ d ih =>
  intro t c hR hO
  obtain ⟨k, n, a, b, vs, xs, cs⟩ := t
  obtain ⟨_, _, _, hx, hc⟩ := hR
  obtain ⟨⟨o1, o2, o3⟩, ⟨o4, o5, o6⟩, o7, o8⟩ := hO
  have o7' := Tm.Oks_iff.1 o7
  have o8' := Cs.Oks_iff.1 o8
  have hA : ∀ (ys : List Tm) (c : Int), (∀ y ∈ ys, y ∈ xs) → Tm.Oks (Tm.ats ys c).1 ∧ ∀ b ∈ (Tm.ats ys c).2.1, b.1.size ≤ 140737488355328 ∧ b.2.Ok := by
    intro ys
    induction ys with
    | nil => intro c _; exact ⟨trivial, fun b h => by simp [Tm.ats] at h⟩
    | cons y r ih2 =>
      intro c hm
      have hy := hm y (List.mem_cons_self ..)
      rw [Tm.ats]
      split
      · obtain ⟨h1, h2⟩ := ih2 c fun z hz => hm z (List.mem_cons_of_mem _ hz)
        exact ⟨⟨o7' y hy, h1⟩, h2⟩
      · obtain ⟨h1, h2⟩ := ih2 (y.pl (wr (c + 1))).2 fun z hz => hm z (List.mem_cons_of_mem _ hz)
        refine ⟨⟨varT_ok (wNm_le _), h1⟩, fun b hb => ?_⟩
        rcases List.mem_cons.1 hb with rfl | hb
        · exact ⟨wNm_le _, ih y _ (hx y hy) (o7' y hy)⟩
        · exact h2 b hb
  have hL : ∀ (ys : List Tm) (c : Int), (∀ y ∈ ys, y ∈ xs) → Tm.Oks (Tm.plL ys c).1 ∧ (Tm.plL ys c).1.length = ys.length := by
    intro ys
    induction ys with
    | nil => intro c _; exact ⟨trivial, rfl⟩
    | cons y r ih2 =>
      intro c hm
      have hy := hm y (List.mem_cons_self ..)
      obtain ⟨h1, h2⟩ := ih2 (y.pl c).2 fun z hz => hm z (List.mem_cons_of_mem _ hz)
      rw [Tm.plL]
      exact ⟨⟨ih y c (hx y hy) (o7' y hy), h1⟩, by simp [h2]⟩
  have hC : ∀ (ys : List Cs) (c : Int), (∀ y ∈ ys, y ∈ cs) → Cs.Oks (Cs.plL ys c).1 ∧ (Cs.plL ys c).1.length = ys.length := by
    intro ys
    induction ys with
    | nil => intro c _; exact ⟨trivial, rfl⟩
    | cons y r ih2 =>
      intro c hm
      have hy := hm y (List.mem_cons_self ..)
      obtain ⟨h1, h2⟩ := ih2 (y.pl c).2 fun z hz => hm z (List.mem_cons_of_mem _ hz)
      obtain ⟨t, ws, y⟩ := y
      obtain ⟨_, hyR⟩ := hc _ hy
      obtain ⟨p1, p2, p3⟩ := o8' _ hy
      rw [Cs.plL]
      rw [Cs.pl] at h1 h2 ⊢
      exact ⟨⟨⟨p1, p2, ih y c hyR p3⟩, h1⟩, by simp [h2]⟩
  rw [Tm.pl]
  split
  · obtain ⟨h1, h2⟩ := hA xs c fun y hy => hy
    refine around_ok _ _ h2 ⟨⟨o1, by simp, by simp⟩, ⟨by simp, by rw [ats_len]; exact o5, by simp⟩, h1, trivial⟩
  split
  · obtain ⟨h1, h2⟩ := hL xs c fun y hy => hy
    exact ⟨⟨o1, by simp, by simp⟩, ⟨by simp, by rw [h2]; exact o5, by simp⟩, h1, trivial⟩
  split
  · obtain ⟨h1, h2⟩ := hA xs c fun y hy => hy
    obtain ⟨h3, h4⟩ := hC cs (Tm.ats xs c).2.2 fun y hy => hy
    exact around_ok _ _ h2 ⟨⟨by simp, by simp, by simp⟩, ⟨by simp, by rw [ats_len]; exact o5, by rw [h4]; exact o6⟩, h1, h3⟩
  · exact ⟨⟨o1, o2, o3⟩, ⟨o4, o5, o6⟩, o7, o8⟩
theorem Fn.pl_ok (f : Fn) (hb : f.body.Ok) (hr : f.body.Rt 25) (hp : f.params.length ≤ 6) : f.pl.body.Ok ∧ f.pl.params.length ≤ 6 :=
  ⟨Go.Proofs.YtapiiklnnkkdlaaDoor.pl_ok 25 _ 0 (f.rn_rt hr) (f.rn_ok hb hr), by unfold Fn.pl Fn.rn; dsimp only; rw [freshL_len]; exact hp⟩

def Tm.xs : Tm → List Tm
  | .mk _ _ _ _ _ xs _ => xs
def Tm.a0 (t : Tm) : Tm := t.xs.headD t
mutual
def Tm.sr : Tm → List ByteArray → List ByteArray × Tm
  | .mk k n a b vs xs cs, rest => if k = 8 ∧ hasB rest a = true then Tm.srL xs (woN rest [a]) (.mk k n a b vs xs cs) else (rest, .mk k n a b vs xs cs)
def Tm.srL : List Tm → List ByteArray → Tm → List ByteArray × Tm
  | [], rest, t => (rest, t)
  | x :: _, rest, _ => x.sr rest
end
def fuOne (k : Int) (na : Nat) (nm : ByteArray) (ws : List ByteArray) (body : Tm) : Tm :=
  if ws.length ≠ 0 ∧ na = 1 ∧ k = 7 ∧ (body.sr ws).2.tk = 9 ∧ (body.sr ws).2.nm = nm then .mk 10 0 nm .empty ws [cnt 9 (body.sr ws).1 (body.sr ws).2.a0] [] else body
mutual
def Tm.fu : Tm → Tm
  | .mk k n a b vs xs cs => .mk k n a b vs (Tm.fuL xs) (Cs.fuL k xs.length (nmH xs) cs)
def Tm.fuL : List Tm → List Tm
  | [] => []
  | x :: r => x.fu :: Tm.fuL r
def Cs.fuL (k : Int) (na : Nat) (nm : ByteArray) : List Cs → List Cs
  | [] => []
  | c :: r => c.fu k na nm :: Cs.fuL k na nm r
def Cs.fu (k : Int) (na : Nat) (nm : ByteArray) : Cs → Cs
  | .mk t ws y => .mk t ws (fuOne k na nm ws y.fu)
end
theorem Tm.fuL_eq : ∀ l : List Tm, Tm.fuL l = l.map Tm.fu
  | [] => rfl
  | x :: r => by rw [Tm.fuL, Tm.fuL_eq r]; rfl
theorem Cs.fuL_eq (k : Int) (na : Nat) (nm : ByteArray) : ∀ l : List Cs, Cs.fuL k na nm l = l.map (Cs.fu k na nm)
  | [] => rfl
  | x :: r => by rw [Cs.fuL, Cs.fuL_eq k na nm r]; rfl
def Fn.fu (f : Fn) : Fn := ⟨f.name, f.params, f.body.fu⟩
mutual
def Tm.Du : Tm → Prop
  | .mk k _ _ _ _ xs cs => (k = 8 ∨ k = 9 → xs ≠ []) ∧ Tm.DuL xs ∧ Cs.DuL cs
def Tm.DuL : List Tm → Prop
  | [] => True
  | x :: r => x.Du ∧ Tm.DuL r
def Cs.DuL : List Cs → Prop
  | [] => True
  | c :: r => c.Du ∧ Cs.DuL r
def Cs.Du : Cs → Prop
  | .mk _ ws y => ws.length ≤ 6 ∧ y.Du
end
theorem Tm.DuL_iff : ∀ {l : List Tm}, Tm.DuL l ↔ ∀ x ∈ l, x.Du
  | [] => by simp [Tm.DuL]
  | x :: r => by simp [Tm.DuL, Tm.DuL_iff (l := r)]
theorem Cs.DuL_iff : ∀ {l : List Cs}, Cs.DuL l ↔ ∀ x ∈ l, x.Du
  | [] => by simp [Cs.DuL]
  | x :: r => by simp [Cs.DuL, Cs.DuL_iff (l := r)]
theorem Tm.Du.a0 {t : Tm} (h : t.Du) : t.a0.Du := by
  obtain ⟨k, n, a, b, vs, xs, cs⟩ := t
  unfold Tm.a0 Tm.xs
  rcases xs with _ | ⟨x, r⟩
  · exact h
  · exact h.2.1.1
theorem cnt_du {k : Int} : ∀ (l : List ByteArray) {t : Tm}, t.Du → (cnt k l t).Du
  | [], _, h => h
  | s :: r, t, h => ⟨fun _ => by simp, ⟨cnt_du r h, trivial⟩, trivial⟩
theorem cnt_ok {k : Int} : ∀ (l : List ByteArray) {t : Tm}, (∀ s ∈ l, s.size ≤ 140737488355328) → t.Ok → (cnt k l t).Ok
  | [], _, _, h => h
  | s :: r, t, hl, h => ⟨⟨hl s (List.mem_cons_self ..), by simp, by simp⟩, ⟨by simp, by simp, by simp⟩, ⟨cnt_ok r (fun x hx => hl x (List.mem_cons_of_mem _ hx)) h, trivial⟩, trivial⟩
theorem Tm.Ok.a0 {t : Tm} (h : t.Ok) : t.a0.Ok := by
  obtain ⟨k, n, a, b, vs, xs, cs⟩ := t
  unfold Tm.a0 Tm.xs
  rcases xs with _ | ⟨x, r⟩
  · exact h
  · exact h.2.2.1.1
theorem nmH_le {l : List Tm} (h : Tm.Oks l) : (nmH l).size ≤ 140737488355328 := by
  rcases l with _ | ⟨x, r⟩
  · simp [nmH]
  · exact h.1.nm
theorem ow_ok : ∀ (d : Nat) (t : Tm) (has : List ByteArray), t.Rt d → t.Ok → (∀ s ∈ has, s.size ≤ 140737488355328) → (t.ow has).Ok ∧ (t.ow has).Du := by
  intro d
  induction d with
  | zero => intro t _ h; exact h.elim
  | succ d ih =>
  intro t has hR hO hh
  have hdu : ∀ t : Tm, ∀ d, t.Rt d → t.Du := by
    intro t d
    induction d generalizing t with
    | zero => intro h; exact h.elim
    | succ d ih =>
      intro h
      obtain ⟨k, n, a, b, vs, xs, cs⟩ := t
      obtain ⟨h1, _, _, h2, h3⟩ := h
      refine ⟨fun hk => by omega, Tm.DuL_iff.2 fun x hx => ih x (h2 x hx), Cs.DuL_iff.2 fun c hc => ?_⟩
      obtain ⟨h4, h5⟩ := h3 c hc
      obtain ⟨t, ws, y⟩ := c
      exact ⟨h4, ih y h5⟩
  have hD := hdu t _ hR
  obtain ⟨k, n, a, b, vs, xs, cs⟩ := t
  obtain ⟨hk, hmany, h6, hx, hc⟩ := hR
  have hO' := hO
  obtain ⟨⟨o1, o2, o3⟩, ⟨o4, o5, o6⟩, o7, o8⟩ := hO'
  have o7' := Tm.Oks_iff.1 o7
  have o8' := Cs.Oks_iff.1 o8
  rw [Tm.ow]
  generalize (Tm.mk k n a b vs xs cs).free = fr
  have hG : ∀ s ∈ woN has fr, s.size ≤ 140737488355328 := fun s hs => hh s (List.mem_filter.1 hs).1
  have hI : ∀ s ∈ inN has fr, s.size ≤ 140737488355328 := fun s hs => hh s (List.mem_filter.1 hs).1
  generalize inN has fr = own at hI ⊢
  suffices H : ∀ e : Tm, e.Ok → e.Du → (cnt 9 (woN has fr) e).Ok ∧ (cnt 9 (woN has fr) e).Du by
    split
    · exact H _ (cnt_ok _ (fun s hs => by
        obtain ⟨x, hx, e⟩ := moreN_mem hs
        rw [e]
        exact (o7' x hx).nm) hO) (cnt_du _ hD)
    split
    · rename_i hk6
      subst hk6
      have hx2 : xs.length = 2 ∧ cs = [] := by
        unfold manyB at hmany
        simp at hmany
        exact hmany
      obtain ⟨hx2, rfl⟩ := hx2
      obtain ⟨x, y, rfl⟩ : ∃ x y, xs = [x, y] := by
        rcases xs with _ | ⟨x, _ | ⟨y, _ | ⟨z, l⟩⟩⟩
        · cases hx2
        · cases hx2
        · exact ⟨x, y, rfl⟩
        · simp at hx2
      rw [letD, letH, Tm.owZ, List.headD_cons, List.tail_cons, Tm.owZ, List.headD_cons, List.tail_cons, Tm.owZ]
      obtain ⟨h1, h2⟩ := ih x (inN own x.free) (hx x (by simp)) (o7' x (by simp)) (fun s hs => hI s (List.mem_filter.1 hs).1)
      obtain ⟨h3, h4⟩ := ih y (inN own (woN y.free [a]) ++ [a]) (hx y (by simp)) (o7' y (by simp)) (fun s hs => (List.mem_append.1 hs).elim (fun h => hI s (List.mem_filter.1 h).1) fun h => by rw [List.mem_singleton.1 h]; exact o1)
      exact H _ (cnt_ok _ (fun s hs => hI s (List.mem_filter.1 (List.mem_filter.1 hs).1).1) ⟨⟨o1, by simp, by simp⟩, ⟨by simp, by simp, by simp⟩, ⟨h1, h3, trivial⟩, trivial⟩) (cnt_du _ ⟨fun h => by omega, ⟨h2, h4, trivial⟩, trivial⟩)
    split
    · have hnm := nmH_le o7
      have hC : ∀ (l : List Cs), (∀ c ∈ l, c ∈ cs) → Cs.Oks (Cs.owL l own (nmH xs)) ∧ Cs.DuL (Cs.owL l own (nmH xs)) := by
        intro l
        induction l with
        | nil => intro _; exact ⟨trivial, trivial⟩
        | cons c r ih2 =>
          intro hm
          have hcm := hm c (List.mem_cons_self ..)
          obtain ⟨g1, g2⟩ := ih2 fun z hz => hm z (List.mem_cons_of_mem _ hz)
          obtain ⟨t, ws, y⟩ := c
          obtain ⟨e1, e2⟩ := hc _ hcm
          obtain ⟨p1, p2, p3⟩ := o8' _ hcm
          have hU : ∀ s ∈ inN ws y.free, s.size ≤ 140737488355328 := fun s hs => p1 s (List.mem_filter.1 hs).1
          have hH : ∀ s ∈ own ++ inN ws y.free, s.size ≤ 140737488355328 := fun s hs => (List.mem_append.1 hs).elim (hI s) (hU s)
          obtain ⟨q1, q2⟩ := ih y (if hasB y.free (nmH xs) then own ++ inN ws y.free else woN (own ++ inN ws y.free) [nmH xs]) e2 p3 (fun s hs => by
            split at hs
            · exact hH s hs
            · exact hH s (List.mem_filter.1 hs).1)
          rw [Cs.owL, Cs.ow]
          exact ⟨⟨⟨p1, p2, cnt_ok _ hU (cnt_ok _ (fun s hs => by split at hs <;> simp at hs; rw [hs]; exact hnm) q1)⟩, g1⟩, ⟨⟨e1, cnt_du _ (cnt_du _ q2)⟩, g2⟩⟩
      obtain ⟨g1, g2⟩ := hC cs fun _ h => h
      exact H _ ⟨⟨by simp, by simp, by simp⟩, ⟨by simp, o5, by rw [Cs.owL_len]; exact o6⟩, o7, g1⟩ ⟨fun h => by omega, hD.2.1, g2⟩
    · exact H _ hO hD
  exact fun e h1 h2 => ⟨cnt_ok _ hG h1, cnt_du _ h2⟩
end Go.Proofs.YtapiiklnnkkdlaaDoor
