import Derived.Test.YtialccgjbanmcaaDoorNameP
/- xcref4.N: fresh, Term; Named, Each. Printed by a small program. -/
namespace Go.Proofs.YtialccgjbanmcaaDoor
open Go.RowKit
attribute [local simp] runD mkRc ldOf ldArg noAny dstOk guardOk opEff opEff0 effOp pureOp callOp zEff evA constAV frGet memGet startAS frOf isGoCall idIn AS.after nextR opnIds objIds AV.ids idsL AObj.ids frNo memNo opnAny isAny mkVal rdCells wrCells fldAddr idxAddr srcRows litRows toD1 toDs setAt sliceAV optI partAV bldAV fillAV binAV binI AV.cells callEff calleeOf frKill memKill AV.kill AObj.kill AV.has AV.hasL Op.operands Call.operands keepF keepM viewIds cChk renOf moGet moWs moQ cEff moLike moHave AV.ren renL AObj.ren AObj.like kept startC moMem AV.frz frz1 frzL frSub memSub frzs AS.frz frFrz memFrz AObj.frz takeMap takeLen bleF Nat.ble_eq memAny objAny mapOp D.keyOk rowAV valRow extOp wrapOp phO frLow memLow memLow1 objLow memEmpty Low LowL
set_option linter.unusedVariables false
set_option linter.unusedSimpArgs false

abbrev nObj (c : Int) : AObj := .blk 69 [.d (.int c)]
theorem vsz (e : Int) (h : inI e) : (vNm e).size ≤ 22 := by
  have := itoaB_size h
  show (⟨#[118]⟩ ++ itoaB e : ByteArray).size ≤ 22
  rw [ByteArray.size_append]
  have h1 : (⟨#[118]⟩ : ByteArray).size = 1 := rfl
  omega
set_option maxRecDepth 20000 in
set_option maxHeartbeats 16000000 in
theorem cs_fresh (ws : List ByteArray) (c : Int) (hw6 : ws.length ≤ 6) : CSpec Tryd.prog 60 [.ptr 1000 0, strsAV ws] [(1000, nObj c)] (.tuple [strsAV (freshL ws c), psAV (ws.zip (freshL ws c))]) [(1000, nObj (freshC ws c))] := by
  obtain ⟨US, hUS⟩ : ∃ US, US = freshL ws c := ⟨_, rfl⟩
  obtain ⟨PS, hPS⟩ : ∃ PS, PS = ws.zip US := ⟨_, rfl⟩
  obtain ⟨E, hE⟩ : ∃ E, E = freshC ws c := ⟨_, rfl⟩
  rw [← hUS, ← hPS, ← hE]
  refine CSpec.of Tryd.func60 rfl rfl (Nat.le_of_ble_eq_true rfl) ?_
  show AWp _ _ (endC _ Tryd.f60 _ _) (startC 43 _ _)
  repeat (first | refine AWp.seq ?_ | refine AWp.block ?_)
  apply AWp.reg [] []
  · conv => lhs; simp [psR, lit118]
  · (repeat' apply And.intro) <;> first | omega | assumption | trivial | (intros; subst_vars; rfl) | (intro i r h; rcases i with _ | i <;> simp at h; subst h; rfl) | (simp [inI, maxLen]; done) | (simp [inI, maxLen]; omega)
  repeat (first | refine AWp.seq ?_ | refine AWp.block ?_)
  apply AWp.reg [] []
  · conv => lhs; simp [psR, lit118]
  · (repeat' apply And.intro) <;> first | omega | assumption | trivial | (intros; subst_vars; rfl) | (intro i r h; rcases i with _ | i <;> simp at h; subst h; rfl) | (simp [inI, maxLen]; done) | (simp [inI, maxLen]; omega)
  repeat (first | refine AWp.seq ?_ | refine AWp.block ?_)
  apply AWp.reg [] []
  · conv => lhs; simp [psR, lit118]
  · (repeat' apply And.intro) <;> first | omega | assumption | trivial | (intros; subst_vars; rfl) | (intro i r h; rcases i with _ | i <;> simp at h; subst h; rfl) | (simp [inI, maxLen]; done) | (simp [inI, maxLen]; omega)
  repeat (first | refine AWp.seq ?_ | refine AWp.block ?_)
  apply AWp.reg [] []
  · conv => lhs; simp [psR, lit118]
  · (repeat' apply And.intro) <;> first | omega | assumption | trivial | (intros; subst_vars; rfl) | (intro i r h; rcases i with _ | i <;> simp at h; subst h; rfl) | (simp [inI, maxLen]; done) | (simp [inI, maxLen]; omega)
  repeat (first | refine AWp.seq ?_ | refine AWp.block ?_)
  refine AWp.le (Le.low [400, 401] [] (fr := [(0, .ptr 1000 0), (6, .arr 400 0 ([] : List ByteArray).length), (7, .arr 401 0 ([] : Ps).length), (11, .d (strsD ws)), (12, .d (.int (ws.length : Int))), (13, .d (.int (0 : Int)))]) (mem := [(400, some (.arr 9 1 (([] : List ByteArray).map strR))), (401, some (.arr 101 2 (([] : Ps).map psR))), (1000, some (.blk 69 [.d (.int (c : Int))]))]) rfl (by simp) (by simp)) ?_
  refine AWp.loop (σ := fun u : {u : Nat × List ByteArray × Ps × Int // u.1 ≤ ws.length ∧ (freshL ws c = u.2.1 ++ freshL (ws.drop u.1) u.2.2.2 ∧ freshC ws c = freshC (ws.drop u.1) u.2.2.2 ∧ u.2.1.length = u.1 ∧ u.2.2.1 = (ws.take u.1).zip u.2.1)} => ⟨43, [(0, .ptr 1000 0), (6, .arr 400 0 u.1.2.1.length), (7, .arr 401 0 u.1.2.2.1.length), (11, .d (strsD ws)), (12, .d (.int (ws.length : Int))), (13, .d (.int (u.1.1 : Int)))], [(400, some (.arr 9 1 (u.1.2.1.map strR))), (401, some (.arr 101 2 (u.1.2.2.1.map psR))), (1000, some (.blk 69 [.d (.int u.1.2.2.2)]))]⟩)
    (μ := fun u => ws.length - u.1.1) ⟨(0, [], [], c), ⟨Nat.zero_le _, ⟨by simp, by simp, rfl, by simp⟩⟩⟩ (Le.sub (by simp) (by simp)) (fun ⟨(i, us, ps, k), ⟨hi4, hw⟩⟩ => ?_)
  dsimp only at hi4 hw ⊢
  repeat (first | refine AWp.seq ?_ | refine AWp.block ?_)
  apply AWp.reg [] []
  · conv => lhs; simp [psR, lit118]
  · (repeat' apply And.intro) <;> first | omega | assumption | trivial | (intros; subst_vars; rfl) | (intro i r h; rcases i with _ | i <;> simp at h; subst h; rfl) | (simp [inI, maxLen]; done) | (simp [inI, maxLen]; omega)
  repeat (first | refine AWp.seq ?_ | refine AWp.block ?_)
  refine AWp.cond rfl (fun hc => ?_) (fun hc => ?_)
  · have hi1 : i < ws.length := by have := of_decide_eq_true hc; omega
    clear hc
    have h1x : ws[i]? = some ws[i] := List.getElem?_eq_getElem hi1
    have hmx : ws[i] ∈ ws := List.getElem_mem hi1
    have hdx : ws.drop i = ws[i] :: ws.drop (i + 1) := List.drop_eq_getElem_cons hi1
    generalize ws[i] = x at h1x hmx hdx
    obtain ⟨hfr, hfc, hul, hps⟩ := hw
    obtain ⟨e, he⟩ : ∃ e : Int, wr (k + 1) = e := ⟨_, rfl⟩
    have heI : inI e := by rw [← he]; exact wr_in _
    have hit := sp_Itoa e heI
    have hsz := itoaB_size heI
    have h1s : (⟨#[118]⟩ : ByteArray).size = 1 := rfl
    have hpl : ps.length = i := by rw [hps, List.length_zip, hul, List.length_take]; omega
    refine AWp.skip ?_
    repeat (first | refine AWp.seq ?_ | refine AWp.block ?_)
    apply AWp.reg [] []
    · conv => lhs; simp [psR, lit118, h1x, he]
    · (repeat' apply And.intro) <;> first | omega | assumption | trivial | (intros; subst_vars; rfl) | (intro i r h; rcases i with _ | i <;> simp at h; subst h; rfl) | (simp [inI, maxLen]; done) | (simp [inI, maxLen]; omega)
    repeat (first | refine AWp.seq ?_ | refine AWp.block ?_)
    apply AWp.reg [4] []
    · conv => lhs; simp [psR, lit118, h1x, he]
    · (repeat' apply And.intro) <;> first | omega | assumption | trivial | (intros; subst_vars; rfl) | (intro i r h; rcases i with _ | i <;> simp at h; subst h; rfl) | (simp [inI, maxLen]; done) | (simp [inI, maxLen]; omega)
    repeat (first | refine AWp.seq ?_ | refine AWp.block ?_)
    apply AWp.reg [] [.p (fun _ => .d (.str (itoaB e))) none]
    · conv => lhs; simp [psR, lit118, h1x, he]
    · (repeat' apply And.intro) <;> first | omega | assumption | trivial | (intros; subst_vars; rfl) | (intro i r h; rcases i with _ | i <;> simp at h; subst h; rfl) | (simp [inI, maxLen]; done) | (simp [inI, maxLen]; omega)
    repeat (first | refine AWp.seq ?_ | refine AWp.block ?_)
    apply AWp.reg [] []
    · conv => lhs; simp [psR, lit118, h1x, he]
    · (repeat' apply And.intro) <;> first | omega | assumption | trivial | (intros; subst_vars; rfl) | (intro i r h; rcases i with _ | i <;> simp at h; subst h; rfl) | (simp [inI, maxLen]; done) | (simp [inI, maxLen]; omega)
    repeat (first | refine AWp.seq ?_ | refine AWp.block ?_)
    apply AWp.reg [] []
    · conv => lhs; simp [psR, lit118, h1x, he]
    · (repeat' apply And.intro) <;> first | omega | assumption | trivial | (intros; subst_vars; rfl) | (intro i r h; rcases i with _ | i <;> simp at h; subst h; rfl) | (simp [inI, maxLen]; done) | (simp [inI, maxLen]; omega)
    repeat (first | refine AWp.seq ?_ | refine AWp.block ?_)
    apply AWp.reg [] []
    · conv => lhs; simp [psR, lit118, h1x, he]
    · (repeat' apply And.intro) <;> first | omega | assumption | trivial | (intros; subst_vars; rfl) | (intro i r h; rcases i with _ | i <;> simp at h; subst h; rfl) | (simp [inI, maxLen]; done) | (simp [inI, maxLen]; omega)
    refine ⟨⟨(i + 1, us ++ [vNm e], ps ++ [(x, vNm e)], e), hi1, ⟨by rw [hfr, hdx, freshL, he]; simp, by rw [hfc, hdx, freshC, he], by simp [hul], by rw [hps, List.take_add_one, h1x, List.zip_append (by rw [List.length_take, hul]; omega)]; rfl⟩⟩, by simp; omega, ?_⟩
    dsimp only
    exact Le.sub (by simp [vNm, psR]) (by simp [vNm, psR])
  have hi1 : i = ws.length := by have := of_decide_eq_false hc; omega
  subst hi1
  clear hc
  obtain ⟨hfr, hfc, hul, hps⟩ := hw
  rw [List.drop_length, freshL, List.append_nil] at hfr
  rw [List.drop_length, freshC] at hfc
  rw [List.take_length] at hps
  obtain rfl : us = US := by rw [hUS, hfr]
  obtain rfl : ps = PS := by rw [hPS, hps]
  obtain rfl : k = E := by rw [hE, hfc]
  clear hfr hfc hps hPS hUS hE
  refine AWp.exit ?_
  repeat (first | refine AWp.seq ?_ | refine AWp.block ?_)
  apply AWp.reg [] []
  · conv => lhs; simp [psR, lit118]
  · (repeat' apply And.intro) <;> first | omega | assumption | trivial | (intros; subst_vars; rfl) | (intro i r h; rcases i with _ | i <;> simp at h; subst h; rfl) | (simp [inI, maxLen]; done) | (simp [inI, maxLen]; omega)
  refine AWp.ret ?_
  try dsimp only [thenQ, blockQ]
  apply endC.retF [400, 401]
  · rfl
  · conv => lhs; simp
  · conv => lhs; simp [resAV, Tryd.results60]
  · rfl
  · simp [moEnd, memGet]

theorem cs_fresh1 (s : ByteArray) (c : Int) : CSpec Tryd.prog 60 [.ptr 1000 0, .d (.sl [[.str s]])] [(1000, nObj c)] (.tuple [.d (.sl [[.str (vNm (wr (c + 1)))]]), .d (.sl [[.str s, .str (vNm (wr (c + 1)))]])]) [(1000, nObj (wr (c + 1)))] := by
  exact cs_fresh [s] c (by simp)
theorem nowP_snoc {ps : Ps} {i : Nat} {p : ByteArray × ByteArray} (h : ps[i]? = some p) (s : ByteArray) : nowP (ps.take (i + 1)) s = if p.1 = s then p.2 else nowP (ps.take i) s := by
  unfold nowP
  rw [List.take_add_one, h, List.foldl_append]
  rfl
def RnE (N : Nat) : Prop := ∀ (t : Tm) (ps : Ps) (c : Int), t.Rt N → t.Ok → ps.length + 6 * N ≤ 1000 →
  CSpec Tryd.prog 61 [.ptr 1000 0, tmAV t, psAV ps] [(1000, nObj c)] (tmAV (t.rn ps c).1) [(1000, nObj (t.rn ps c).2)]
set_option maxRecDepth 20000 in
set_option maxHeartbeats 16000000 in
theorem rn_step (N : Nat) (ih : RnE N) : RnE (N + 1) := by
  intro t ps c hRt hO hps
  obtain ⟨R, hR⟩ : ∃ R, R = t.rn ps c := ⟨_, rfl⟩
  rw [← hR]
  obtain ⟨tk, tn, ta, tb, tvs, txs, tcs⟩ := t
  obtain ⟨hkk, hmany, h6, hxR, hcR⟩ := hRt
  have hxO : ∀ x ∈ txs, x.Ok := fun x hx => Tm.Oks_iff.1 hO.2.2.1 x hx
  refine CSpec.of Tryd.func61 rfl rfl (Nat.le_of_ble_eq_true rfl) ?_
  show AWp _ _ (endC _ Tryd.f61 _ _) (startC 118 _ _)
  repeat (first | refine AWp.seq ?_ | refine AWp.block ?_)
  apply AWp.reg [] []
  · conv => lhs; simp [Tm.row, Tm.rows_eq, Cs.rows_eq, psR]
  · (repeat' apply And.intro) <;> first | omega | assumption | trivial | (intros; subst_vars; rfl) | (intro i r h; rcases i with _ | i <;> simp at h; subst h; rfl) | (simp [inI, maxLen]; done) | (simp [inI, maxLen]; omega)
  repeat (first | refine AWp.seq ?_ | refine AWp.block ?_)
  apply AWp.reg [] []
  · conv => lhs; simp [Tm.row, Tm.rows_eq, Cs.rows_eq, psR]
  · (repeat' apply And.intro) <;> first | omega | assumption | trivial | (intros; subst_vars; rfl) | (intro i r h; rcases i with _ | i <;> simp at h; subst h; rfl) | (simp [inI, maxLen]; done) | (simp [inI, maxLen]; omega)
  repeat (first | refine AWp.seq ?_ | refine AWp.block ?_)
  apply AWp.reg [] []
  · conv => lhs; simp [Tm.row, Tm.rows_eq, Cs.rows_eq, psR]
  · (repeat' apply And.intro) <;> first | omega | assumption | trivial | (intros; subst_vars; rfl) | (intro i r h; rcases i with _ | i <;> simp at h; subst h; rfl) | (simp [inI, maxLen]; done) | (simp [inI, maxLen]; omega)
  by_cases q1 : tk = 1
  · repeat (first | refine AWp.seq ?_ | refine AWp.block ?_)
    apply AWp.reg [] []
    · conv => lhs; simp [Tm.row, Tm.rows_eq, Cs.rows_eq, psR, q1]
    · (repeat' apply And.intro) <;> first | omega | assumption | trivial | (intros; subst_vars; rfl) | (intro i r h; rcases i with _ | i <;> simp at h; subst h; rfl) | (simp [inI, maxLen]; done) | (simp [inI, maxLen]; omega)
    repeat (first | refine AWp.seq ?_ | refine AWp.block ?_)
    refine AWp.cond rfl (fun hc => ?_) (fun hc => ?_)
    rotate_left
    · cases hc
    subst q1
    obtain rfl : R = (.mk 1 tn (nowP ps ta) tb tvs [] [], c) := by rw [hR, Tm.rn, if_pos rfl]
    repeat (first | refine AWp.seq ?_ | refine AWp.block ?_)
    apply AWp.reg [] []
    · conv => lhs; simp [Tm.row, Tm.rows_eq, Cs.rows_eq, psR]
    · (repeat' apply And.intro) <;> first | omega | assumption | trivial | (intros; subst_vars; rfl) | (intro i r h; rcases i with _ | i <;> simp at h; subst h; rfl) | (simp [inI, maxLen]; done) | (simp [inI, maxLen]; omega)
    repeat (first | refine AWp.seq ?_ | refine AWp.block ?_)
    refine AWp.loop (σ := fun u : {u : Nat // u ≤ ps.length} => ⟨118, [(4, .ptr 4 0), (6, .ptr 6 0), (7, .ptr 7 0), (25, .d (.sl (ps.map psR))), (26, .d (.int (ps.length : Int))), (27, .d (.int (u.1 : Int)))], [(4, some (.blk 32 [.d (.int 1), .d (.int tn), .d (.str ta), .d (.str tb), .d (strsD tvs), .d (.sl (txs.map Tm.row)), .d (.sl (tcs.map Cs.row))])), (6, some (.blk 32 [.d (.int 0), .d (.int 0), .d (.str ByteArray.empty), .d (.str ByteArray.empty), .lit (.slice none 0 0), .lit (.slice none 0 0), .lit (.slice none 0 0)])), (7, some (.blk 32 [.d (.int 1), .d (.int tn), .d (.str (nowP (ps.take u.1) ta)), .d (.str tb), .d (strsD tvs), .lit (.slice none 0 0), .lit (.slice none 0 0)])), (1000, some (.blk 69 [.d (.int c)]))]⟩)
      (μ := fun u => ps.length - u.1) ⟨0, Nat.zero_le _⟩ (Le.sub (by simp [nowP]) (by simp [nowP])) (fun ⟨i, hi5⟩ => ?_)
    dsimp only
    repeat (first | refine AWp.seq ?_ | refine AWp.block ?_)
    apply AWp.reg [] []
    · conv => lhs; simp [Tm.row, Tm.rows_eq, Cs.rows_eq, psR]
    · (repeat' apply And.intro) <;> first | omega | assumption | trivial | (intros; subst_vars; rfl) | (intro i r h; rcases i with _ | i <;> simp at h; subst h; rfl) | (simp [inI, maxLen]; done) | (simp [inI, maxLen]; omega)
    repeat (first | refine AWp.seq ?_ | refine AWp.block ?_)
    refine AWp.cond rfl (fun hc => ?_) (fun hc => ?_)
    · have hi1 : i < ps.length := by have := of_decide_eq_true hc; omega
      clear hc
      have h1p : ps[i]? = some ps[i] := List.getElem?_eq_getElem hi1
      have hmp : ps[i] ∈ ps := List.getElem_mem hi1
      have hdp : ps.drop i = ps[i] :: ps.drop (i + 1) := List.drop_eq_getElem_cons hi1
      generalize ps[i] = p at h1p hmp hdp
      have hsn := nowP_snoc h1p ta
      generalize nowP (ps.take i) ta = nw at hsn ⊢
      obtain ⟨pf, pg⟩ := p
      refine AWp.skip ?_
      repeat (first | refine AWp.seq ?_ | refine AWp.block ?_)
      apply AWp.reg [] []
      · conv => lhs; simp [Tm.row, Tm.rows_eq, Cs.rows_eq, psR, h1p]
      · (repeat' apply And.intro) <;> first | omega | assumption | trivial | (intros; subst_vars; rfl) | (intro i r h; rcases i with _ | i <;> simp at h; subst h; rfl) | (simp [inI, maxLen]; done) | (simp [inI, maxLen]; omega)
      by_cases q2 : pf = ta
      · repeat (first | refine AWp.seq ?_ | refine AWp.block ?_)
        apply AWp.reg [] []
        · conv => lhs; simp [Tm.row, Tm.rows_eq, Cs.rows_eq, psR, h1p, q2]
        · (repeat' apply And.intro) <;> first | omega | assumption | trivial | (intros; subst_vars; rfl) | (intro i r h; rcases i with _ | i <;> simp at h; subst h; rfl) | (simp [inI, maxLen]; done) | (simp [inI, maxLen]; omega)
        repeat (first | refine AWp.seq ?_ | refine AWp.block ?_)
        refine AWp.cond rfl (fun hc => ?_) (fun hc => ?_)
        rotate_left
        · cases hc
        repeat (first | refine AWp.seq ?_ | refine AWp.block ?_)
        apply AWp.reg [] []
        · conv => lhs; simp [Tm.row, Tm.rows_eq, Cs.rows_eq, psR, h1p, q2]
        · (repeat' apply And.intro) <;> first | omega | assumption | trivial | (intros; subst_vars; rfl) | (intro i r h; rcases i with _ | i <;> simp at h; subst h; rfl) | (simp [inI, maxLen]; done) | (simp [inI, maxLen]; omega)
        repeat (first | refine AWp.seq ?_ | refine AWp.block ?_)
        apply AWp.reg [] []
        · conv => lhs; simp [Tm.row, Tm.rows_eq, Cs.rows_eq, psR, h1p, q2]
        · (repeat' apply And.intro) <;> first | omega | assumption | trivial | (intros; subst_vars; rfl) | (intro i r h; rcases i with _ | i <;> simp at h; subst h; rfl) | (simp [inI, maxLen]; done) | (simp [inI, maxLen]; omega)
        refine ⟨⟨i + 1, hi1⟩, by simp; omega, ?_⟩
        dsimp only
        rw [if_pos (by assumption)] at hsn
        rw [hsn]
        exact Le.sub (by simp) (by simp)
      repeat (first | refine AWp.seq ?_ | refine AWp.block ?_)
      apply AWp.reg [] []
      · conv => lhs; simp [Tm.row, Tm.rows_eq, Cs.rows_eq, psR, h1p, q2]
      · (repeat' apply And.intro) <;> first | omega | assumption | trivial | (intros; subst_vars; rfl) | (intro i r h; rcases i with _ | i <;> simp at h; subst h; rfl) | (simp [inI, maxLen]; done) | (simp [inI, maxLen]; omega)
      repeat (first | refine AWp.seq ?_ | refine AWp.block ?_)
      refine AWp.cond rfl (fun hc => ?_) (fun hc => ?_)
      · cases hc
      refine AWp.skip ?_
      repeat (first | refine AWp.seq ?_ | refine AWp.block ?_)
      apply AWp.reg [] []
      · conv => lhs; simp [Tm.row, Tm.rows_eq, Cs.rows_eq, psR, h1p, q2]
      · (repeat' apply And.intro) <;> first | omega | assumption | trivial | (intros; subst_vars; rfl) | (intro i r h; rcases i with _ | i <;> simp at h; subst h; rfl) | (simp [inI, maxLen]; done) | (simp [inI, maxLen]; omega)
      refine ⟨⟨i + 1, hi1⟩, by simp; omega, ?_⟩
      dsimp only
      rw [if_neg (by assumption)] at hsn
      rw [hsn]
      exact Le.sub (by simp) (by simp)
    have hi1 : i = ps.length := by have := of_decide_eq_false hc; omega
    subst hi1
    clear hc
    rw [List.take_length]
    refine AWp.exit ?_
    repeat (first | refine AWp.seq ?_ | refine AWp.block ?_)
    apply AWp.reg [] []
    · conv => lhs; simp [Tm.row, Tm.rows_eq, Cs.rows_eq, psR]
    · (repeat' apply And.intro) <;> first | omega | assumption | trivial | (intros; subst_vars; rfl) | (intro i r h; rcases i with _ | i <;> simp at h; subst h; rfl) | (simp [inI, maxLen]; done) | (simp [inI, maxLen]; omega)
    refine AWp.ret ?_
    try dsimp only [thenQ, blockQ]
    apply endC.ret
    · rfl
    · conv => lhs; simp [resAV, Tryd.results61]
    · rfl
    · simp [moEnd, memGet]
  repeat (first | refine AWp.seq ?_ | refine AWp.block ?_)
  apply AWp.reg [] []
  · conv => lhs; simp [Tm.row, Tm.rows_eq, Cs.rows_eq, psR, q1]
  · (repeat' apply And.intro) <;> first | omega | assumption | trivial | (intros; subst_vars; rfl) | (intro i r h; rcases i with _ | i <;> simp at h; subst h; rfl) | (simp [inI, maxLen]; done) | (simp [inI, maxLen]; omega)
  repeat (first | refine AWp.seq ?_ | refine AWp.block ?_)
  refine AWp.cond rfl (fun hc => ?_) (fun hc => ?_)
  · cases hc
  refine AWp.skip ?_
  rw [Tm.rn, if_neg q1] at hR
  repeat (first | refine AWp.seq ?_ | refine AWp.block ?_)
  apply AWp.reg [] []
  · conv => lhs; simp [Tm.row, Tm.rows_eq, Cs.rows_eq, psR, q1]
  · (repeat' apply And.intro) <;> first | omega | assumption | trivial | (intros; subst_vars; rfl) | (intro i r h; rcases i with _ | i <;> simp at h; subst h; rfl) | (simp [inI, maxLen]; done) | (simp [inI, maxLen]; omega)
  repeat (first | refine AWp.seq ?_ | refine AWp.block ?_)
  refine AWp.le (Le.low [400] [] (fr := [(0, .ptr 1000 0), (2, .d (.sl (ps.map psR))), (4, .ptr 4 0), (6, .ptr 6 0), (7, .ptr 7 0), (42, .d (.sl (txs.map Tm.row))), (43, .d (.int (txs.length : Int))), (44, .d (.int (0 : Int)))]) (mem := [(4, some (.blk 32 [.d (.int tk), .d (.int tn), .d (.str ta), .d (.str tb), .d (strsD tvs), .d (.sl (txs.map Tm.row)), .d (.sl (tcs.map Cs.row))])), (6, some (.blk 32 [.d (.int 0), .d (.int 0), .d (.str ByteArray.empty), .d (.str ByteArray.empty), .lit (.slice none 0 0), .lit (.slice none 0 0), .lit (.slice none 0 0)])), (7, some (.blk 32 [.d (.int tk), .d (.int tn), .d (.str (ta : ByteArray)), .d (.str tb), .d (strsD tvs), .arr 400 0 ([] : List Tm).length, .lit (.slice none 0 0)])), (400, some (.arr 32 7 (([] : List Tm).map Tm.row))), (1000, some (.blk 69 [.d (.int (c : Int))]))]) rfl (by simp) (by simp)) ?_
  refine AWp.loop (σ := fun u : {u : Nat × List Tm × ByteArray × Int // u.1 ≤ txs.length ∧ (Tm.rns tk ta ps 0 txs ta c = (u.2.1 ++ (Tm.rns tk ta ps u.1 (txs.drop u.1) u.2.2.1 u.2.2.2).1, (Tm.rns tk ta ps u.1 (txs.drop u.1) u.2.2.1 u.2.2.2).2) ∧ u.2.1.length = u.1)} => ⟨118, [(0, .ptr 1000 0), (2, .d (.sl (ps.map psR))), (4, .ptr 4 0), (6, .ptr 6 0), (7, .ptr 7 0), (42, .d (.sl (txs.map Tm.row))), (43, .d (.int (txs.length : Int))), (44, .d (.int (u.1.1 : Int)))], [(4, some (.blk 32 [.d (.int tk), .d (.int tn), .d (.str ta), .d (.str tb), .d (strsD tvs), .d (.sl (txs.map Tm.row)), .d (.sl (tcs.map Cs.row))])), (6, some (.blk 32 [.d (.int 0), .d (.int 0), .d (.str ByteArray.empty), .d (.str ByteArray.empty), .lit (.slice none 0 0), .lit (.slice none 0 0), .lit (.slice none 0 0)])), (7, some (.blk 32 [.d (.int tk), .d (.int tn), .d (.str u.1.2.2.1), .d (.str tb), .d (strsD tvs), .arr 400 0 u.1.2.1.length, .lit (.slice none 0 0)])), (400, some (.arr 32 7 (u.1.2.1.map Tm.row))), (1000, some (.blk 69 [.d (.int u.1.2.2.2)]))]⟩)
    (μ := fun u => txs.length - u.1.1) ⟨(0, [], ta, c), ⟨Nat.zero_le _, ⟨by simp, rfl⟩⟩⟩ (Le.sub (by simp) (by simp)) (fun ⟨(i, ys, nm, c1), ⟨hi12, hw⟩⟩ => ?_)
  dsimp only at hi12 hw ⊢
  repeat (first | refine AWp.seq ?_ | refine AWp.block ?_)
  apply AWp.reg [] []
  · conv => lhs; simp [Tm.row, Tm.rows_eq, Cs.rows_eq, psR, q1]
  · (repeat' apply And.intro) <;> first | omega | assumption | trivial | (intros; subst_vars; rfl) | (intro i r h; rcases i with _ | i <;> simp at h; subst h; rfl) | (simp [inI, maxLen]; done) | (simp [inI, maxLen]; omega)
  repeat (first | refine AWp.seq ?_ | refine AWp.block ?_)
  refine AWp.cond rfl (fun hc => ?_) (fun hc => ?_)
  · have hi1 : i < txs.length := by have := of_decide_eq_true hc; omega
    clear hc
    have h1y : txs[i]? = some txs[i] := List.getElem?_eq_getElem hi1
    have hmy : txs[i] ∈ txs := List.getElem_mem hi1
    have hdy : txs.drop i = txs[i] :: txs.drop (i + 1) := List.drop_eq_getElem_cons hi1
    generalize txs[i] = y at h1y hmy hdy
    obtain ⟨hap, hyl⟩ := hw
    have hyR := hxR y hmy
    rw [hdy] at hap
    refine AWp.skip ?_
    by_cases hk6 : tk = 6
    · by_cases hi1e : (i : Int) = 1
      · have hi1t := eq_true hi1e
        rw [Tm.rns, if_pos ⟨hk6, by omega⟩] at hap
        obtain ⟨e, he⟩ : ∃ e : Int, e = wr (c1 + 1) := ⟨_, rfl⟩
        rw [← he] at hap
        have hfr := cs_fresh1 ta c1
        rw [← he] at hfr
        obtain ⟨v, hv⟩ : ∃ v, v = vNm e := ⟨_, rfl⟩
        rw [← hv] at hfr hap
        obtain ⟨nw, hnw⟩ : ∃ nw, nw = ps ++ [(ta, v)] := ⟨_, rfl⟩
        rw [← hnw] at hap
        have hnw2 : List.take (ps.length + 1) (List.map psR ps ++ [[D.str ta, D.str v]]) = List.map psR nw := by rw [hnw, List.map_append, List.take_of_length_le (by simp)]; rfl
        have hx := ih y nw e hyR (hxO y hmy) (by rw [hnw, List.length_append, List.length_singleton]; omega)
        generalize y.rn nw e = o at hx hap
        obtain ⟨z, c2⟩ := o
        dsimp only at hx hap
        obtain ⟨yk, yn, ya, yb, yvs, yxs, ycs⟩ := y
        obtain ⟨zk, zn, za, zb, zvs, zxs, zcs⟩ := z
        repeat (first | refine AWp.seq ?_ | refine AWp.block ?_)
        apply AWp.reg [] []
        · conv => lhs; simp [Tm.row, Tm.rows_eq, Cs.rows_eq, psR, h1y, hnw2, q1, hk6, hi1t]
        · (repeat' apply And.intro) <;> first | omega | assumption | trivial | (intros; subst_vars; rfl) | (intro i r h; rcases i with _ | i <;> simp at h; subst h; rfl) | (simp [inI, maxLen]; done) | (simp [inI, maxLen]; omega)
        repeat (first | refine AWp.seq ?_ | refine AWp.block ?_)
        apply AWp.reg [] []
        · conv => lhs; simp [Tm.row, Tm.rows_eq, Cs.rows_eq, psR, h1y, hnw2, q1, hk6, hi1t]
        · (repeat' apply And.intro) <;> first | omega | assumption | trivial | (intros; subst_vars; rfl) | (intro i r h; rcases i with _ | i <;> simp at h; subst h; rfl) | (simp [inI, maxLen]; done) | (simp [inI, maxLen]; omega)
        repeat (first | refine AWp.seq ?_ | refine AWp.block ?_)
        apply AWp.reg [] []
        · conv => lhs; simp [Tm.row, Tm.rows_eq, Cs.rows_eq, psR, h1y, hnw2, q1, hk6, hi1t]
        · (repeat' apply And.intro) <;> first | omega | assumption | trivial | (intros; subst_vars; rfl) | (intro i r h; rcases i with _ | i <;> simp at h; subst h; rfl) | (simp [inI, maxLen]; done) | (simp [inI, maxLen]; omega)
        repeat (first | refine AWp.seq ?_ | refine AWp.block ?_)
        refine AWp.cond rfl (fun hc => ?_) (fun hc => ?_)
        rotate_left
        · cases hc
        repeat (first | refine AWp.seq ?_ | refine AWp.block ?_)
        apply AWp.reg [3] [.c [] [.ptr 1000 0, .d (.sl [[.str ta]])] [(1000, .blk 69 [.d (.int c1)])] (.tuple [.d (.sl [[.str v]]), .d (.sl [[.str ta, .str v]])]) [(1000, .blk 69 [.d (.int e)])]]
        · conv => lhs; simp [Tm.row, Tm.rows_eq, Cs.rows_eq, psR, h1y, hnw2, q1, hk6, hi1t]
        · (repeat' apply And.intro) <;> first | omega | assumption | trivial | (intros; subst_vars; rfl) | (intro i r h; rcases i with _ | i <;> simp at h; subst h; rfl) | (simp [inI, maxLen]; done) | (simp [inI, maxLen]; omega)
        repeat (first | refine AWp.seq ?_ | refine AWp.block ?_)
        apply AWp.reg [] []
        · conv => lhs; simp [Tm.row, Tm.rows_eq, Cs.rows_eq, psR, h1y, hnw2, q1, hk6, hi1t]
        · (repeat' apply And.intro) <;> first | omega | assumption | trivial | (intros; subst_vars; rfl) | (intro i r h; rcases i with _ | i <;> simp at h; subst h; rfl) | (simp [inI, maxLen]; done) | (simp [inI, maxLen]; omega)
        repeat (first | refine AWp.seq ?_ | refine AWp.block ?_)
        apply AWp.reg [4] []
        · conv => lhs; simp [Tm.row, Tm.rows_eq, Cs.rows_eq, psR, h1y, hnw2, q1, hk6, hi1t]
        · (repeat' apply And.intro) <;> first | omega | assumption | trivial | (intros; subst_vars; rfl) | (intro i r h; rcases i with _ | i <;> simp at h; subst h; rfl) | (simp [inI, maxLen]; done) | (simp [inI, maxLen]; omega)
        repeat (first | refine AWp.seq ?_ | refine AWp.block ?_)
        apply AWp.draw [] [.c [] [.ptr 1000 0, .agg [.d (.int yk), .d (.int yn), .d (.str ya), .d (.str yb), .d (strsD yvs), .d (.sl (yxs.map Tm.row)), .d (.sl (ycs.map Cs.row))], .d (.sl (nw.map psR))] [(1000, .blk 69 [.d (.int e)])] (.agg [.d (.int zk), .d (.int zn), .d (.str za), .d (.str zb), .d (strsD zvs), .d (.sl (zxs.map Tm.row)), .d (.sl (zcs.map Cs.row))]) [(1000, .blk 69 [.d (.int c2)])]] mixed
        · conv => lhs; simp [Tm.row, Tm.rows_eq, Cs.rows_eq, psR, h1y, hnw2, q1, hk6, hi1t]
        · kernel_rfl
        · (repeat' apply And.intro) <;> first | omega | assumption | trivial | (intros; subst_vars; rfl) | (intro i r h; rcases i with _ | i <;> simp at h; subst h; rfl) | (simp [inI, maxLen]; done) | (simp [inI, maxLen]; omega)
        repeat (first | refine AWp.seq ?_ | refine AWp.block ?_)
        apply AWp.reg [] []
        · conv => lhs; simp [Tm.row, Tm.rows_eq, Cs.rows_eq, psR, h1y, hnw2, q1, hk6, hi1t]
        · (repeat' apply And.intro) <;> first | omega | assumption | trivial | (intros; subst_vars; rfl) | (intro i r h; rcases i with _ | i <;> simp at h; subst h; rfl) | (simp [inI, maxLen]; done) | (simp [inI, maxLen]; omega)
        refine ⟨⟨(i + 1, ys ++ [.mk zk zn za zb zvs zxs zcs], v, c2), hi1, ⟨by rw [hap]; simp, by simp [hyl]⟩⟩, by simp; omega, ?_⟩
        dsimp only
        exact Le.sub (by simp [Tm.row, Tm.rows_eq, Cs.rows_eq, hyl, hk6]) (by simp [Tm.row, Tm.rows_eq, Cs.rows_eq, hyl, hk6])
      have hi1n := hi1e
      rw [Tm.rns, if_neg (fun h => hi1e (by have := h.2; omega))] at hap
      have hx := ih y ps c1 hyR (hxO y hmy) (by omega)
      generalize y.rn ps c1 = o at hx hap
      obtain ⟨z, c2⟩ := o
      dsimp only at hx hap
      obtain ⟨yk, yn, ya, yb, yvs, yxs, ycs⟩ := y
      obtain ⟨zk, zn, za, zb, zvs, zxs, zcs⟩ := z
      repeat (first | refine AWp.seq ?_ | refine AWp.block ?_)
      apply AWp.reg [] []
      · conv => lhs; simp [Tm.row, Tm.rows_eq, Cs.rows_eq, psR, h1y, q1, hk6, hi1n]
      · (repeat' apply And.intro) <;> first | omega | assumption | trivial | (intros; subst_vars; rfl) | (intro i r h; rcases i with _ | i <;> simp at h; subst h; rfl) | (simp [inI, maxLen]; done) | (simp [inI, maxLen]; omega)
      repeat (first | refine AWp.seq ?_ | refine AWp.block ?_)
      apply AWp.reg [] []
      · conv => lhs; simp [Tm.row, Tm.rows_eq, Cs.rows_eq, psR, h1y, q1, hk6, hi1n]
      · (repeat' apply And.intro) <;> first | omega | assumption | trivial | (intros; subst_vars; rfl) | (intro i r h; rcases i with _ | i <;> simp at h; subst h; rfl) | (simp [inI, maxLen]; done) | (simp [inI, maxLen]; omega)
      repeat (first | refine AWp.seq ?_ | refine AWp.block ?_)
      apply AWp.reg [] []
      · conv => lhs; simp [Tm.row, Tm.rows_eq, Cs.rows_eq, psR, h1y, q1, hk6, hi1n]
      · (repeat' apply And.intro) <;> first | omega | assumption | trivial | (intros; subst_vars; rfl) | (intro i r h; rcases i with _ | i <;> simp at h; subst h; rfl) | (simp [inI, maxLen]; done) | (simp [inI, maxLen]; omega)
      repeat (first | refine AWp.seq ?_ | refine AWp.block ?_)
      refine AWp.cond rfl (fun hc => ?_) (fun hc => ?_)
      · cases hc
      refine AWp.skip ?_
      repeat (first | refine AWp.seq ?_ | refine AWp.block ?_)
      apply AWp.draw [] [.c [] [.ptr 1000 0, .agg [.d (.int yk), .d (.int yn), .d (.str ya), .d (.str yb), .d (strsD yvs), .d (.sl (yxs.map Tm.row)), .d (.sl (ycs.map Cs.row))], .d (.sl (ps.map psR))] [(1000, .blk 69 [.d (.int c1)])] (.agg [.d (.int zk), .d (.int zn), .d (.str za), .d (.str zb), .d (strsD zvs), .d (.sl (zxs.map Tm.row)), .d (.sl (zcs.map Cs.row))]) [(1000, .blk 69 [.d (.int c2)])]] mixed
      · conv => lhs; simp [Tm.row, Tm.rows_eq, Cs.rows_eq, psR, h1y, q1, hk6, hi1n]
      · kernel_rfl
      · (repeat' apply And.intro) <;> first | omega | assumption | trivial | (intros; subst_vars; rfl) | (intro i r h; rcases i with _ | i <;> simp at h; subst h; rfl) | (simp [inI, maxLen]; done) | (simp [inI, maxLen]; omega)
      repeat (first | refine AWp.seq ?_ | refine AWp.block ?_)
      apply AWp.reg [] []
      · conv => lhs; simp [Tm.row, Tm.rows_eq, Cs.rows_eq, psR, h1y, q1, hk6, hi1n]
      · (repeat' apply And.intro) <;> first | omega | assumption | trivial | (intros; subst_vars; rfl) | (intro i r h; rcases i with _ | i <;> simp at h; subst h; rfl) | (simp [inI, maxLen]; done) | (simp [inI, maxLen]; omega)
      refine ⟨⟨(i + 1, ys ++ [.mk zk zn za zb zvs zxs zcs], nm, c2), hi1, ⟨by rw [hap]; simp, by simp [hyl]⟩⟩, by simp; omega, ?_⟩
      dsimp only
      exact Le.sub (by simp [Tm.row, Tm.rows_eq, Cs.rows_eq, hyl, hk6]) (by simp [Tm.row, Tm.rows_eq, Cs.rows_eq, hyl, hk6])
    rw [Tm.rns, if_neg (fun h => hk6 h.1)] at hap
    have hx := ih y ps c1 hyR (hxO y hmy) (by omega)
    generalize y.rn ps c1 = o at hx hap
    obtain ⟨z, c2⟩ := o
    dsimp only at hx hap
    obtain ⟨yk, yn, ya, yb, yvs, yxs, ycs⟩ := y
    obtain ⟨zk, zn, za, zb, zvs, zxs, zcs⟩ := z
    repeat (first | refine AWp.seq ?_ | refine AWp.block ?_)
    apply AWp.reg [] []
    · conv => lhs; simp [Tm.row, Tm.rows_eq, Cs.rows_eq, psR, h1y, q1, hk6]
    · (repeat' apply And.intro) <;> first | omega | assumption | trivial | (intros; subst_vars; rfl) | (intro i r h; rcases i with _ | i <;> simp at h; subst h; rfl) | (simp [inI, maxLen]; done) | (simp [inI, maxLen]; omega)
    repeat (first | refine AWp.seq ?_ | refine AWp.block ?_)
    apply AWp.reg [] []
    · conv => lhs; simp [Tm.row, Tm.rows_eq, Cs.rows_eq, psR, h1y, q1, hk6]
    · (repeat' apply And.intro) <;> first | omega | assumption | trivial | (intros; subst_vars; rfl) | (intro i r h; rcases i with _ | i <;> simp at h; subst h; rfl) | (simp [inI, maxLen]; done) | (simp [inI, maxLen]; omega)
    repeat (first | refine AWp.seq ?_ | refine AWp.block ?_)
    apply AWp.reg [] []
    · conv => lhs; simp [Tm.row, Tm.rows_eq, Cs.rows_eq, psR, h1y, q1, hk6]
    · (repeat' apply And.intro) <;> first | omega | assumption | trivial | (intros; subst_vars; rfl) | (intro i r h; rcases i with _ | i <;> simp at h; subst h; rfl) | (simp [inI, maxLen]; done) | (simp [inI, maxLen]; omega)
    repeat (first | refine AWp.seq ?_ | refine AWp.block ?_)
    refine AWp.cond rfl (fun hc => ?_) (fun hc => ?_)
    · cases hc
    refine AWp.skip ?_
    repeat (first | refine AWp.seq ?_ | refine AWp.block ?_)
    apply AWp.draw [] [.c [] [.ptr 1000 0, .agg [.d (.int yk), .d (.int yn), .d (.str ya), .d (.str yb), .d (strsD yvs), .d (.sl (yxs.map Tm.row)), .d (.sl (ycs.map Cs.row))], .d (.sl (ps.map psR))] [(1000, .blk 69 [.d (.int c1)])] (.agg [.d (.int zk), .d (.int zn), .d (.str za), .d (.str zb), .d (strsD zvs), .d (.sl (zxs.map Tm.row)), .d (.sl (zcs.map Cs.row))]) [(1000, .blk 69 [.d (.int c2)])]] mixed
    · conv => lhs; simp [Tm.row, Tm.rows_eq, Cs.rows_eq, psR, h1y, q1, hk6]
    · kernel_rfl
    · (repeat' apply And.intro) <;> first | omega | assumption | trivial | (intros; subst_vars; rfl) | (intro i r h; rcases i with _ | i <;> simp at h; subst h; rfl) | (simp [inI, maxLen]; done) | (simp [inI, maxLen]; omega)
    repeat (first | refine AWp.seq ?_ | refine AWp.block ?_)
    apply AWp.reg [] []
    · conv => lhs; simp [Tm.row, Tm.rows_eq, Cs.rows_eq, psR, h1y, q1, hk6]
    · (repeat' apply And.intro) <;> first | omega | assumption | trivial | (intros; subst_vars; rfl) | (intro i r h; rcases i with _ | i <;> simp at h; subst h; rfl) | (simp [inI, maxLen]; done) | (simp [inI, maxLen]; omega)
    refine ⟨⟨(i + 1, ys ++ [.mk zk zn za zb zvs zxs zcs], nm, c2), hi1, ⟨by rw [hap]; simp, by simp [hyl]⟩⟩, by simp; omega, ?_⟩
    dsimp only
    exact Le.sub (by simp [Tm.row, Tm.rows_eq, Cs.rows_eq, hyl]) (by simp [Tm.row, Tm.rows_eq, Cs.rows_eq, hyl])
  have hi1 : i = txs.length := by have := of_decide_eq_false hc; omega
  subst hi1
  clear hc
  obtain ⟨hap, hyl⟩ := hw
  rw [List.drop_length, Tm.rns] at hap
  simp only [List.append_nil] at hap
  rw [hap] at hR
  dsimp only at hR
  clear hap
  refine AWp.exit ?_
  repeat (first | refine AWp.seq ?_ | refine AWp.block ?_)
  apply AWp.reg [] []
  · conv => lhs; simp [Tm.row, Tm.rows_eq, Cs.rows_eq, psR, q1]
  · (repeat' apply And.intro) <;> first | omega | assumption | trivial | (intros; subst_vars; rfl) | (intro i r h; rcases i with _ | i <;> simp at h; subst h; rfl) | (simp [inI, maxLen]; done) | (simp [inI, maxLen]; omega)
  repeat (first | refine AWp.seq ?_ | refine AWp.block ?_)
  refine AWp.le (Le.low [401] [] (fr := [(0, .ptr 1000 0), (2, .d (.sl (ps.map psR))), (6, .ptr 6 0), (7, .ptr 7 0), (85, .d (.sl (tcs.map Cs.row))), (86, .d (.int (tcs.length : Int))), (87, .d (.int (0 : Int)))]) (mem := [(6, some (.blk 32 [.d (.int 0), .d (.int 0), .d (.str ByteArray.empty), .d (.str ByteArray.empty), .lit (.slice none 0 0), .lit (.slice none 0 0), .lit (.slice none 0 0)])), (7, some (.blk 32 [.d (.int tk), .d (.int tn), .d (.str nm), .d (.str tb), .d (strsD tvs), .arr 400 0 ys.length, .arr 401 0 ([] : List Cs).length])), (400, some (.arr 32 7 (ys.map Tm.row))), (401, some (.arr 50 9 (([] : List Cs).map Cs.row))), (1000, some (.blk 69 [.d (.int (c1 : Int))]))]) rfl (by simp) (by simp)) ?_
  refine AWp.loop (σ := fun u : {u : Nat × List Cs × Int // u.1 ≤ tcs.length ∧ (Cs.rnL tcs ps c1 = (u.2.1 ++ (Cs.rnL (tcs.drop u.1) ps u.2.2).1, (Cs.rnL (tcs.drop u.1) ps u.2.2).2) ∧ u.2.1.length = u.1)} => ⟨118, [(0, .ptr 1000 0), (2, .d (.sl (ps.map psR))), (6, .ptr 6 0), (7, .ptr 7 0), (85, .d (.sl (tcs.map Cs.row))), (86, .d (.int (tcs.length : Int))), (87, .d (.int (u.1.1 : Int)))], [(6, some (.blk 32 [.d (.int 0), .d (.int 0), .d (.str ByteArray.empty), .d (.str ByteArray.empty), .lit (.slice none 0 0), .lit (.slice none 0 0), .lit (.slice none 0 0)])), (7, some (.blk 32 [.d (.int tk), .d (.int tn), .d (.str nm), .d (.str tb), .d (strsD tvs), .arr 400 0 ys.length, .arr 401 0 u.1.2.1.length])), (400, some (.arr 32 7 (ys.map Tm.row))), (401, some (.arr 50 9 (u.1.2.1.map Cs.row))), (1000, some (.blk 69 [.d (.int u.1.2.2)]))]⟩)
    (μ := fun u => tcs.length - u.1.1) ⟨(0, [], c1), ⟨Nat.zero_le _, ⟨by simp, rfl⟩⟩⟩ (Le.sub (by simp) (by simp)) (fun ⟨(i, ds, c3), ⟨hi22, hw2⟩⟩ => ?_)
  dsimp only at hi22 hw2 ⊢
  repeat (first | refine AWp.seq ?_ | refine AWp.block ?_)
  apply AWp.reg [] []
  · conv => lhs; simp [Tm.row, Tm.rows_eq, Cs.rows_eq, psR, q1]
  · (repeat' apply And.intro) <;> first | omega | assumption | trivial | (intros; subst_vars; rfl) | (intro i r h; rcases i with _ | i <;> simp at h; subst h; rfl) | (simp [inI, maxLen]; done) | (simp [inI, maxLen]; omega)
  repeat (first | refine AWp.seq ?_ | refine AWp.block ?_)
  refine AWp.cond rfl (fun hc => ?_) (fun hc => ?_)
  · have hi1 : i < tcs.length := by have := of_decide_eq_true hc; omega
    clear hc
    have h1d : tcs[i]? = some tcs[i] := List.getElem?_eq_getElem hi1
    have hmd : tcs[i] ∈ tcs := List.getElem_mem hi1
    have hdd : tcs.drop i = tcs[i] :: tcs.drop (i + 1) := List.drop_eq_getElem_cons hi1
    generalize tcs[i] = d at h1d hmd hdd
    obtain ⟨hap, hdl⟩ := hw2
    rw [hdd, Cs.rnL] at hap
    have hdR := hcR d hmd
    obtain ⟨dt, dws, y⟩ := d
    obtain ⟨hw6, hyR⟩ := hdR
    dsimp only at hw6 hyR
    rw [Cs.rn] at hap
    have hfr := cs_fresh dws c3 hw6
    obtain ⟨e, he⟩ : ∃ e : Int, e = freshC dws c3 := ⟨_, rfl⟩
    rw [← he] at hfr hap
    have hul := freshL_len dws c3
    generalize freshL dws c3 = us at hfr hap hul
    have hpxl : (dws.zip us).length = dws.length := by rw [List.length_zip]; omega
    generalize dws.zip us = PX at hfr hap hpxl
    obtain ⟨nw, hnw⟩ : ∃ nw, nw = ps ++ PX := ⟨_, rfl⟩
    rw [← hnw] at hap
    have hnw2 : List.take (ps.length + PX.length) (List.map psR ps ++ List.map psR PX) = List.map psR nw := by rw [hnw, List.map_append, List.take_of_length_le (by simp)]
    have hx := ih y nw e hyR (Cs.Oks_iff.1 hO.2.2.2 _ hmd).2.2 (by rw [hnw, List.length_append]; omega)
    generalize y.rn nw e = o at hx hap
    obtain ⟨z, c2⟩ := o
    dsimp only at hx hap
    obtain ⟨dk, dn, da, db, dvs, dxs, dcs⟩ := y
    obtain ⟨zk, zn, za, zb, zvs, zxs, zcs⟩ := z
    refine AWp.skip ?_
    repeat (first | refine AWp.seq ?_ | refine AWp.block ?_)
    apply AWp.reg [] []
    · conv => lhs; simp [Tm.row, Tm.rows_eq, Cs.rows_eq, psR, h1d, Cs.row, hnw2, q1]
    · (repeat' apply And.intro) <;> first | omega | assumption | trivial | (intros; subst_vars; rfl) | (intro i r h; rcases i with _ | i <;> simp at h; subst h; rfl) | (simp [inI, maxLen]; done) | (simp [inI, maxLen]; omega)
    repeat (first | refine AWp.seq ?_ | refine AWp.block ?_)
    apply AWp.reg [] [.c [] [.ptr 1000 0, .d (strsD dws)] [(1000, .blk 69 [.d (.int c3)])] (.tuple [.d (strsD us), .d (.sl (PX.map psR))]) [(1000, .blk 69 [.d (.int e)])]]
    · conv => lhs; simp [Tm.row, Tm.rows_eq, Cs.rows_eq, psR, h1d, Cs.row, hnw2, q1]
    · (repeat' apply And.intro) <;> first | omega | assumption | trivial | (intros; subst_vars; rfl) | (intro i r h; rcases i with _ | i <;> simp at h; subst h; rfl) | (simp [inI, maxLen]; done) | (simp [inI, maxLen]; omega)
    repeat (first | refine AWp.seq ?_ | refine AWp.block ?_)
    apply AWp.draw [12] [.c [] [.ptr 1000 0, .agg [.d (.int dk), .d (.int dn), .d (.str da), .d (.str db), .d (strsD dvs), .d (.sl (dxs.map Tm.row)), .d (.sl (dcs.map Cs.row))], .d (.sl (nw.map psR))] [(1000, .blk 69 [.d (.int e)])] (.agg [.d (.int zk), .d (.int zn), .d (.str za), .d (.str zb), .d (strsD zvs), .d (.sl (zxs.map Tm.row)), .d (.sl (zcs.map Cs.row))]) [(1000, .blk 69 [.d (.int c2)])]] mixed
    · conv => lhs; simp [Tm.row, Tm.rows_eq, Cs.rows_eq, psR, h1d, Cs.row, hnw2, q1]
    · kernel_rfl
    · (repeat' apply And.intro) <;> first | omega | assumption | trivial | (intros; subst_vars; rfl) | (intro i r h; rcases i with _ | i <;> simp at h; subst h; rfl) | (simp [inI, maxLen]; done) | (simp [inI, maxLen]; omega)
    repeat (first | refine AWp.seq ?_ | refine AWp.block ?_)
    apply AWp.reg [] []
    · conv => lhs; simp [Tm.row, Tm.rows_eq, Cs.rows_eq, psR, h1d, Cs.row, hnw2, q1]
    · (repeat' apply And.intro) <;> first | omega | assumption | trivial | (intros; subst_vars; rfl) | (intro i r h; rcases i with _ | i <;> simp at h; subst h; rfl) | (simp [inI, maxLen]; done) | (simp [inI, maxLen]; omega)
    refine ⟨⟨(i + 1, ds ++ [.mk dt us (.mk zk zn za zb zvs zxs zcs)], c2), hi1, ⟨by rw [hap]; simp, by simp [hdl]⟩⟩, by simp; omega, ?_⟩
    dsimp only
    exact Le.sub (by simp [Cs.row, Tm.row, Tm.rows_eq, Cs.rows_eq, hdl]) (by simp [Cs.row, Tm.row, Tm.rows_eq, Cs.rows_eq, hdl])
  have hi1 : i = tcs.length := by have := of_decide_eq_false hc; omega
  subst hi1
  clear hc
  obtain ⟨hap, hdl⟩ := hw2
  rw [List.drop_length, Cs.rnL] at hap
  simp only [List.append_nil] at hap
  rw [hap] at hR
  dsimp only at hR
  subst hR
  refine AWp.exit ?_
  repeat (first | refine AWp.seq ?_ | refine AWp.block ?_)
  apply AWp.reg [] []
  · conv => lhs; simp [Tm.row, Tm.rows_eq, Cs.rows_eq, psR, q1]
  · (repeat' apply And.intro) <;> first | omega | assumption | trivial | (intros; subst_vars; rfl) | (intro i r h; rcases i with _ | i <;> simp at h; subst h; rfl) | (simp [inI, maxLen]; done) | (simp [inI, maxLen]; omega)
  refine AWp.ret ?_
  try dsimp only [thenQ, blockQ]
  apply endC.retF [400, 401]
  · rfl
  · conv => lhs; simp
  · conv => lhs; simp [resAV, Tryd.results61]
  · rfl
  · simp [moEnd, memGet]

theorem rn_all : ∀ N, RnE N
  | 0 => fun _ _ _ h => h.elim
  | N + 1 => rn_step N (rn_all N)
end Go.Proofs.YtialccgjbanmcaaDoor
