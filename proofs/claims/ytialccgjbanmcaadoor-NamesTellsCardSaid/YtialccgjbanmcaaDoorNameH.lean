/- names.Alike. Printed by a small program. -/
import Derived.Test.YtialccgjbanmcaaDoorNameG
import Derived.Test.YtialccgjbanmcaaDoorScopeC
namespace Go.Proofs.YtialccgjbanmcaaDoor
open Go.RowKit
attribute [local simp] runD mkRc ldOf ldArg noAny dstOk guardOk opEff opEff0 effOp pureOp callOp zEff evA constAV frGet memGet startAS frOf isGoCall idIn AS.after nextR opnIds objIds AV.ids idsL AObj.ids frNo memNo opnAny isAny mkVal rdCells wrCells fldAddr idxAddr srcRows litRows toD1 toDs setAt sliceAV optI partAV bldAV fillAV binAV binI AV.cells callEff calleeOf frKill memKill AV.kill AObj.kill AV.has AV.hasL Op.operands Call.operands keepF keepM viewIds cChk renOf moGet moWs moQ cEff moLike moHave AV.ren renL AObj.ren AObj.like kept startC moMem AV.frz frz1 frzL frSub memSub frzs AS.frz frFrz memFrz AObj.frz takeMap takeLen bleF Nat.ble_eq memAny objAny mapOp D.keyOk rowAV valRow extOp wrapOp phO
set_option linter.unusedVariables false
set_option linter.unusedSimpArgs false

set_option maxRecDepth 20000 in
set_option maxHeartbeats 16000000 in
theorem sp_Alike (f g : Fn) (hf : f.body.Ok ∧ f.body.Rt 25 ∧ f.params.length ≤ 6) (hg : g.body.Ok ∧ g.body.Rt 25 ∧ g.params.length ≤ 6) (hO : f.rn.body.Ok) : PSpec Tryd.prog 27 [fnAV f, fnAV g] (fun _ => .d (.bool (eqB f.rn g.rn))) none := by
  have hx := sp_NFn f hf.1 hf.2.1 hf.2.2
  have hy := sp_NFn g hg.1 hg.2.1 hg.2.2
  have hpl : f.rn.params.length ≤ 6 := by unfold Fn.rn; dsimp only; rw [freshL_len]; exact hf.2.2
  generalize hp : f.rn = p at hx hO hpl ⊢
  generalize hq : g.rn = q at hy ⊢
  obtain ⟨B, hB⟩ : ∃ B, B = eqB p q := ⟨_, rfl⟩
  rw [← hB]
  obtain ⟨pg, pps, py⟩ := p
  obtain ⟨qg, qps, qy⟩ := q
  dsimp only at hO hpl
  have he := sp_Equal pps qps (by omega)
  have hs := sp_scSame py qy hO
  obtain ⟨E1, hE1⟩ : ∃ E, E = eqB pps qps := ⟨_, rfl⟩
  obtain ⟨E2, hE2⟩ : ∃ E, E = eqB py qy := ⟨_, rfl⟩
  rw [← hE1] at he
  rw [← hE2] at hs
  obtain ⟨ag, aps, ⟨ak, an, aa, ab, avs, axs, acs⟩⟩ := f
  obtain ⟨bg, bps, ⟨bk, bn, ba, bb, bvs, bxs, bcs⟩⟩ := g
  obtain ⟨pk, pn, pa, pb, pvs, pxs, pcs⟩ := py
  obtain ⟨qk, qn, qa, qb, qvs, qxs, qcs⟩ := qy
  dsimp only [fnAV] at hx hy
  refine PSpec.of Tryd.func27 rfl rfl rfl (Nat.le_of_ble_eq_true rfl) ?_
  show AWp _ _ (endQ _ Tryd.f27 _ _ _) (startAS 30 _)
  repeat (first | refine AWp.seq ?_ | refine AWp.block ?_)
  apply AWp.reg [] []
  · conv => lhs; simp [fnAV, Tm.row, Tm.rows_eq, Cs.rows_eq]
  · (repeat' apply And.intro) <;> first | omega | assumption | trivial | (intros; subst_vars; rfl) | (intro i r h; rcases i with _ | i <;> simp at h; subst h; rfl) | (simp [inI, maxLen]; done) | (simp [inI, maxLen]; omega)
  repeat (first | refine AWp.seq ?_ | refine AWp.block ?_)
  apply AWp.draw [] [.p (fun _ => .agg [.d (.str pg), .d (strsD pps), .d (.int pk), .d (.int pn), .d (.str pa), .d (.str pb), .d (strsD pvs), .d (.sl (pxs.map Tm.row)), .d (.sl (pcs.map Cs.row))]) none, .p (fun _ => .agg [.d (.str qg), .d (strsD qps), .d (.int qk), .d (.int qn), .d (.str qa), .d (.str qb), .d (strsD qvs), .d (.sl (qxs.map Tm.row)), .d (.sl (qcs.map Cs.row))]) none] mixed
  · conv => lhs; simp [fnAV, Tm.row, Tm.rows_eq, Cs.rows_eq]
  · kernel_rfl
  · (repeat' apply And.intro) <;> first | omega | assumption | trivial | (intros; subst_vars; rfl) | (intro i r h; rcases i with _ | i <;> simp at h; subst h; rfl) | (simp [inI, maxLen]; done) | (simp [inI, maxLen]; omega)
  by_cases q1 : pg = qg
  · cases E1 with
    | true =>
      repeat (first | refine AWp.seq ?_ | refine AWp.block ?_)
      apply AWp.reg [] [.p (fun _ => .d (.bool true)) none, .p (fun _ => .d (.bool E2)) none]
      · conv => lhs; simp [fnAV, Tm.row, Tm.rows_eq, Cs.rows_eq, q1]
      · (repeat' apply And.intro) <;> first | omega | assumption | trivial | (intros; subst_vars; rfl) | (intro i r h; rcases i with _ | i <;> simp at h; subst h; rfl) | (simp [inI, maxLen]; done) | (simp [inI, maxLen]; omega)
      refine AWp.ret ?_
      have h1 := eqB_iff.1 hE1.symm
      obtain rfl : B = E2 := by
        rw [hB, hE2, Bool.eq_iff_iff, eqB_iff, eqB_iff, q1, h1]
        constructor
        · intro h; injection h
        · intro h; rw [h]
      try dsimp only [thenQ, blockQ]
      apply endQ.ret
      · rfl
      · conv => lhs; simp [resAV, Tryd.results27]
      rfl
    | false =>
      repeat (first | refine AWp.seq ?_ | refine AWp.block ?_)
      apply AWp.reg [] [.p (fun _ => .d (.bool false)) none]
      · conv => lhs; simp [fnAV, Tm.row, Tm.rows_eq, Cs.rows_eq, q1]
      · (repeat' apply And.intro) <;> first | omega | assumption | trivial | (intros; subst_vars; rfl) | (intro i r h; rcases i with _ | i <;> simp at h; subst h; rfl) | (simp [inI, maxLen]; done) | (simp [inI, maxLen]; omega)
      refine AWp.ret ?_
      obtain rfl : B = false := by
        rw [hB]
        refine eqB_ne fun h => ?_
        have h2 : pps = qps := by injection h
        rw [eqB_iff.2 h2] at hE1
        cases hE1
      try dsimp only [thenQ, blockQ]
      apply endQ.ret
      · rfl
      · conv => lhs; simp [resAV, Tryd.results27]
      rfl
  repeat (first | refine AWp.seq ?_ | refine AWp.block ?_)
  apply AWp.reg [] []
  · conv => lhs; simp [fnAV, Tm.row, Tm.rows_eq, Cs.rows_eq, q1]
  · (repeat' apply And.intro) <;> first | omega | assumption | trivial | (intros; subst_vars; rfl) | (intro i r h; rcases i with _ | i <;> simp at h; subst h; rfl) | (simp [inI, maxLen]; done) | (simp [inI, maxLen]; omega)
  refine AWp.ret ?_
  obtain rfl : B = false := by rw [hB]; exact eqB_ne fun h => q1 (by injection h)
  try dsimp only [thenQ, blockQ]
  apply endQ.ret
  · rfl
  · conv => lhs; simp [resAV, Tryd.results27]
  rfl

end Go.Proofs.YtialccgjbanmcaaDoor
