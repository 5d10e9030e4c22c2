/- xclaw4.NamesTells. Printed by a small program. -/
import Derived.Test.YtialccgjbanmcaaDoorNameI
import Derived.Test.YtialccgjbanmcaaDoorCheckD
import Derived.Test.YtialccgjbanmcaaDoorCheckP
import Derived.Test.YtialccgjbanmcaaDoorScopeB
namespace Go.Proofs.YtialccgjbanmcaaDoor
open Go.RowKit
attribute [local simp] runD mkRc ldOf ldArg noAny dstOk guardOk opEff opEff0 effOp pureOp callOp zEff evA constAV frGet memGet startAS frOf isGoCall idIn AS.after nextR opnIds objIds AV.ids idsL AObj.ids frNo memNo opnAny isAny mkVal rdCells wrCells fldAddr idxAddr srcRows litRows toD1 toDs setAt sliceAV optI partAV bldAV fillAV binAV binI AV.cells callEff calleeOf frKill memKill AV.kill AObj.kill AV.has AV.hasL Op.operands Call.operands keepF keepM viewIds cChk renOf moGet moWs moQ cEff moLike moHave AV.ren renL AObj.ren AObj.like kept startC moMem AV.frz frz1 frzL frSub memSub frzs AS.frz frFrz memFrz AObj.frz takeMap takeLen bleF Nat.ble_eq memAny objAny mapOp D.keyOk rowAV valRow extOp wrapOp phO
set_option linter.unusedVariables false
set_option linter.unusedSimpArgs false

theorem eqB_single {α : Type} (a b : α) : eqB [a] [b] = eqB a b := by
  rw [Bool.eq_iff_iff, eqB_iff, eqB_iff]
  simp
theorem right_all {l : List Fn} (hl : FnsOk l) (h : checkE l = 0) : ∀ f ∈ l, f.body.Ok ∧ f.body.Rt 25 ∧ f.params.length ≤ 6 := fun f hf => by
  have hr := (check_zero h).2.2.2 f hf
  exact ⟨(hl.all f hf).body, wrong_rt _ 25 _ _ 0 (by omega) hr.wrong, hr.params⟩
set_option maxRecDepth 20000 in
set_option maxHeartbeats 16000000 in
theorem sp_NamesTells (l m : List Fn) (hl : FnsOk l) (hm : FnsOk m) : PSpec Tryd.prog 5 [fnsAV l, fnsAV m] (fun _ => .d (.bool true)) none := by
  have hll := hl.len
  have hkl := sp_refCheck l hl
  have hkm := sp_refCheck m hm
  obtain ⟨cl, hcl⟩ : ∃ c, c = checkE l := ⟨_, rfl⟩
  obtain ⟨cm, hcm⟩ : ∃ c, c = checkE m := ⟨_, rfl⟩
  rw [← hcl] at hkl
  rw [← hcm] at hkm
  refine PSpec.of Tryd.func5 rfl rfl rfl (Nat.le_of_ble_eq_true rfl) ?_
  show AWp _ _ (endQ _ Tryd.f5 _ _ _) (startAS 60 _)
  repeat (first | refine AWp.seq ?_ | refine AWp.block ?_)
  apply AWp.reg [] []
  · conv => lhs; simp [Fn.row, Tm.row, Tm.rows_eq, Cs.rows_eq]
  · (repeat' apply And.intro) <;> first | omega | assumption | trivial | (intros; subst_vars; rfl) | (intro i r h; rcases i with _ | i <;> simp at h; subst h; rfl) | (simp [inI, maxLen]; done) | (simp [inI, maxLen]; omega)
  by_cases hc1 : cl = 0
  · subst hc1
    by_cases hc2 : cm = 0
    · subst hc2
      repeat (first | refine AWp.seq ?_ | refine AWp.block ?_)
      apply AWp.reg [] [.p (fun _ => .d (.int 0)) none, .p (fun _ => .d (.int 0)) none]
      · conv => lhs; simp [Fn.row, Tm.row, Tm.rows_eq, Cs.rows_eq]
      · (repeat' apply And.intro) <;> first | omega | assumption | trivial | (intros; subst_vars; rfl) | (intro i r h; rcases i with _ | i <;> simp at h; subst h; rfl) | (simp [inI, maxLen]; done) | (simp [inI, maxLen]; omega)
      repeat (first | refine AWp.seq ?_ | refine AWp.block ?_)
      refine AWp.cond rfl (fun hc => ?_) (fun hc => ?_)
      · cases hc
      refine AWp.skip ?_
      have hal := right_all hl hcl.symm
      have ham := right_all hm hcm.symm
      have hA := sp_All l hl.len hal
      have hE := sp_EachNamed l hl.len hal
      have hokG : ∀ f ∈ l.map Fn.rn, f.body.Ok ∧ f.params.length ≤ 8796093022207 := fun f hf => by
        obtain ⟨g, hg, rfl⟩ := List.mem_map.1 hf
        obtain ⟨k1, k2, k3⟩ := hal g hg
        exact ⟨Fn.rn_ok g k1 k2, by rw [Fn.rn]; dsimp only; rw [freshL_len]; omega⟩
      have hS := sp_SameFns (l.map Fn.rn) (l.map Fn.rn) (by rw [List.length_map]; exact hl.len) hokG
      rw [eqB_self] at hS
      generalize l.map Fn.rn = G at hA hE hS
      repeat (first | refine AWp.seq ?_ | refine AWp.block ?_)
      apply AWp.reg [] [.p (fun _ => .d (.sl (G.map Fn.row))) none, .p (fun _ => .d (.sl (G.map Fn.row))) none, .p (fun _ => .d (.bool true)) none]
      · conv => lhs; simp [Fn.row, Tm.row, Tm.rows_eq, Cs.rows_eq]
      · (repeat' apply And.intro) <;> first | omega | assumption | trivial | (intros; subst_vars; rfl) | (intro i r h; rcases i with _ | i <;> simp at h; subst h; rfl) | (simp [inI, maxLen]; done) | (simp [inI, maxLen]; omega)
      repeat (first | refine AWp.seq ?_ | refine AWp.block ?_)
      refine AWp.cond rfl (fun hc => ?_) (fun hc => ?_)
      · cases hc
      refine AWp.skip ?_
      repeat (first | refine AWp.seq ?_ | refine AWp.block ?_)
      apply AWp.reg [] []
      · conv => lhs; simp [Fn.row, Tm.row, Tm.rows_eq, Cs.rows_eq]
      · (repeat' apply And.intro) <;> first | omega | assumption | trivial | (intros; subst_vars; rfl) | (intro i r h; rcases i with _ | i <;> simp at h; subst h; rfl) | (simp [inI, maxLen]; done) | (simp [inI, maxLen]; omega)
      repeat (first | refine AWp.seq ?_ | refine AWp.block ?_)
      refine AWp.loop (σ := fun u : {u : Nat // u ≤ l.length} => ⟨60, [(1, .d (.sl (m.map Fn.row))), (21, .d (.sl (l.map Fn.row))), (22, .d (.int (l.length : Int))), (23, .d (.int (u.1 : Int)))], []⟩)
        (μ := fun u => l.length - u.1) ⟨0, Nat.zero_le _⟩ (Le.sub (by simp) (by simp)) (fun ⟨i, hi6⟩ => ?_)
      dsimp only
      repeat (first | refine AWp.seq ?_ | refine AWp.block ?_)
      apply AWp.reg [] []
      · conv => lhs; simp [Fn.row, Tm.row, Tm.rows_eq, Cs.rows_eq]
      · (repeat' apply And.intro) <;> first | omega | assumption | trivial | (intros; subst_vars; rfl) | (intro i r h; rcases i with _ | i <;> simp at h; subst h; rfl) | (simp [inI, maxLen]; done) | (simp [inI, maxLen]; omega)
      repeat (first | refine AWp.seq ?_ | refine AWp.block ?_)
      refine AWp.cond rfl (fun hc => ?_) (fun hc => ?_)
      · have hi1 : i < l.length := by have := of_decide_eq_true hc; omega
        clear hc
        have h1f : l[i]? = some l[i] := List.getElem?_eq_getElem hi1
        have hmf : l[i] ∈ l := List.getElem_mem hi1
        have hdf : l.drop i = l[i] :: l.drop (i + 1) := List.drop_eq_getElem_cons hi1
        generalize l[i] = f at h1f hmf hdf
        obtain ⟨k1, k2, k3⟩ := hal f hmf
        have hO := Fn.rn_ok f k1 k2
        have hzp : f.rn.params.length ≤ 6 := by unfold Fn.rn; dsimp only; rw [freshL_len]; exact k3
        have hN := sp_NFn f k1 k2 k3
        have hD := sp_Named f k1 k2 k3
        have hAl := fun g hg => sp_Alike f g ⟨k1, k2, k3⟩ hg hO
        generalize f.rn = z at hO hzp hN hD hAl
        have hS1 := sp_SameFns [z] [z] (by simp) (fun x hx => by rw [List.mem_singleton.1 hx]; exact ⟨hO, by omega⟩)
        rw [eqB_self] at hS1
        unfold fnsAV at hS1
        have hS2 := fun u => sp_SameFns [z] [u] (by simp) (fun x hx => by rw [List.mem_singleton.1 hx]; exact ⟨hO, by omega⟩)
        obtain ⟨fg, fps, ⟨fk, fn, fa, fb, fvs, fxs, fcs⟩⟩ := f
        obtain ⟨zg, zps, ⟨zk, zn, za, zb, zvs, zxs, zcs⟩⟩ := z
        try simp only [fnsAV, List.map_cons, List.map_nil, Fn.row, Tm.row, Tm.rows_eq, Cs.rows_eq] at hS1
        dsimp only [fnAV] at hN hD
        refine AWp.skip ?_
        repeat (first | refine AWp.seq ?_ | refine AWp.block ?_)
        apply AWp.reg [] []
        · conv => lhs; simp [Fn.row, Tm.row, Tm.rows_eq, Cs.rows_eq, h1f]
        · (repeat' apply And.intro) <;> first | omega | assumption | trivial | (intros; subst_vars; rfl) | (intro i r h; rcases i with _ | i <;> simp at h; subst h; rfl) | (simp [inI, maxLen]; done) | (simp [inI, maxLen]; omega)
        repeat (first | refine AWp.seq ?_ | refine AWp.block ?_)
        apply AWp.draw [2, 5] [.p (fun _ => .agg [.d (.str zg), .d (strsD zps), .d (.int zk), .d (.int zn), .d (.str za), .d (.str zb), .d (strsD zvs), .d (.sl (zxs.map Tm.row)), .d (.sl (zcs.map Cs.row))]) none, .p (fun _ => .agg [.d (.str zg), .d (strsD zps), .d (.int zk), .d (.int zn), .d (.str za), .d (.str zb), .d (strsD zvs), .d (.sl (zxs.map Tm.row)), .d (.sl (zcs.map Cs.row))]) none, .p (fun _ => .d (.bool true)) none] mixed
        · conv => lhs; simp [Fn.row, Tm.row, Tm.rows_eq, Cs.rows_eq, h1f]
        · kernel_rfl
        · (repeat' apply And.intro) <;> first | omega | assumption | trivial | (intros; subst_vars; rfl) | (intro i r h; rcases i with _ | i <;> simp at h; subst h; rfl) | (simp [inI, maxLen]; done) | (simp [inI, maxLen]; omega)
        repeat (first | refine AWp.seq ?_ | refine AWp.block ?_)
        refine AWp.cond rfl (fun hc => ?_) (fun hc => ?_)
        · cases hc
        refine AWp.skip ?_
        by_cases hlt : (i : Int) < (m.length : Int)
        · have h1g : m[i]? = some (m[i]'(by omega)) := List.getElem?_eq_getElem (by omega)
          generalize m[i]'(by omega) = g at h1g
          have hg := ham g (List.mem_of_getElem? h1g)
          have hAg := hAl g hg
          have hDg := sp_Named g hg.1 hg.2.1 hg.2.2
          generalize g.rn = u at hAg hDg
          have hS3 := hS2 u
          rw [eqB_single] at hS3
          unfold fnsAV at hS3
          generalize eqB _ u = E at hAg hS3
          obtain ⟨gg, gps, ⟨gk, gn, ga, gb, gvs, gxs, gcs⟩⟩ := g
          obtain ⟨ug, ups, ⟨uk, un, ua, ub, uvs, uxs, ucs⟩⟩ := u
          simp only [List.map_cons, List.map_nil, Fn.row, Tm.row, Tm.rows_eq, Cs.rows_eq] at hS3
          dsimp only [fnAV] at hAg hDg
          repeat (first | refine AWp.seq ?_ | refine AWp.block ?_)
          apply AWp.draw [13, 19] [.p (fun _ => .d (.bool E)) none, .p (fun _ => .agg [.d (.str zg), .d (strsD zps), .d (.int zk), .d (.int zn), .d (.str za), .d (.str zb), .d (strsD zvs), .d (.sl (zxs.map Tm.row)), .d (.sl (zcs.map Cs.row))]) none, .p (fun _ => .agg [.d (.str ug), .d (strsD ups), .d (.int uk), .d (.int un), .d (.str ua), .d (.str ub), .d (strsD uvs), .d (.sl (uxs.map Tm.row)), .d (.sl (ucs.map Cs.row))]) none, .p (fun _ => .d (.bool E)) none] mixed
          · conv => lhs; simp [Fn.row, Tm.row, Tm.rows_eq, Cs.rows_eq, h1f, h1g, hlt]
          · kernel_rfl
          · (repeat' apply And.intro) <;> first | omega | assumption | trivial | (intros; subst_vars; rfl) | (intro i r h; rcases i with _ | i <;> simp at h; subst h; rfl) | (simp [inI, maxLen]; done) | (simp [inI, maxLen]; omega)
          repeat (first | refine AWp.seq ?_ | refine AWp.block ?_)
          refine AWp.cond rfl (fun hc => ?_) (fun hc => ?_)
          · cases hc
          refine AWp.skip ?_
          repeat (first | refine AWp.seq ?_ | refine AWp.block ?_)
          apply AWp.reg [] []
          · conv => lhs; simp [Fn.row, Tm.row, Tm.rows_eq, Cs.rows_eq, h1f, h1g, hlt]
          · (repeat' apply And.intro) <;> first | omega | assumption | trivial | (intros; subst_vars; rfl) | (intro i r h; rcases i with _ | i <;> simp at h; subst h; rfl) | (simp [inI, maxLen]; done) | (simp [inI, maxLen]; omega)
          refine ⟨⟨i + 1, hi1⟩, by simp; omega, ?_⟩
          dsimp only
          exact Le.sub (by simp) (by simp)
        repeat (first | refine AWp.seq ?_ | refine AWp.block ?_)
        apply AWp.draw [13, 19] [] mixed
        · conv => lhs; simp [Fn.row, Tm.row, Tm.rows_eq, Cs.rows_eq, h1f, hlt]
        · kernel_rfl
        · (repeat' apply And.intro) <;> first | omega | assumption | trivial | (intros; subst_vars; rfl) | (intro i r h; rcases i with _ | i <;> simp at h; subst h; rfl) | (simp [inI, maxLen]; done) | (simp [inI, maxLen]; omega)
        repeat (first | refine AWp.seq ?_ | refine AWp.block ?_)
        refine AWp.cond rfl (fun hc => ?_) (fun hc => ?_)
        · cases hc
        refine AWp.skip ?_
        repeat (first | refine AWp.seq ?_ | refine AWp.block ?_)
        apply AWp.reg [] []
        · conv => lhs; simp [Fn.row, Tm.row, Tm.rows_eq, Cs.rows_eq, h1f, hlt]
        · (repeat' apply And.intro) <;> first | omega | assumption | trivial | (intros; subst_vars; rfl) | (intro i r h; rcases i with _ | i <;> simp at h; subst h; rfl) | (simp [inI, maxLen]; done) | (simp [inI, maxLen]; omega)
        refine ⟨⟨i + 1, hi1⟩, by simp; omega, ?_⟩
        dsimp only
        exact Le.sub (by simp) (by simp)
      have hi1 : i = l.length := by have := of_decide_eq_false hc; omega
      subst hi1
      clear hc
      refine AWp.exit ?_
      repeat (first | refine AWp.seq ?_ | refine AWp.block ?_)
      apply AWp.reg [] []
      · conv => lhs; simp [Fn.row, Tm.row, Tm.rows_eq, Cs.rows_eq]
      · (repeat' apply And.intro) <;> first | omega | assumption | trivial | (intros; subst_vars; rfl) | (intro i r h; rcases i with _ | i <;> simp at h; subst h; rfl) | (simp [inI, maxLen]; done) | (simp [inI, maxLen]; omega)
      refine AWp.ret ?_
      try dsimp only [thenQ, blockQ]
      apply endQ.ret
      · rfl
      · conv => lhs; simp [resAV, Tryd.results5]
      rfl
    repeat (first | refine AWp.seq ?_ | refine AWp.block ?_)
    apply AWp.reg [] [.p (fun _ => .d (.int 0)) none, .p (fun _ => .d (.int cm)) none]
    · conv => lhs; simp [Fn.row, Tm.row, Tm.rows_eq, Cs.rows_eq, hc2]
    · (repeat' apply And.intro) <;> first | omega | assumption | trivial | (intros; subst_vars; rfl) | (intro i r h; rcases i with _ | i <;> simp at h; subst h; rfl) | (simp [inI, maxLen]; done) | (simp [inI, maxLen]; omega)
    repeat (first | refine AWp.seq ?_ | refine AWp.block ?_)
    refine AWp.cond rfl (fun hc => ?_) (fun hc => ?_)
    rotate_left
    · cases hc
    repeat (first | refine AWp.seq ?_ | refine AWp.block ?_)
    apply AWp.reg [] []
    · conv => lhs; simp [Fn.row, Tm.row, Tm.rows_eq, Cs.rows_eq, hc2]
    · (repeat' apply And.intro) <;> first | omega | assumption | trivial | (intros; subst_vars; rfl) | (intro i r h; rcases i with _ | i <;> simp at h; subst h; rfl) | (simp [inI, maxLen]; done) | (simp [inI, maxLen]; omega)
    refine AWp.ret ?_
    try dsimp only [thenQ, blockQ]
    apply endQ.ret
    · rfl
    · conv => lhs; simp [resAV, Tryd.results5]
    rfl
  repeat (first | refine AWp.seq ?_ | refine AWp.block ?_)
  apply AWp.reg [] [.p (fun _ => .d (.int cl)) none]
  · conv => lhs; simp [Fn.row, Tm.row, Tm.rows_eq, Cs.rows_eq, hc1]
  · (repeat' apply And.intro) <;> first | omega | assumption | trivial | (intros; subst_vars; rfl) | (intro i r h; rcases i with _ | i <;> simp at h; subst h; rfl) | (simp [inI, maxLen]; done) | (simp [inI, maxLen]; omega)
  repeat (first | refine AWp.seq ?_ | refine AWp.block ?_)
  refine AWp.cond rfl (fun hc => ?_) (fun hc => ?_)
  rotate_left
  · cases hc
  repeat (first | refine AWp.seq ?_ | refine AWp.block ?_)
  apply AWp.reg [] []
  · conv => lhs; simp [Fn.row, Tm.row, Tm.rows_eq, Cs.rows_eq, hc1]
  · (repeat' apply And.intro) <;> first | omega | assumption | trivial | (intros; subst_vars; rfl) | (intro i r h; rcases i with _ | i <;> simp at h; subst h; rfl) | (simp [inI, maxLen]; done) | (simp [inI, maxLen]; omega)
  refine AWp.ret ?_
  try dsimp only [thenQ, blockQ]
  apply endQ.ret
  · rfl
  · conv => lhs; simp [resAV, Tryd.results5]
  rfl

end Go.Proofs.YtialccgjbanmcaaDoor
