/- xclaw5.PlainTells. Printed by a small program. -/
import Derived.Test.YtialccgjbanmcaaDoorPlainE
import Derived.Test.YtialccgjbanmcaaDoorCheckD
import Derived.Test.YtialccgjbanmcaaDoorCheckP
import Derived.Test.YtialccgjbanmcaaDoorScopeB
namespace Go.Proofs.YtialccgjbanmcaaDoor
open Go.RowKit
attribute [local simp] runD mkRc ldOf ldArg noAny dstOk guardOk opEff opEff0 effOp pureOp callOp zEff evA constAV frGet memGet startAS frOf isGoCall idIn AS.after nextR opnIds objIds AV.ids idsL AObj.ids frNo memNo opnAny isAny mkVal rdCells wrCells fldAddr idxAddr srcRows litRows toD1 toDs setAt sliceAV optI partAV bldAV fillAV binAV binI AV.cells callEff calleeOf frKill memKill AV.kill AObj.kill AV.has AV.hasL Op.operands Call.operands keepF keepM viewIds cChk renOf moGet moWs moQ cEff moLike moHave AV.ren renL AObj.ren AObj.like kept startC moMem AV.frz frz1 frzL frSub memSub frzs AS.frz frFrz memFrz AObj.frz takeMap takeLen bleF Nat.ble_eq memAny objAny mapOp D.keyOk rowAV valRow extOp wrapOp phO
set_option linter.unusedVariables false
set_option linter.unusedSimpArgs false

set_option maxRecDepth 20000 in
set_option maxHeartbeats 16000000 in
theorem sp_PlainTells (l : List Fn) (hl : FnsOk l) : PSpec Tryd.prog 6 [fnsAV l] (fun _ => .d (.bool true)) none := by
  have hll := hl.len
  have hkl := sp_refCheck l hl
  obtain ⟨cl, hcl⟩ : ∃ c, c = checkE l := ⟨_, rfl⟩
  rw [← hcl] at hkl
  refine PSpec.of Tryd.func6 rfl rfl rfl (Nat.le_of_ble_eq_true rfl) ?_
  show AWp _ _ (endQ _ Tryd.f6 _ _ _) (startAS 38 _)
  repeat (first | refine AWp.seq ?_ | refine AWp.block ?_)
  apply AWp.reg [] []
  · conv => lhs; simp [Fn.row, Tm.row, Tm.rows_eq, Cs.rows_eq]
  · (repeat' apply And.intro) <;> first | omega | assumption | trivial | (intros; subst_vars; rfl) | (intro i r h; rcases i with _ | i <;> simp at h; subst h; rfl) | (simp [inI, maxLen]; done) | (simp [inI, maxLen]; omega)
  by_cases hc1 : cl = 0
  · subst hc1
    repeat (first | refine AWp.seq ?_ | refine AWp.block ?_)
    apply AWp.reg [] [.p (fun _ => .d (.int 0)) none]
    · conv => lhs; simp [Fn.row, Tm.row, Tm.rows_eq, Cs.rows_eq]
    · (repeat' apply And.intro) <;> first | omega | assumption | trivial | (intros; subst_vars; rfl) | (intro i r h; rcases i with _ | i <;> simp at h; subst h; rfl) | (simp [inI, maxLen]; done) | (simp [inI, maxLen]; omega)
    repeat (first | refine AWp.seq ?_ | refine AWp.block ?_)
    refine AWp.cond rfl (fun hc => ?_) (fun hc => ?_)
    · cases hc
    refine AWp.skip ?_
    have hal := right_all hl hcl.symm
    have hA := sp_PlAll l hl.len hal
    have hE := sp_EachPlain l hl.len hal
    have hokG : ∀ f ∈ l.map Fn.pl, f.body.Ok ∧ f.params.length ≤ 8796093022207 := fun f hf => by
      obtain ⟨g, hg, rfl⟩ := List.mem_map.1 hf
      obtain ⟨k1, k2, k3⟩ := hal g hg
      obtain ⟨h1, h2⟩ := Fn.pl_ok g k1 k2 k3
      exact ⟨h1, by omega⟩
    have hS := sp_SameFns (l.map Fn.pl) (l.map Fn.pl) (by rw [List.length_map]; exact hl.len) hokG
    rw [eqB_self] at hS
    generalize l.map Fn.pl = G at hA hE hS
    repeat (first | refine AWp.seq ?_ | refine AWp.block ?_)
    apply AWp.reg [] [.p (fun _ => .d (.sl (G.map Fn.row))) none, .p (fun _ => .d (.sl (G.map Fn.row))) none, .p (fun _ => .d (.bool true)) none]
    · conv => lhs; simp [Fn.row, Tm.row, Tm.rows_eq, Cs.rows_eq]
    · (repeat' apply And.intro) <;> first | omega | assumption | trivial | (intros; subst_vars; rfl) | (intro i r h; rcases i with _ | i <;> simp at h; subst h; rfl) | (simp [inI, maxLen]; done) | (simp [inI, maxLen]; omega)
    repeat (first | refine AWp.seq ?_ | refine AWp.block ?_)
    refine AWp.cond rfl (fun hc => ?_) (fun hc => ?_)
    · cases hc
    refine AWp.skip ?_
    repeat (first | refine AWp.seq ?_ | refine AWp.block ?_)
    apply AWp.reg [] []
    · conv => lhs; simp [Fn.row, Tm.row, Tm.rows_eq, Cs.rows_eq]
    · (repeat' apply And.intro) <;> first | omega | assumption | trivial | (intros; subst_vars; rfl) | (intro i r h; rcases i with _ | i <;> simp at h; subst h; rfl) | (simp [inI, maxLen]; done) | (simp [inI, maxLen]; omega)
    repeat (first | refine AWp.seq ?_ | refine AWp.block ?_)
    refine AWp.loop (σ := fun u : {u : Nat // u ≤ l.length} => ⟨38, [(14, .d (.sl (l.map Fn.row))), (15, .d (.int (l.length : Int))), (16, .d (.int (u.1 : Int)))], []⟩)
      (μ := fun u => l.length - u.1) ⟨0, Nat.zero_le _⟩ (Le.sub (by simp) (by simp)) (fun ⟨i, hi6⟩ => ?_)
    dsimp only
    repeat (first | refine AWp.seq ?_ | refine AWp.block ?_)
    apply AWp.reg [] []
    · conv => lhs; simp [Fn.row, Tm.row, Tm.rows_eq, Cs.rows_eq]
    · (repeat' apply And.intro) <;> first | omega | assumption | trivial | (intros; subst_vars; rfl) | (intro i r h; rcases i with _ | i <;> simp at h; subst h; rfl) | (simp [inI, maxLen]; done) | (simp [inI, maxLen]; omega)
    repeat (first | refine AWp.seq ?_ | refine AWp.block ?_)
    refine AWp.cond rfl (fun hc => ?_) (fun hc => ?_)
    · have hi1 : i < l.length := by have := of_decide_eq_true hc; omega
      clear hc
      have h1f : l[i]? = some l[i] := List.getElem?_eq_getElem hi1
      have hmf : l[i] ∈ l := List.getElem_mem hi1
      have hdf : l.drop i = l[i] :: l.drop (i + 1) := List.drop_eq_getElem_cons hi1
      generalize l[i] = f at h1f hmf hdf
      obtain ⟨k1, k2, k3⟩ := hal f hmf
      obtain ⟨hO, hzp⟩ := Fn.pl_ok f k1 k2 k3
      have hN := sp_PlFn f k1 k2 k3
      have hD := sp_Plain f k1 k2 k3
      have hI := isP_all 25 f.body k2
      have hJ := isQ_all 25 f.body k2
      generalize f.body.isP = q at hI hJ
      generalize f.pl = z at hO hzp hN hD
      have hS1 := sp_SameFns [z] [z] (by simp) (fun x hx => by rw [List.mem_singleton.1 hx]; exact ⟨hO, by omega⟩)
      rw [eqB_self] at hS1
      obtain ⟨fg, fps, ⟨fk, fn, fa, fb, fvs, fxs, fcs⟩⟩ := f
      obtain ⟨zg, zps, ⟨zk, zn, za, zb, zvs, zxs, zcs⟩⟩ := z
      dsimp only [fnAV] at hN hD hI hJ
      simp only [fnsAV, List.map_cons, List.map_nil, Fn.row, Tm.row, Tm.rows_eq, Cs.rows_eq] at hS1
      refine AWp.skip ?_
      repeat (first | refine AWp.seq ?_ | refine AWp.block ?_)
      apply AWp.reg [] []
      · conv => lhs; simp [Fn.row, Tm.row, Tm.rows_eq, Cs.rows_eq, h1f]
      · (repeat' apply And.intro) <;> first | omega | assumption | trivial | (intros; subst_vars; rfl) | (intro i r h; rcases i with _ | i <;> simp at h; subst h; rfl) | (simp [inI, maxLen]; done) | (simp [inI, maxLen]; omega)
      repeat (first | refine AWp.seq ?_ | refine AWp.block ?_)
      apply AWp.draw [2, 5] [.p (fun _ => .agg [.d (.str zg), .d (strsD zps), .d (.int zk), .d (.int zn), .d (.str za), .d (.str zb), .d (strsD zvs), .d (.sl (zxs.map Tm.row)), .d (.sl (zcs.map Cs.row))]) none, .p (fun _ => .agg [.d (.str zg), .d (strsD zps), .d (.int zk), .d (.int zn), .d (.str za), .d (.str zb), .d (strsD zvs), .d (.sl (zxs.map Tm.row)), .d (.sl (zcs.map Cs.row))]) none, .p (fun _ => .d (.bool true)) none, .p (fun _ => .d (.bool q)) none, .p (fun _ => .d (.bool q)) none] mixed
      · conv => lhs; simp [Fn.row, Tm.row, Tm.rows_eq, Cs.rows_eq, h1f]
      · kernel_rfl
      · (repeat' apply And.intro) <;> first | omega | assumption | trivial | (intros; subst_vars; rfl) | (intro i r h; rcases i with _ | i <;> simp at h; subst h; rfl) | (simp [inI, maxLen]; done) | (simp [inI, maxLen]; omega)
      repeat (first | refine AWp.seq ?_ | refine AWp.block ?_)
      refine AWp.cond rfl (fun hc => ?_) (fun hc => ?_)
      · cases hc
      refine AWp.skip ?_
      repeat (first | refine AWp.seq ?_ | refine AWp.block ?_)
      apply AWp.reg [] []
      · conv => lhs; simp [Fn.row, Tm.row, Tm.rows_eq, Cs.rows_eq, h1f]
      · (repeat' apply And.intro) <;> first | omega | assumption | trivial | (intros; subst_vars; rfl) | (intro i r h; rcases i with _ | i <;> simp at h; subst h; rfl) | (simp [inI, maxLen]; done) | (simp [inI, maxLen]; omega)
      refine ⟨⟨i + 1, hi1⟩, by simp; omega, ?_⟩
      dsimp only
      exact Le.sub (by simp) (by simp)
    have hi1 : i = l.length := by have := of_decide_eq_false hc; omega
    subst hi1
    clear hc
    refine AWp.exit ?_
    repeat (first | refine AWp.seq ?_ | refine AWp.block ?_)
    apply AWp.reg [] []
    · conv => lhs; simp [Fn.row, Tm.row, Tm.rows_eq, Cs.rows_eq]
    · (repeat' apply And.intro) <;> first | omega | assumption | trivial | (intros; subst_vars; rfl) | (intro i r h; rcases i with _ | i <;> simp at h; subst h; rfl) | (simp [inI, maxLen]; done) | (simp [inI, maxLen]; omega)
    refine AWp.ret ?_
    try dsimp only [thenQ, blockQ]
    apply endQ.ret
    · rfl
    · conv => lhs; simp [resAV, Tryd.results6]
    rfl
  repeat (first | refine AWp.seq ?_ | refine AWp.block ?_)
  apply AWp.reg [] [.p (fun _ => .d (.int cl)) none]
  · conv => lhs; simp [Fn.row, Tm.row, Tm.rows_eq, Cs.rows_eq, hc1]
  · (repeat' apply And.intro) <;> first | omega | assumption | trivial | (intros; subst_vars; rfl) | (intro i r h; rcases i with _ | i <;> simp at h; subst h; rfl) | (simp [inI, maxLen]; done) | (simp [inI, maxLen]; omega)
  repeat (first | refine AWp.seq ?_ | refine AWp.block ?_)
  refine AWp.cond rfl (fun hc => ?_) (fun hc => ?_)
  rotate_left
  · cases hc
  repeat (first | refine AWp.seq ?_ | refine AWp.block ?_)
  apply AWp.reg [] []
  · conv => lhs; simp [Fn.row, Tm.row, Tm.rows_eq, Cs.rows_eq, hc1]
  · (repeat' apply And.intro) <;> first | omega | assumption | trivial | (intros; subst_vars; rfl) | (intro i r h; rcases i with _ | i <;> simp at h; subst h; rfl) | (simp [inI, maxLen]; done) | (simp [inI, maxLen]; omega)
  refine AWp.ret ?_
  try dsimp only [thenQ, blockQ]
  apply endQ.ret
  · rfl
  · conv => lhs; simp [resAV, Tryd.results6]
  rfl

end Go.Proofs.YtialccgjbanmcaaDoor
