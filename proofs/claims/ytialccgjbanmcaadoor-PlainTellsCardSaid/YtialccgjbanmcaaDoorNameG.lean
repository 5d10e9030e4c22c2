/- names.All; xcref4.Each with Named. Printed by a small program. -/
import Derived.Test.YtialccgjbanmcaaDoorNameF
namespace Go.Proofs.YtialccgjbanmcaaDoor
open Go.RowKit
attribute [local simp] runD mkRc ldOf ldArg noAny dstOk guardOk opEff opEff0 effOp pureOp callOp zEff evA constAV frGet memGet startAS frOf isGoCall idIn AS.after nextR opnIds objIds AV.ids idsL AObj.ids frNo memNo opnAny isAny mkVal rdCells wrCells fldAddr idxAddr srcRows litRows toD1 toDs setAt sliceAV optI partAV bldAV fillAV binAV binI AV.cells callEff calleeOf frKill memKill AV.kill AObj.kill AV.has AV.hasL Op.operands Call.operands keepF keepM viewIds cChk renOf moGet moWs moQ cEff moLike moHave AV.ren renL AObj.ren AObj.like kept startC moMem AV.frz frz1 frzL frSub memSub frzs AS.frz frFrz memFrz AObj.frz takeMap takeLen bleF Nat.ble_eq memAny objAny mapOp D.keyOk rowAV valRow extOp wrapOp phO frLow memLow memLow1 objLow memEmpty Low LowL
set_option linter.unusedVariables false
set_option linter.unusedSimpArgs false

set_option maxRecDepth 20000 in
set_option maxHeartbeats 16000000 in
theorem sp_All (l : List Fn) (hl : l.length ≤ 879609302220) (hall : ∀ f ∈ l, f.body.Ok ∧ f.body.Rt 25 ∧ f.params.length ≤ 6) : PSpec Tryd.prog 23 [fnsAV l] (fun _ => fnsAV (l.map Fn.rn)) none := by
  obtain ⟨G, hG⟩ : ∃ G, G = l.map Fn.rn := ⟨_, rfl⟩
  rw [← hG]
  refine PSpec.of Tryd.func23 rfl rfl rfl (Nat.le_of_ble_eq_true rfl) ?_
  show AWp _ _ (endQ _ Tryd.f23 _ _ _) (startAS 19 _)
  repeat (first | refine AWp.seq ?_ | refine AWp.block ?_)
  apply AWp.reg [] []
  · conv => lhs; simp [Fn.row, Tm.row, Tm.rows_eq, Cs.rows_eq]
  · (repeat' apply And.intro) <;> first | omega | assumption | trivial | (intros; subst_vars; rfl) | (intro i r h; rcases i with _ | i <;> simp at h; subst h; rfl) | (simp [inI, maxLen]; done) | (simp [inI, maxLen]; omega)
  repeat (first | refine AWp.seq ?_ | refine AWp.block ?_)
  apply AWp.reg [] []
  · conv => lhs; simp [Fn.row, Tm.row, Tm.rows_eq, Cs.rows_eq]
  · (repeat' apply And.intro) <;> first | omega | assumption | trivial | (intros; subst_vars; rfl) | (intro i r h; rcases i with _ | i <;> simp at h; subst h; rfl) | (simp [inI, maxLen]; done) | (simp [inI, maxLen]; omega)
  repeat (first | refine AWp.seq ?_ | refine AWp.block ?_)
  apply AWp.reg [] []
  · conv => lhs; simp [Fn.row, Tm.row, Tm.rows_eq, Cs.rows_eq]
  · (repeat' apply And.intro) <;> first | omega | assumption | trivial | (intros; subst_vars; rfl) | (intro i r h; rcases i with _ | i <;> simp at h; subst h; rfl) | (simp [inI, maxLen]; done) | (simp [inI, maxLen]; omega)
  repeat (first | refine AWp.seq ?_ | refine AWp.block ?_)
  refine AWp.le (Le.low [400] [] (fr := [(3, .arr 400 0 ([] : List Fn).length), (6, .d (.sl (l.map Fn.row))), (7, .d (.int (l.length : Int))), (8, .d (.int (0 : Int)))]) (mem := [(400, some (.arr 34 9 (([] : List Fn).map Fn.row)))]) rfl (by simp) (by simp)) ?_
  refine AWp.loop (σ := fun u : {u : Nat × List Fn // u.1 ≤ l.length ∧ u.2 = (l.take u.1).map Fn.rn} => ⟨19, [(3, .arr 400 0 u.1.2.length), (6, .d (.sl (l.map Fn.row))), (7, .d (.int (l.length : Int))), (8, .d (.int (u.1.1 : Int)))], [(400, some (.arr 34 9 (u.1.2.map Fn.row)))]⟩)
    (μ := fun u => l.length - u.1.1) ⟨(0, []), ⟨Nat.zero_le _, by simp⟩⟩ (Le.sub (by simp) (by simp)) (fun ⟨(i, gs), ⟨hi3, hw⟩⟩ => ?_)
  dsimp only at hi3 hw ⊢
  repeat (first | refine AWp.seq ?_ | refine AWp.block ?_)
  apply AWp.reg [] []
  · conv => lhs; simp [Fn.row, Tm.row, Tm.rows_eq, Cs.rows_eq]
  · (repeat' apply And.intro) <;> first | omega | assumption | trivial | (intros; subst_vars; rfl) | (intro i r h; rcases i with _ | i <;> simp at h; subst h; rfl) | (simp [inI, maxLen]; done) | (simp [inI, maxLen]; omega)
  repeat (first | refine AWp.seq ?_ | refine AWp.block ?_)
  refine AWp.cond rfl (fun hc => ?_) (fun hc => ?_)
  · have hi1 : i < l.length := by have := of_decide_eq_true hc; omega
    clear hc
    have h1f : l[i]? = some l[i] := List.getElem?_eq_getElem hi1
    have hmf : l[i] ∈ l := List.getElem_mem hi1
    have hdf : l.drop i = l[i] :: l.drop (i + 1) := List.drop_eq_getElem_cons hi1
    generalize l[i] = f at h1f hmf hdf
    have hgl : gs.length = i := by rw [hw, List.length_map, List.length_take]; omega
    obtain ⟨k1, k2, k3⟩ := hall f hmf
    have hx := sp_NFn f k1 k2 k3
    generalize hz : f.rn = z at hx
    obtain ⟨fg, fps, ⟨fk, fn, fa, fb, fvs, fxs, fcs⟩⟩ := f
    obtain ⟨zg, zps, ⟨zk, zn, za, zb, zvs, zxs, zcs⟩⟩ := z
    dsimp only [fnAV] at hx
    refine AWp.skip ?_
    repeat (first | refine AWp.seq ?_ | refine AWp.block ?_)
    apply AWp.reg [] []
    · conv => lhs; simp [Fn.row, Tm.row, Tm.rows_eq, Cs.rows_eq, h1f]
    · (repeat' apply And.intro) <;> first | omega | assumption | trivial | (intros; subst_vars; rfl) | (intro i r h; rcases i with _ | i <;> simp at h; subst h; rfl) | (simp [inI, maxLen]; done) | (simp [inI, maxLen]; omega)
    repeat (first | refine AWp.seq ?_ | refine AWp.block ?_)
    apply AWp.reg [] [.p (fun _ => .agg [.d (.str zg), .d (strsD zps), .d (.int zk), .d (.int zn), .d (.str za), .d (.str zb), .d (strsD zvs), .d (.sl (zxs.map Tm.row)), .d (.sl (zcs.map Cs.row))]) none]
    · conv => lhs; simp [Fn.row, Tm.row, Tm.rows_eq, Cs.rows_eq, h1f]
    · (repeat' apply And.intro) <;> first | omega | assumption | trivial | (intros; subst_vars; rfl) | (intro i r h; rcases i with _ | i <;> simp at h; subst h; rfl) | (simp [inI, maxLen]; done) | (simp [inI, maxLen]; omega)
    repeat (first | refine AWp.seq ?_ | refine AWp.block ?_)
    apply AWp.reg [] []
    · conv => lhs; simp [Fn.row, Tm.row, Tm.rows_eq, Cs.rows_eq, h1f]
    · (repeat' apply And.intro) <;> first | omega | assumption | trivial | (intros; subst_vars; rfl) | (intro i r h; rcases i with _ | i <;> simp at h; subst h; rfl) | (simp [inI, maxLen]; done) | (simp [inI, maxLen]; omega)
    refine ⟨⟨(i + 1, gs ++ [⟨zg, zps, .mk zk zn za zb zvs zxs zcs⟩]), hi1, by rw [hw, List.take_add_one, h1f, List.map_append, ← hz]; rfl⟩, by simp; omega, ?_⟩
    dsimp only
    exact Le.sub (by simp [Fn.row, Tm.row, Tm.rows_eq, Cs.rows_eq, hgl]) (by simp [Fn.row, Tm.row, Tm.rows_eq, Cs.rows_eq, hgl])
  have hi1 : i = l.length := by have := of_decide_eq_false hc; omega
  subst hi1
  clear hc
  rw [List.take_length] at hw
  obtain rfl : gs = G := by rw [hw, hG]
  refine AWp.exit ?_
  repeat (first | refine AWp.seq ?_ | refine AWp.block ?_)
  apply AWp.reg [] []
  · conv => lhs; simp [Fn.row, Tm.row, Tm.rows_eq, Cs.rows_eq]
  · (repeat' apply And.intro) <;> first | omega | assumption | trivial | (intros; subst_vars; rfl) | (intro i r h; rcases i with _ | i <;> simp at h; subst h; rfl) | (simp [inI, maxLen]; done) | (simp [inI, maxLen]; omega)
  refine AWp.ret ?_
  try dsimp only [thenQ, blockQ]
  apply endQ.retF [400]
  · rfl
  · conv => lhs; simp
  · conv => lhs; simp [resAV, Tryd.results23]
  rfl

set_option maxRecDepth 20000 in
set_option maxHeartbeats 16000000 in
theorem sp_EachNamed (l : List Fn) (hl : l.length ≤ 879609302220) (hall : ∀ f ∈ l, f.body.Ok ∧ f.body.Rt 25 ∧ f.params.length ≤ 6) : PSpec Tryd.prog 24 [fnsAV l, .d (.fn 25)] (fun _ => fnsAV (l.map Fn.rn)) none := by
  obtain ⟨G, hG⟩ : ∃ G, G = l.map Fn.rn := ⟨_, rfl⟩
  rw [← hG]
  refine PSpec.of Tryd.func24 rfl rfl rfl (Nat.le_of_ble_eq_true rfl) ?_
  show AWp _ _ (endQ _ Tryd.f24 _ _ _) (startAS 22 _)
  repeat (first | refine AWp.seq ?_ | refine AWp.block ?_)
  apply AWp.reg [] []
  · conv => lhs; simp [Fn.row, Tm.row, Tm.rows_eq, Cs.rows_eq]
  · (repeat' apply And.intro) <;> first | omega | assumption | trivial | (intros; subst_vars; rfl) | (intro i r h; rcases i with _ | i <;> simp at h; subst h; rfl) | (simp [inI, maxLen]; done) | (simp [inI, maxLen]; omega)
  repeat (first | refine AWp.seq ?_ | refine AWp.block ?_)
  apply AWp.reg [] []
  · conv => lhs; simp [Fn.row, Tm.row, Tm.rows_eq, Cs.rows_eq]
  · (repeat' apply And.intro) <;> first | omega | assumption | trivial | (intros; subst_vars; rfl) | (intro i r h; rcases i with _ | i <;> simp at h; subst h; rfl) | (simp [inI, maxLen]; done) | (simp [inI, maxLen]; omega)
  repeat (first | refine AWp.seq ?_ | refine AWp.block ?_)
  apply AWp.reg [] []
  · conv => lhs; simp [Fn.row, Tm.row, Tm.rows_eq, Cs.rows_eq]
  · (repeat' apply And.intro) <;> first | omega | assumption | trivial | (intros; subst_vars; rfl) | (intro i r h; rcases i with _ | i <;> simp at h; subst h; rfl) | (simp [inI, maxLen]; done) | (simp [inI, maxLen]; omega)
  repeat (first | refine AWp.seq ?_ | refine AWp.block ?_)
  refine AWp.le (Le.low [400] [] (fr := [(1, .d (.fn 25)), (5, .arr 400 0 ([] : List Fn).length), (8, .d (.sl (l.map Fn.row))), (9, .d (.int (l.length : Int))), (10, .d (.int (0 : Int)))]) (mem := [(400, some (.arr 34 9 (([] : List Fn).map Fn.row)))]) rfl (by simp) (by simp)) ?_
  refine AWp.loop (σ := fun u : {u : Nat × List Fn // u.1 ≤ l.length ∧ u.2 = (l.take u.1).map Fn.rn} => ⟨22, [(1, .d (.fn 25)), (5, .arr 400 0 u.1.2.length), (8, .d (.sl (l.map Fn.row))), (9, .d (.int (l.length : Int))), (10, .d (.int (u.1.1 : Int)))], [(400, some (.arr 34 9 (u.1.2.map Fn.row)))]⟩)
    (μ := fun u => l.length - u.1.1) ⟨(0, []), ⟨Nat.zero_le _, by simp⟩⟩ (Le.sub (by simp) (by simp)) (fun ⟨(i, gs), ⟨hi3, hw⟩⟩ => ?_)
  dsimp only at hi3 hw ⊢
  repeat (first | refine AWp.seq ?_ | refine AWp.block ?_)
  apply AWp.reg [] []
  · conv => lhs; simp [Fn.row, Tm.row, Tm.rows_eq, Cs.rows_eq]
  · (repeat' apply And.intro) <;> first | omega | assumption | trivial | (intros; subst_vars; rfl) | (intro i r h; rcases i with _ | i <;> simp at h; subst h; rfl) | (simp [inI, maxLen]; done) | (simp [inI, maxLen]; omega)
  repeat (first | refine AWp.seq ?_ | refine AWp.block ?_)
  refine AWp.cond rfl (fun hc => ?_) (fun hc => ?_)
  · have hi1 : i < l.length := by have := of_decide_eq_true hc; omega
    clear hc
    have h1f : l[i]? = some l[i] := List.getElem?_eq_getElem hi1
    have hmf : l[i] ∈ l := List.getElem_mem hi1
    have hdf : l.drop i = l[i] :: l.drop (i + 1) := List.drop_eq_getElem_cons hi1
    generalize l[i] = f at h1f hmf hdf
    have hgl : gs.length = i := by rw [hw, List.length_map, List.length_take]; omega
    obtain ⟨k1, k2, k3⟩ := hall f hmf
    have hx := sp_Named f k1 k2 k3
    generalize hz : f.rn = z at hx
    obtain ⟨fg, fps, ⟨fk, fn, fa, fb, fvs, fxs, fcs⟩⟩ := f
    obtain ⟨zg, zps, ⟨zk, zn, za, zb, zvs, zxs, zcs⟩⟩ := z
    dsimp only [fnAV] at hx
    refine AWp.skip ?_
    repeat (first | refine AWp.seq ?_ | refine AWp.block ?_)
    apply AWp.reg [] []
    · conv => lhs; simp [Fn.row, Tm.row, Tm.rows_eq, Cs.rows_eq, h1f]
    · (repeat' apply And.intro) <;> first | omega | assumption | trivial | (intros; subst_vars; rfl) | (intro i r h; rcases i with _ | i <;> simp at h; subst h; rfl) | (simp [inI, maxLen]; done) | (simp [inI, maxLen]; omega)
    repeat (first | refine AWp.seq ?_ | refine AWp.block ?_)
    apply AWp.reg [] [.p (fun _ => .agg [.d (.str zg), .d (strsD zps), .d (.int zk), .d (.int zn), .d (.str za), .d (.str zb), .d (strsD zvs), .d (.sl (zxs.map Tm.row)), .d (.sl (zcs.map Cs.row))]) none]
    · conv => lhs; simp [Fn.row, Tm.row, Tm.rows_eq, Cs.rows_eq, h1f]
    · (repeat' apply And.intro) <;> first | omega | assumption | trivial | (intros; subst_vars; rfl) | (intro i r h; rcases i with _ | i <;> simp at h; subst h; rfl) | (simp [inI, maxLen]; done) | (simp [inI, maxLen]; omega)
    repeat (first | refine AWp.seq ?_ | refine AWp.block ?_)
    apply AWp.reg [] []
    · conv => lhs; simp [Fn.row, Tm.row, Tm.rows_eq, Cs.rows_eq, h1f]
    · (repeat' apply And.intro) <;> first | omega | assumption | trivial | (intros; subst_vars; rfl) | (intro i r h; rcases i with _ | i <;> simp at h; subst h; rfl) | (simp [inI, maxLen]; done) | (simp [inI, maxLen]; omega)
    refine ⟨⟨(i + 1, gs ++ [⟨zg, zps, .mk zk zn za zb zvs zxs zcs⟩]), hi1, by rw [hw, List.take_add_one, h1f, List.map_append, ← hz]; rfl⟩, by simp; omega, ?_⟩
    dsimp only
    exact Le.sub (by simp [Fn.row, Tm.row, Tm.rows_eq, Cs.rows_eq, hgl]) (by simp [Fn.row, Tm.row, Tm.rows_eq, Cs.rows_eq, hgl])
  have hi1 : i = l.length := by have := of_decide_eq_false hc; omega
  subst hi1
  clear hc
  rw [List.take_length] at hw
  obtain rfl : gs = G := by rw [hw, hG]
  refine AWp.exit ?_
  repeat (first | refine AWp.seq ?_ | refine AWp.block ?_)
  apply AWp.reg [] []
  · conv => lhs; simp [Fn.row, Tm.row, Tm.rows_eq, Cs.rows_eq]
  · (repeat' apply And.intro) <;> first | omega | assumption | trivial | (intros; subst_vars; rfl) | (intro i r h; rcases i with _ | i <;> simp at h; subst h; rfl) | (simp [inI, maxLen]; done) | (simp [inI, maxLen]; omega)
  refine AWp.ret ?_
  try dsimp only [thenQ, blockQ]
  apply endQ.retF [400]
  · rfl
  · conv => lhs; simp
  · conv => lhs; simp [resAV, Tryd.results24]
  rfl

end Go.Proofs.YtialccgjbanmcaaDoor
