import Derived.Test.YtialccgjbanmcaaDoorFuseC
import Derived.Test.YtialccgjbanmcaaDoorFuseQ
import Derived.Test.YtialccgjbanmcaaDoorOwnD
import Derived.Test.YtialccgjbanmcaaDoorFuseP
import Derived.Test.YtialccgjbanmcaaDoorNameP
/- xcref4.Made at the levels 0, 1. Printed by a small program. -/
namespace Go.Proofs.YtialccgjbanmcaaDoor
open Go.RowKit
attribute [local simp] runD mkRc ldOf ldArg noAny dstOk guardOk opEff opEff0 effOp pureOp callOp zEff evA constAV frGet memGet startAS frOf isGoCall idIn AS.after nextR opnIds objIds AV.ids idsL AObj.ids frNo memNo opnAny isAny mkVal rdCells wrCells fldAddr idxAddr srcRows litRows toD1 toDs setAt sliceAV optI partAV bldAV fillAV binAV binI AV.cells callEff calleeOf frKill memKill AV.kill AObj.kill AV.has AV.hasL Op.operands Call.operands keepF keepM viewIds cChk renOf moGet moWs moQ cEff moLike moHave AV.ren renL AObj.ren AObj.like kept startC moMem AV.frz frz1 frzL frSub memSub frzs AS.frz frFrz memFrz AObj.frz takeMap takeLen bleF Nat.ble_eq memAny objAny mapOp D.keyOk rowAV valRow extOp wrapOp phO
set_option linter.unusedVariables false
set_option linter.unusedSimpArgs false

/-- What is made of right functions fits. -/
theorem pl_all_pt {l : List Fn} (hl : FnsOk l) (h : checkE l = 0) : ∀ f ∈ l.map Fn.pl, f.Pt := fun f hf => by
  obtain ⟨g, hg, rfl⟩ := List.mem_map.1 hf
  obtain ⟨k1, k2, k3⟩ := right_all hl h g hg
  have := ((check_zero h).2.2.2 g hg).sz
  exact Fn.pl_pt g k1 k2 k3 (by omega)
theorem Fn.ow_fits {f : Fn} (h : f.Pt) : f.ow.body.Ok ∧ f.ow.body.Du ∧ f.ow.params.length ≤ 6 := by
  obtain ⟨h1, h2⟩ := ow_ok 175 f.body f.params h.rt h.fit.ok h.pars
  exact ⟨h1, h2, h.par⟩
theorem ow_all_fits {l : List Fn} (h : ∀ f ∈ l, f.Pt) : ∀ f ∈ l.map Fn.ow, f.body.Ok ∧ f.body.Du ∧ f.params.length ≤ 6 := fun f hf => by
  obtain ⟨g, hg, rfl⟩ := List.mem_map.1 hf
  exact Fn.ow_fits (h g hg)
theorem fu_all_fits {l : List Fn} (h : ∀ f ∈ l, f.body.Ok ∧ f.body.Du ∧ f.params.length ≤ 6) : ∀ f ∈ l.map Fn.fu, f.body.Ok ∧ f.body.Du ∧ f.params.length ≤ 6 := fun f hf => by
  obtain ⟨g, hg, rfl⟩ := List.mem_map.1 hf
  obtain ⟨h1, h2, h3⟩ := h g hg
  obtain ⟨h4, h5⟩ := Tm.fu_ok g.body h1 h2
  exact ⟨h4, h5, h3⟩
/-- Right functions, made plain and owned. -/
def mk0 (l : List Fn) : List Fn := (l.map Fn.pl).map Fn.ow
def mk1 (l : List Fn) : List Fn := (mk0 l).map Fn.fu
theorem mk0_fits {l : List Fn} (hl : FnsOk l) (h : checkE l = 0) : ∀ f ∈ mk0 l, f.body.Ok ∧ f.body.Du ∧ f.params.length ≤ 6 := ow_all_fits (pl_all_pt hl h)
theorem mk1_fits {l : List Fn} (hl : FnsOk l) (h : checkE l = 0) : ∀ f ∈ mk1 l, f.body.Ok ∧ f.body.Du ∧ f.params.length ≤ 6 := fu_all_fits (mk0_fits hl h)
set_option maxRecDepth 20000 in
set_option maxHeartbeats 16000000 in
theorem sp_Made0 (l : List Fn) (hl : FnsOk l) (hc : checkE l = 0) : PSpec Tryd.prog 12 [fnsAV l, .d (.int 0)] (fun _ => fnsAV (mk0 l)) none := by
  have hll := hl.len
  have h1 := sp_EachPlain l hl.len (right_all hl hc)
  have hp := pl_all_pt hl hc
  have h2 := sp_EachOwned (l.map Fn.pl) (by rw [List.length_map]; exact hl.len) hp
  unfold mk0
  generalize l.map Fn.pl = P at h1 h2 ⊢
  generalize P.map Fn.ow = O at h2 ⊢

  refine PSpec.of Tryd.func12 rfl rfl rfl (Nat.le_of_ble_eq_true rfl) ?_
  show AWp _ _ (endQ _ Tryd.f12 _ _ _) (startAS 17 _)
  repeat (first | refine AWp.seq ?_ | refine AWp.block ?_)
  apply AWp.reg [] []
  · conv => lhs; simp
  · (repeat' apply And.intro) <;> first | omega | assumption | trivial | (intros; subst_vars; rfl) | (intro i r h; rcases i with _ | i <;> simp at h; subst h; rfl) | (simp [inI, maxLen]; done) | (simp [inI, maxLen]; omega)
  repeat (first | refine AWp.seq ?_ | refine AWp.block ?_)
  apply AWp.reg [] [.p (fun _ => .d (.sl (P.map Fn.row))) none, .p (fun _ => .d (.sl (O.map Fn.row))) none]
  · conv => lhs; simp
  · (repeat' apply And.intro) <;> first | omega | assumption | trivial | (intros; subst_vars; rfl) | (intro i r h; rcases i with _ | i <;> simp at h; subst h; rfl) | (simp [inI, maxLen]; done) | (simp [inI, maxLen]; omega)
  repeat (first | refine AWp.seq ?_ | refine AWp.block ?_)
  apply AWp.reg [] []
  · conv => lhs; simp
  · (repeat' apply And.intro) <;> first | omega | assumption | trivial | (intros; subst_vars; rfl) | (intro i r h; rcases i with _ | i <;> simp at h; subst h; rfl) | (simp [inI, maxLen]; done) | (simp [inI, maxLen]; omega)
  repeat (first | refine AWp.seq ?_ | refine AWp.block ?_)
  refine AWp.cond rfl (fun hc => ?_) (fun hc => ?_)
  · cases hc
  refine AWp.skip ?_
  repeat (first | refine AWp.seq ?_ | refine AWp.block ?_)
  apply AWp.reg [] []
  · conv => lhs; simp
  · (repeat' apply And.intro) <;> first | omega | assumption | trivial | (intros; subst_vars; rfl) | (intro i r h; rcases i with _ | i <;> simp at h; subst h; rfl) | (simp [inI, maxLen]; done) | (simp [inI, maxLen]; omega)
  repeat (first | refine AWp.seq ?_ | refine AWp.block ?_)
  refine AWp.cond rfl (fun hc => ?_) (fun hc => ?_)
  · cases hc
  refine AWp.skip ?_
  repeat (first | refine AWp.seq ?_ | refine AWp.block ?_)
  apply AWp.reg [] []
  · conv => lhs; simp
  · (repeat' apply And.intro) <;> first | omega | assumption | trivial | (intros; subst_vars; rfl) | (intro i r h; rcases i with _ | i <;> simp at h; subst h; rfl) | (simp [inI, maxLen]; done) | (simp [inI, maxLen]; omega)
  refine AWp.ret ?_
  try dsimp only [thenQ, blockQ]
  apply endQ.ret
  · rfl
  · conv => lhs; simp [resAV, Tryd.results12]
  rfl

set_option maxRecDepth 20000 in
set_option maxHeartbeats 16000000 in
theorem sp_Made1 (l : List Fn) (hl : FnsOk l) (hc : checkE l = 0) : PSpec Tryd.prog 12 [fnsAV l, .d (.int 1)] (fun _ => fnsAV (mk1 l)) none := by
  have hll := hl.len
  have h1 := sp_EachPlain l hl.len (right_all hl hc)
  have hp := pl_all_pt hl hc
  have h2 := sp_EachOwned (l.map Fn.pl) (by rw [List.length_map]; exact hl.len) hp
  have h3 := sp_EachFused ((l.map Fn.pl).map Fn.ow) (by rw [List.length_map, List.length_map]; exact hl.len) (fun f hf => ⟨(mk0_fits hl hc f hf).1, (mk0_fits hl hc f hf).2.1⟩)
  unfold mk1 mk0
  generalize l.map Fn.pl = P at h1 h2 h3 ⊢
  generalize P.map Fn.ow = O at h2 h3 ⊢
  generalize O.map Fn.fu = U at h3 ⊢
  refine PSpec.of Tryd.func12 rfl rfl rfl (Nat.le_of_ble_eq_true rfl) ?_
  show AWp _ _ (endQ _ Tryd.f12 _ _ _) (startAS 17 _)
  repeat (first | refine AWp.seq ?_ | refine AWp.block ?_)
  apply AWp.reg [] []
  · conv => lhs; simp
  · (repeat' apply And.intro) <;> first | omega | assumption | trivial | (intros; subst_vars; rfl) | (intro i r h; rcases i with _ | i <;> simp at h; subst h; rfl) | (simp [inI, maxLen]; done) | (simp [inI, maxLen]; omega)
  repeat (first | refine AWp.seq ?_ | refine AWp.block ?_)
  apply AWp.reg [] [.p (fun _ => .d (.sl (P.map Fn.row))) none, .p (fun _ => .d (.sl (O.map Fn.row))) none]
  · conv => lhs; simp
  · (repeat' apply And.intro) <;> first | omega | assumption | trivial | (intros; subst_vars; rfl) | (intro i r h; rcases i with _ | i <;> simp at h; subst h; rfl) | (simp [inI, maxLen]; done) | (simp [inI, maxLen]; omega)
  repeat (first | refine AWp.seq ?_ | refine AWp.block ?_)
  apply AWp.reg [] []
  · conv => lhs; simp
  · (repeat' apply And.intro) <;> first | omega | assumption | trivial | (intros; subst_vars; rfl) | (intro i r h; rcases i with _ | i <;> simp at h; subst h; rfl) | (simp [inI, maxLen]; done) | (simp [inI, maxLen]; omega)
  repeat (first | refine AWp.seq ?_ | refine AWp.block ?_)
  refine AWp.cond rfl (fun hc => ?_) (fun hc => ?_)
  rotate_left
  · cases hc
  repeat (first | refine AWp.seq ?_ | refine AWp.block ?_)
  apply AWp.reg [] [.p (fun _ => .d (.sl (U.map Fn.row))) none]
  · conv => lhs; simp
  · (repeat' apply And.intro) <;> first | omega | assumption | trivial | (intros; subst_vars; rfl) | (intro i r h; rcases i with _ | i <;> simp at h; subst h; rfl) | (simp [inI, maxLen]; done) | (simp [inI, maxLen]; omega)
  repeat (first | refine AWp.seq ?_ | refine AWp.block ?_)
  apply AWp.reg [] []
  · conv => lhs; simp
  · (repeat' apply And.intro) <;> first | omega | assumption | trivial | (intros; subst_vars; rfl) | (intro i r h; rcases i with _ | i <;> simp at h; subst h; rfl) | (simp [inI, maxLen]; done) | (simp [inI, maxLen]; omega)
  repeat (first | refine AWp.seq ?_ | refine AWp.block ?_)
  refine AWp.cond rfl (fun hc => ?_) (fun hc => ?_)
  · cases hc
  refine AWp.skip ?_
  repeat (first | refine AWp.seq ?_ | refine AWp.block ?_)
  apply AWp.reg [] []
  · conv => lhs; simp
  · (repeat' apply And.intro) <;> first | omega | assumption | trivial | (intros; subst_vars; rfl) | (intro i r h; rcases i with _ | i <;> simp at h; subst h; rfl) | (simp [inI, maxLen]; done) | (simp [inI, maxLen]; omega)
  refine AWp.ret ?_
  try dsimp only [thenQ, blockQ]
  apply endQ.ret
  · rfl
  · conv => lhs; simp [resAV, Tryd.results12]
  rfl

end Go.Proofs.YtialccgjbanmcaaDoor

/- fuse.one. Printed by a small program. -/
namespace Go.Proofs.YtialccgjbanmcaaDoor
open Go.RowKit
attribute [local simp] runD mkRc ldOf ldArg noAny dstOk guardOk opEff opEff0 effOp pureOp callOp zEff evA constAV frGet memGet startAS frOf isGoCall idIn AS.after nextR opnIds objIds AV.ids idsL AObj.ids frNo memNo opnAny isAny mkVal rdCells wrCells fldAddr idxAddr srcRows litRows toD1 toDs setAt sliceAV optI partAV bldAV fillAV binAV binI AV.cells callEff calleeOf frKill memKill AV.kill AObj.kill AV.has AV.hasL Op.operands Call.operands keepF keepM viewIds cChk renOf moGet moWs moQ cEff moLike moHave AV.ren renL AObj.ren AObj.like kept startC moMem AV.frz frz1 frzL frSub memSub frzs AS.frz frFrz memFrz AObj.frz takeMap takeLen bleF Nat.ble_eq memAny objAny mapOp D.keyOk rowAV valRow extOp wrapOp phO frLow memLow memLow1 objLow memEmpty Low LowL
set_option linter.unusedVariables false
set_option linter.unusedSimpArgs false

theorem cs_fone1 (gone : List ByteArray) (s : ByteArray) (hg : gone.length ≤ 8796093022208) : CSpec Tryd.prog 88 [.d (.str s), .ptr 1000 0] [(1000, .blk 28 [.d (strsD gone)])] (.d (.bool (hasB gone s))) [(1000, .blk 28 [.d (strsD gone)])] := by
  have hc := sp_Contains gone s hg
  refine CSpec.of Tryd.func88 rfl rfl (Nat.le_of_ble_eq_true rfl) ?_
  show AWp _ _ (endC _ Tryd.f88 _ _) (startC 7 _ _)
  repeat (first | refine AWp.seq ?_ | refine AWp.block ?_)
  apply AWp.reg [] []
  · conv => lhs; simp
  · trivial
  repeat (first | refine AWp.seq ?_ | refine AWp.block ?_)
  apply AWp.reg [] [.p (fun _ => .d (.bool (hasB gone s))) none]
  · conv => lhs; simp
  · exact hc
  refine AWp.ret ?_
  try dsimp only [thenQ, blockQ]
  apply endC.ret
  · rfl
  · conv => lhs; simp [resAV, Tryd.results88]
  · rfl
  · simp [moEnd, memGet]
theorem woN_woN (l f g : List ByteArray) : woN (woN l f) g = woN l (f ++ g) := by
  unfold woN
  rw [List.filter_filter]
  refine List.filter_congr fun s _ => ?_
  rw [Bool.eq_iff_iff]
  simp [hasB_not, and_comm]
theorem hasB_woN (l g : List ByteArray) (s : ByteArray) : hasB (woN l g) s = (hasB l s && !hasB g s) := by
  rw [Bool.eq_iff_iff]
  simp [woN, hasB_iff, hasB_not]
theorem woN_less {l : List ByteArray} {s : ByteArray} (h : hasB l s = true) : (woN l [s]).length + 1 ≤ l.length := by
  unfold woN
  have h1 := hasB_iff.1 h
  have : (l.filter fun x => !hasB [s] x).length < l.length := by
    rw [List.length_filter_lt_length_iff_exists]
    exact ⟨s, h1, by simp [hasB]⟩
  omega
theorem fuOne_yes {nm : ByteArray} {dws rest : List ByteArray} {y z : Tm} (hsr : y.sr dws = (rest, z)) (h1 : dws.length ≠ 0) (h2 : z.tk = 9) (h3 : z.nm = nm) : fuOne 7 1 nm dws y = .mk 10 0 nm .empty dws [cnt 9 rest z.a0] [] := by
  unfold fuOne
  rw [hsr]
  exact if_pos ⟨h1, rfl, rfl, h2, h3⟩
theorem fuOne_no {nm : ByteArray} {dws rest : List ByteArray} {y z : Tm} (hsr : y.sr dws = (rest, z)) (h : dws.length ≠ 0 → z.tk = 9 → z.nm = nm → False) : fuOne 7 1 nm dws y = y := by
  unfold fuOne
  rw [hsr]
  exact if_neg fun ⟨h1, _, _, h2, h3⟩ => h h1 h2 h3
theorem woN_nil' (l : List ByteArray) : woN l [] = l := by simp [woN, hasB]
abbrev csxAV (c : Cs) : AV := match c with | .mk t ws (.mk k n a b vs xs cs) => .agg [.d (.int t), .d (strsD ws), .d (.int k), .d (.int n), .d (.str a), .d (.str b), .d (strsD vs), .d (.sl (xs.map Tm.row)), .d (.sl (cs.map Cs.row))]
set_option maxRecDepth 20000 in
set_option maxHeartbeats 16000000 in
theorem sp_one (nm : ByteArray) (dt : Int) (dws : List ByteArray) (yk yn : Int) (ya yb : ByteArray) (yvs : List ByteArray) (yxs : List Tm) (ycs : List Cs) (hyO : Tm.Ok (.mk yk yn ya yb yvs yxs ycs)) (hyd : Tm.Du (.mk yk yn ya yb yvs yxs ycs)) (hdl : dws.length ≤ 6) (hwz : ∀ s ∈ dws, s.size ≤ 140737488355328) :
    PSpec Tryd.prog 56 [.d (.str nm), csxAV (.mk dt dws (.mk yk yn ya yb yvs yxs ycs))] (fun _ => csxAV (.mk dt dws (fuOne 7 1 nm dws (.mk yk yn ya yb yvs yxs ycs)))) none := by
  obtain ⟨R, hR⟩ : ∃ R, fuOne 7 1 nm dws (.mk yk yn ya yb yvs yxs ycs) = R := ⟨_, rfl⟩
  rw [hR]
  obtain ⟨rk, rn, ra, rb, rvs, rxs, rcs⟩ := R
  refine PSpec.of Tryd.func56 rfl rfl rfl (Nat.le_of_ble_eq_true rfl) ?_
  show AWp _ _ (endQ _ Tryd.f56 _ _ _) (startAS 71 _)
  repeat (first | refine AWp.seq ?_ | refine AWp.block ?_)
  apply AWp.reg [] []
  · conv => lhs; simp [Tm.row, Tm.rows_eq, Cs.rows_eq]
  · (repeat' apply And.intro) <;> first | omega | assumption | trivial | (intros; subst_vars; rfl) | (intro i r h; rcases i with _ | i <;> simp at h; subst h; rfl) | (simp [inI, maxLen]; done) | (simp [inI, maxLen]; omega)
  repeat (first | refine AWp.seq ?_ | refine AWp.block ?_)
  apply AWp.reg [] []
  · conv => lhs; simp [Tm.row, Tm.rows_eq, Cs.rows_eq]
  · (repeat' apply And.intro) <;> first | omega | assumption | trivial | (intros; subst_vars; rfl) | (intro i r h; rcases i with _ | i <;> simp at h; subst h; rfl) | (simp [inI, maxLen]; done) | (simp [inI, maxLen]; omega)
  repeat (first | refine AWp.seq ?_ | refine AWp.block ?_)
  apply AWp.reg [] []
  · conv => lhs; simp [Tm.row, Tm.rows_eq, Cs.rows_eq]
  · (repeat' apply And.intro) <;> first | omega | assumption | trivial | (intros; subst_vars; rfl) | (intro i r h; rcases i with _ | i <;> simp at h; subst h; rfl) | (simp [inI, maxLen]; done) | (simp [inI, maxLen]; omega)
  repeat (first | refine AWp.seq ?_ | refine AWp.block ?_)
  refine AWp.le (Le.low [400] [] (fr := [(0, .d (.str nm)), (3, .ptr 3 0), (4, .ptr 4 0), (5, .ptr 5 0), (6, .ptr 6 0)]) (mem := [(3, some (.blk 50 [.d (.int dt), .d (strsD dws), .d (.int yk), .d (.int yn), .d (.str ya), .d (.str yb), .d (strsD yvs), .d (.sl (yxs.map Tm.row)), .d (.sl (ycs.map Cs.row))])), (4, some (.blk 50 [.d (.int 0), .lit (.slice none 0 0), .d (.int 0), .d (.int 0), .d (.str ByteArray.empty), .d (.str ByteArray.empty), .lit (.slice none 0 0), .lit (.slice none 0 0), .lit (.slice none 0 0)])), (5, some (.blk 32 [.d (.int (yk : Int)), .d (.int (yn : Int)), .d (.str (ya : ByteArray)), .d (.str (yb : ByteArray)), .d (strsD (yvs : List ByteArray)), .d (.sl ((yxs : List Tm).map Tm.row)), .d (.sl ((ycs : List Cs).map Cs.row))])), (6, some (.blk 28 [.arr 400 0 ([] : List ByteArray).length])), (400, some (.arr 9 1 (([] : List ByteArray).map strR)))]) rfl (by simp) (by simp)) ?_
  refine AWp.loop (σ := fun u : {u : Int × Int × ByteArray × ByteArray × List ByteArray × List Tm × List Cs × List ByteArray // ((Tm.mk yk yn ya yb yvs yxs ycs).sr dws = Tm.sr (.mk u.1 u.2.1 u.2.2.1 u.2.2.2.1 u.2.2.2.2.1 u.2.2.2.2.2.1 u.2.2.2.2.2.2.1) (woN dws u.2.2.2.2.2.2.2) ∧ Tm.Du (.mk u.1 u.2.1 u.2.2.1 u.2.2.2.1 u.2.2.2.2.1 u.2.2.2.2.2.1 u.2.2.2.2.2.2.1) ∧ Tm.Ok (.mk u.1 u.2.1 u.2.2.1 u.2.2.2.1 u.2.2.2.2.1 u.2.2.2.2.2.1 u.2.2.2.2.2.2.1) ∧ u.2.2.2.2.2.2.2.length + (woN dws u.2.2.2.2.2.2.2).length ≤ dws.length)} => ⟨71, [(0, .d (.str nm)), (3, .ptr 3 0), (4, .ptr 4 0), (5, .ptr 5 0), (6, .ptr 6 0)], [(3, some (.blk 50 [.d (.int dt), .d (strsD dws), .d (.int yk), .d (.int yn), .d (.str ya), .d (.str yb), .d (strsD yvs), .d (.sl (yxs.map Tm.row)), .d (.sl (ycs.map Cs.row))])), (4, some (.blk 50 [.d (.int 0), .lit (.slice none 0 0), .d (.int 0), .d (.int 0), .d (.str ByteArray.empty), .d (.str ByteArray.empty), .lit (.slice none 0 0), .lit (.slice none 0 0), .lit (.slice none 0 0)])), (5, some (.blk 32 [.d (.int u.1.1), .d (.int u.1.2.1), .d (.str u.1.2.2.1), .d (.str u.1.2.2.2.1), .d (strsD u.1.2.2.2.2.1), .d (.sl (u.1.2.2.2.2.2.1.map Tm.row)), .d (.sl (u.1.2.2.2.2.2.2.1.map Cs.row))])), (6, some (.blk 28 [.arr 400 0 u.1.2.2.2.2.2.2.2.length])), (400, some (.arr 9 1 (u.1.2.2.2.2.2.2.2.map strR)))]⟩)
    (μ := fun u => (Tm.mk u.1.1 u.1.2.1 u.1.2.2.1 u.1.2.2.2.1 u.1.2.2.2.2.1 u.1.2.2.2.2.2.1 u.1.2.2.2.2.2.2.1).sz) ⟨(yk, yn, ya, yb, yvs, yxs, ycs, []), ⟨by rw [woN_nil'], hyd, hyO, by rw [woN_nil']; simp⟩⟩ (Le.sub (by simp) (by simp)) (fun ⟨(zk, zn, za, zb, zvs, zxs, zcs, us), hw⟩ => ?_)
  dsimp only at hw ⊢
  obtain ⟨hsr, hdu, hzO, hul⟩ := hw
  have hc1 := sp_Contains dws za (by omega)
  have hc2 := cs_Contains 1000 us za (by omega)
  obtain ⟨qa, hq1⟩ : ∃ q, hasB dws za = q := ⟨_, rfl⟩
  obtain ⟨qb, hq2⟩ : ∃ q, hasB us za = q := ⟨_, rfl⟩
  rw [hq1] at hc1
  rw [hq2] at hc2
  by_cases q1 : zk = 8
  · cases qa with
    | true =>
      cases qb with
      | true =>
        repeat (first | refine AWp.seq ?_ | refine AWp.block ?_)
        apply AWp.reg [] [.p (fun _ => .d (.bool true)) none, .c [(1000, 400)] [.arr 1000 0 us.length, .d (.str za)] [(1000, .arr 9 1 (us.map strR))] (.d (.bool true)) [(1000, .arr 9 1 (us.map strR))]]
        · conv => lhs; simp [Tm.row, Tm.rows_eq, Cs.rows_eq, q1]
        · (repeat' apply And.intro) <;> first | omega | assumption | trivial | (intros; subst_vars; rfl) | (intro i r h; rcases i with _ | i <;> simp at h; subst h; rfl) | (simp [inI, maxLen]; done) | (simp [inI, maxLen]; omega)
        repeat (first | refine AWp.seq ?_ | refine AWp.block ?_)
        refine AWp.cond rfl (fun hc => ?_) (fun hc => ?_)
        · cases hc
        refine AWp.exit ?_
        have hsz : Tm.sr (.mk zk zn za zb zvs zxs zcs) (woN dws us) = (woN dws us, (.mk zk zn za zb zvs zxs zcs)) := by
          refine if_neg fun h => ?_
          have h2 := h.2
          rw [hasB_woN, hq1, hq2] at h2
          cases h2
        obtain ⟨A, hA⟩ : ∃ A : Int, (dws.length : Int) = A := ⟨_, rfl⟩
        rw [hsz] at hsr
        repeat (first | refine AWp.seq ?_ | refine AWp.block ?_)
        apply AWp.reg [] []
        · conv => lhs; simp [Tm.row, Tm.rows_eq, Cs.rows_eq, hA, q1]
        · (repeat' apply And.intro) <;> first | omega | assumption | trivial | (intros; subst_vars; rfl) | (intro i r h; rcases i with _ | i <;> simp at h; subst h; rfl) | (simp [inI, maxLen]; done) | (simp [inI, maxLen]; omega)
        repeat (first | refine AWp.seq ?_ | refine AWp.block ?_)
        refine AWp.cond rfl (fun hc => ?_) (fun hc => ?_)
        rotate_left
        · cases hc
        rw [fuOne_no hsr fun h1 h2 h3 => by have h4 : zk = 9 := h2; omega] at hR
        injection hR with e1 e2 e3 e4 e5 e6 e7
        subst e1 e2 e3 e4 e5 e6 e7
        repeat (first | refine AWp.seq ?_ | refine AWp.block ?_)
        apply AWp.reg [] []
        · conv => lhs; simp [Tm.row, Tm.rows_eq, Cs.rows_eq, q1]
        · (repeat' apply And.intro) <;> first | omega | assumption | trivial | (intros; subst_vars; rfl) | (intro i r h; rcases i with _ | i <;> simp at h; subst h; rfl) | (simp [inI, maxLen]; done) | (simp [inI, maxLen]; omega)
        refine AWp.ret ?_
        try dsimp only [thenQ, blockQ]
        apply endQ.ret
        · rfl
        · conv => lhs; simp [resAV, Tryd.results56]
        first | rfl | simp [resVal, Tm.row, Tm.rows_eq, Cs.rows_eq, AV.nilD, nilDL, strsD]
      | false =>
        repeat (first | refine AWp.seq ?_ | refine AWp.block ?_)
        apply AWp.reg [] [.p (fun _ => .d (.bool true)) none, .c [(1000, 400)] [.arr 1000 0 us.length, .d (.str za)] [(1000, .arr 9 1 (us.map strR))] (.d (.bool false)) [(1000, .arr 9 1 (us.map strR))]]
        · conv => lhs; simp [Tm.row, Tm.rows_eq, Cs.rows_eq, q1]
        · (repeat' apply And.intro) <;> first | omega | assumption | trivial | (intros; subst_vars; rfl) | (intro i r h; rcases i with _ | i <;> simp at h; subst h; rfl) | (simp [inI, maxLen]; done) | (simp [inI, maxLen]; omega)
        repeat (first | refine AWp.seq ?_ | refine AWp.block ?_)
        refine AWp.cond rfl (fun hc => ?_) (fun hc => ?_)
        rotate_left
        · cases hc
        refine AWp.skip ?_
        have hzn : zxs ≠ [] := hdu.1 (.inl q1)
        obtain ⟨x, r, rfl⟩ : ∃ x r, zxs = x :: r := by
          rcases zxs with _ | ⟨x, r⟩
          · exact absurd rfl hzn
          · exact ⟨x, r, rfl⟩
        have hwh : hasB (woN dws us) za = true := by rw [hasB_woN, hq1, hq2]; rfl
        have hle := woN_less hwh
        rw [woN_woN] at hle
        have hsr2 : (Tm.mk yk yn ya yb yvs yxs ycs).sr dws = x.sr (woN dws (us ++ [za])) := by rw [hsr, Tm.sr, if_pos ⟨q1, hwh⟩, Tm.srL, woN_woN]
        have hxd : x.Du := hdu.2.1.1
        have hxO : x.Ok := hzO.2.2.1.1
        obtain ⟨xk, xn, xa, xb, xvs, xxs, xcs⟩ := x
        repeat (first | refine AWp.seq ?_ | refine AWp.block ?_)
        apply AWp.reg [] []
        · conv => lhs; simp [Tm.row, Tm.rows_eq, Cs.rows_eq, q1]
        · (repeat' apply And.intro) <;> first | omega | assumption | trivial | (intros; subst_vars; rfl) | (intro i r h; rcases i with _ | i <;> simp at h; subst h; rfl) | (simp [inI, maxLen]; done) | (simp [inI, maxLen]; omega)
        repeat (first | refine AWp.seq ?_ | refine AWp.block ?_)
        apply AWp.reg [] []
        · conv => lhs; simp [Tm.row, Tm.rows_eq, Cs.rows_eq, q1]
        · (repeat' apply And.intro) <;> first | omega | assumption | trivial | (intros; subst_vars; rfl) | (intro i r h; rcases i with _ | i <;> simp at h; subst h; rfl) | (simp [inI, maxLen]; done) | (simp [inI, maxLen]; omega)
        refine ⟨⟨(xk, xn, xa, xb, xvs, xxs, xcs, us ++ [za]), ⟨hsr2, hxd, hxO, by dsimp only; simp; omega⟩⟩, by simp only [Tm.sz, Tm.szs]; omega, ?_⟩
        dsimp only
        exact Le.sub (by simp) (by simp)
    | false =>
      repeat (first | refine AWp.seq ?_ | refine AWp.block ?_)
      apply AWp.reg [] [.p (fun _ => .d (.bool false)) none]
      · conv => lhs; simp [Tm.row, Tm.rows_eq, Cs.rows_eq, q1]
      · (repeat' apply And.intro) <;> first | omega | assumption | trivial | (intros; subst_vars; rfl) | (intro i r h; rcases i with _ | i <;> simp at h; subst h; rfl) | (simp [inI, maxLen]; done) | (simp [inI, maxLen]; omega)
      repeat (first | refine AWp.seq ?_ | refine AWp.block ?_)
      refine AWp.cond rfl (fun hc => ?_) (fun hc => ?_)
      · cases hc
      refine AWp.exit ?_
      have hsz : Tm.sr (.mk zk zn za zb zvs zxs zcs) (woN dws us) = (woN dws us, (.mk zk zn za zb zvs zxs zcs)) := by
        refine if_neg fun h => ?_
        have h2 := h.2
        rw [hasB_woN, hq1, hq2] at h2
        cases h2
      obtain ⟨A, hA⟩ : ∃ A : Int, (dws.length : Int) = A := ⟨_, rfl⟩
      rw [hsz] at hsr
      repeat (first | refine AWp.seq ?_ | refine AWp.block ?_)
      apply AWp.reg [] []
      · conv => lhs; simp [Tm.row, Tm.rows_eq, Cs.rows_eq, hA, q1]
      · (repeat' apply And.intro) <;> first | omega | assumption | trivial | (intros; subst_vars; rfl) | (intro i r h; rcases i with _ | i <;> simp at h; subst h; rfl) | (simp [inI, maxLen]; done) | (simp [inI, maxLen]; omega)
      repeat (first | refine AWp.seq ?_ | refine AWp.block ?_)
      refine AWp.cond rfl (fun hc => ?_) (fun hc => ?_)
      rotate_left
      · cases hc
      rw [fuOne_no hsr fun h1 h2 h3 => by have h4 : zk = 9 := h2; omega] at hR
      injection hR with e1 e2 e3 e4 e5 e6 e7
      subst e1 e2 e3 e4 e5 e6 e7
      repeat (first | refine AWp.seq ?_ | refine AWp.block ?_)
      apply AWp.reg [] []
      · conv => lhs; simp [Tm.row, Tm.rows_eq, Cs.rows_eq, q1]
      · (repeat' apply And.intro) <;> first | omega | assumption | trivial | (intros; subst_vars; rfl) | (intro i r h; rcases i with _ | i <;> simp at h; subst h; rfl) | (simp [inI, maxLen]; done) | (simp [inI, maxLen]; omega)
      refine AWp.ret ?_
      try dsimp only [thenQ, blockQ]
      apply endQ.ret
      · rfl
      · conv => lhs; simp [resAV, Tryd.results56]
      first | rfl | simp [resVal, Tm.row, Tm.rows_eq, Cs.rows_eq, AV.nilD, nilDL, strsD]
  repeat (first | refine AWp.seq ?_ | refine AWp.block ?_)
  apply AWp.reg [] []
  · conv => lhs; simp [Tm.row, Tm.rows_eq, Cs.rows_eq, q1]
  · (repeat' apply And.intro) <;> first | omega | assumption | trivial | (intros; subst_vars; rfl) | (intro i r h; rcases i with _ | i <;> simp at h; subst h; rfl) | (simp [inI, maxLen]; done) | (simp [inI, maxLen]; omega)
  repeat (first | refine AWp.seq ?_ | refine AWp.block ?_)
  refine AWp.cond rfl (fun hc => ?_) (fun hc => ?_)
  · cases hc
  refine AWp.exit ?_
  have hsz : Tm.sr (.mk zk zn za zb zvs zxs zcs) (woN dws us) = (woN dws us, (.mk zk zn za zb zvs zxs zcs)) := by
    refine if_neg fun h => ?_
    exact absurd h.1 q1
  obtain ⟨A, hA⟩ : ∃ A : Int, (dws.length : Int) = A := ⟨_, rfl⟩
  rw [hsz] at hsr
  by_cases q2 : zk = 9
  · by_cases q3 : za = nm
    · by_cases q4 : A = 0
      · repeat (first | refine AWp.seq ?_ | refine AWp.block ?_)
        apply AWp.reg [] []
        · conv => lhs; simp [Tm.row, Tm.rows_eq, Cs.rows_eq, hA, q1, q2, q3, q4]
        · (repeat' apply And.intro) <;> first | omega | assumption | trivial | (intros; subst_vars; rfl) | (intro i r h; rcases i with _ | i <;> simp at h; subst h; rfl) | (simp [inI, maxLen]; done) | (simp [inI, maxLen]; omega)
        repeat (first | refine AWp.seq ?_ | refine AWp.block ?_)
        refine AWp.cond rfl (fun hc => ?_) (fun hc => ?_)
        rotate_left
        · cases hc
        rw [fuOne_no hsr fun h1 h2 h3 => h1 (by omega)] at hR
        injection hR with e1 e2 e3 e4 e5 e6 e7
        subst e1 e2 e3 e4 e5 e6 e7
        repeat (first | refine AWp.seq ?_ | refine AWp.block ?_)
        apply AWp.reg [] []
        · conv => lhs; simp [Tm.row, Tm.rows_eq, Cs.rows_eq, q1, q2, q3, q4]
        · (repeat' apply And.intro) <;> first | omega | assumption | trivial | (intros; subst_vars; rfl) | (intro i r h; rcases i with _ | i <;> simp at h; subst h; rfl) | (simp [inI, maxLen]; done) | (simp [inI, maxLen]; omega)
        refine AWp.ret ?_
        try dsimp only [thenQ, blockQ]
        apply endQ.ret
        · rfl
        · conv => lhs; simp [resAV, Tryd.results56]
        first | rfl | simp [resVal, Tm.row, Tm.rows_eq, Cs.rows_eq, AV.nilD, nilDL, strsD]
      repeat (first | refine AWp.seq ?_ | refine AWp.block ?_)
      apply AWp.reg [] []
      · conv => lhs; simp [Tm.row, Tm.rows_eq, Cs.rows_eq, hA, q1, q2, q3, q4]
      · (repeat' apply And.intro) <;> first | omega | assumption | trivial | (intros; subst_vars; rfl) | (intro i r h; rcases i with _ | i <;> simp at h; subst h; rfl) | (simp [inI, maxLen]; done) | (simp [inI, maxLen]; omega)
      repeat (first | refine AWp.seq ?_ | refine AWp.block ?_)
      refine AWp.cond rfl (fun hc => ?_) (fun hc => ?_)
      · cases hc
      refine AWp.skip ?_
      apply AWp.frzs [400]
      · conv => lhs; simp
      have hzn : zxs ≠ [] := hdu.1 (.inr q2)
      obtain ⟨x, r, rfl⟩ : ∃ x r, zxs = x :: r := by
        rcases zxs with _ | ⟨x, r⟩
        · exact absurd rfl hzn
        · exact ⟨x, r, rfl⟩
      rw [fuOne_yes hsr (by omega) q2 q3] at hR
      rw [show Tm.a0 (.mk zk zn za zb zvs (x :: r) zcs) = x from rfl] at hR
      have hcl := sp_Clone dws (by omega)
      have hdf := cs_DeleteFunc dws (by omega) (hasB us) 88 28 (strsD us) (fun s _ => cs_fone1 us s (by omega))
      obtain ⟨rest, hrs⟩ : ∃ l, l = woN dws us := ⟨_, rfl⟩
      rw [← hrs] at hR
      rw [show (dws.filter fun s => !hasB us s) = rest from by rw [hrs]; rfl] at hdf
      obtain ⟨RR, hRR⟩ : ∃ R, R = delRows dws (hasB us) := ⟨_, rfl⟩
      have hRn : List.take rest.length RR = List.map strR rest := by
        rw [hRR, hrs, delRows, woN, List.take_append_of_le_length (by simp), List.take_of_length_le (by simp)]
      have hRl : dws.length ≤ RR.length := by
        have := List.length_filter_le (fun s => !hasB us s) dws
        rw [hRR, delRows]; simp; omega
      rw [← hRR] at hdf
      have hrl : rest.length ≤ dws.length := by rw [hrs]; exact woN_len _ _
      have hfd := sp_fdrops rest x (by omega) (fun s hs => maxLen_ge (hwz s (by rw [hrs] at hs; exact (List.mem_filter.1 hs).1)))
      generalize cnt 9 rest x = e at hfd hR
      obtain ⟨xk, xn, xa, xb, xvs, xxs, xcs⟩ := x
      obtain ⟨ek, en, ea, eb, evs, exs, ecs⟩ := e
      injection hR with e1 e2 e3 e4 e5 e6 e7
      subst e1 e2 e3 e4 e5 e6 e7
      repeat (first | refine AWp.seq ?_ | refine AWp.block ?_)
      apply AWp.reg [] [.p (fun d => .arr d 0 dws.length) (some (.arr 9 1 (dws.map strR))), .c [(1000, 6), (1001, 54)] [.arr 1001 0 dws.length, .clo 88 [.ptr 1000 0]] [(1000, .blk 28 [.d (strsD us)]), (1001, .arr 9 1 (dws.map strR))] (.arr 1001 0 rest.length) [(1000, .blk 28 [.d (strsD us)]), (1001, .arr 9 1 RR)]]
      · conv => lhs; simp [Tm.row, Tm.rows_eq, Cs.rows_eq, q1, q2, q3, q4]
      · (repeat' apply And.intro) <;> first | omega | assumption | trivial | (intros; subst_vars; rfl) | (intro i r h; rcases i with _ | i <;> simp at h; subst h; rfl) | (simp [inI, maxLen]; done) | (simp [inI, maxLen]; omega)
      apply AWp.frzs [54]
      · conv => lhs; simp [hRn]
      repeat (first | refine AWp.seq ?_ | refine AWp.block ?_)
      apply AWp.draw [3, 10] [.p (fun d => .arr d 0 dws.length) (some (.arr 9 1 (dws.map strR))), .p (fun _ => .agg [.d (.int ek), .d (.int en), .d (.str ea), .d (.str eb), .d (strsD evs), .d (.sl (exs.map Tm.row)), .d (.sl (ecs.map Cs.row))]) none] mixed
      · conv => lhs; simp [Tm.row, Tm.rows_eq, Cs.rows_eq, q1, q2, q3, q4]
      · kernel_rfl
      · (repeat' apply And.intro) <;> first | omega | assumption | trivial | (intros; subst_vars; rfl) | (intro i r h; rcases i with _ | i <;> simp at h; subst h; rfl) | (simp [inI, maxLen]; done) | (simp [inI, maxLen]; omega)
      repeat (first | refine AWp.seq ?_ | refine AWp.block ?_)
      apply AWp.reg [] []
      · conv => lhs; simp [Tm.row, Tm.rows_eq, Cs.rows_eq, q1, q2, q3, q4]
      · (repeat' apply And.intro) <;> first | omega | assumption | trivial | (intros; subst_vars; rfl) | (intro i r h; rcases i with _ | i <;> simp at h; subst h; rfl) | (simp [inI, maxLen]; done) | (simp [inI, maxLen]; omega)
      refine AWp.ret ?_
      try dsimp only [thenQ, blockQ]
      apply endQ.ret
      · rfl
      · conv => lhs; simp [resAV, Tryd.results56]
      first | rfl | simp [resVal, Tm.row, Tm.rows_eq, Cs.rows_eq, AV.nilD, nilDL, strsD]
    repeat (first | refine AWp.seq ?_ | refine AWp.block ?_)
    apply AWp.reg [] []
    · conv => lhs; simp [Tm.row, Tm.rows_eq, Cs.rows_eq, hA, q1, q2, q3]
    · (repeat' apply And.intro) <;> first | omega | assumption | trivial | (intros; subst_vars; rfl) | (intro i r h; rcases i with _ | i <;> simp at h; subst h; rfl) | (simp [inI, maxLen]; done) | (simp [inI, maxLen]; omega)
    repeat (first | refine AWp.seq ?_ | refine AWp.block ?_)
    refine AWp.cond rfl (fun hc => ?_) (fun hc => ?_)
    rotate_left
    · cases hc
    rw [fuOne_no hsr fun h1 h2 h3 => q3 h3] at hR
    injection hR with e1 e2 e3 e4 e5 e6 e7
    subst e1 e2 e3 e4 e5 e6 e7
    repeat (first | refine AWp.seq ?_ | refine AWp.block ?_)
    apply AWp.reg [] []
    · conv => lhs; simp [Tm.row, Tm.rows_eq, Cs.rows_eq, q1, q2, q3]
    · (repeat' apply And.intro) <;> first | omega | assumption | trivial | (intros; subst_vars; rfl) | (intro i r h; rcases i with _ | i <;> simp at h; subst h; rfl) | (simp [inI, maxLen]; done) | (simp [inI, maxLen]; omega)
    refine AWp.ret ?_
    try dsimp only [thenQ, blockQ]
    apply endQ.ret
    · rfl
    · conv => lhs; simp [resAV, Tryd.results56]
    first | rfl | simp [resVal, Tm.row, Tm.rows_eq, Cs.rows_eq, AV.nilD, nilDL, strsD]
  repeat (first | refine AWp.seq ?_ | refine AWp.block ?_)
  apply AWp.reg [] []
  · conv => lhs; simp [Tm.row, Tm.rows_eq, Cs.rows_eq, hA, q1, q2]
  · (repeat' apply And.intro) <;> first | omega | assumption | trivial | (intros; subst_vars; rfl) | (intro i r h; rcases i with _ | i <;> simp at h; subst h; rfl) | (simp [inI, maxLen]; done) | (simp [inI, maxLen]; omega)
  repeat (first | refine AWp.seq ?_ | refine AWp.block ?_)
  refine AWp.cond rfl (fun hc => ?_) (fun hc => ?_)
  rotate_left
  · cases hc
  rw [fuOne_no hsr fun h1 h2 h3 => q2 h2] at hR
  injection hR with e1 e2 e3 e4 e5 e6 e7
  subst e1 e2 e3 e4 e5 e6 e7
  repeat (first | refine AWp.seq ?_ | refine AWp.block ?_)
  apply AWp.reg [] []
  · conv => lhs; simp [Tm.row, Tm.rows_eq, Cs.rows_eq, q1, q2]
  · (repeat' apply And.intro) <;> first | omega | assumption | trivial | (intros; subst_vars; rfl) | (intro i r h; rcases i with _ | i <;> simp at h; subst h; rfl) | (simp [inI, maxLen]; done) | (simp [inI, maxLen]; omega)
  refine AWp.ret ?_
  try dsimp only [thenQ, blockQ]
  apply endQ.ret
  · rfl
  · conv => lhs; simp [resAV, Tryd.results56]
  first | rfl | simp [resVal, Tm.row, Tm.rows_eq, Cs.rows_eq, AV.nilD, nilDL, strsD]

end Go.Proofs.YtialccgjbanmcaaDoor
