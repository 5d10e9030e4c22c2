import Derived.Test.YtialccgjbanmcaaDoorFuseP
import Derived.Test.YtialccgjbanmcaaDoorPlainA
/- xcref4.Fused, FusedFn; Each. Printed by a small program. -/
namespace Go.Proofs.YtialccgjbanmcaaDoor
open Go.RowKit
attribute [local simp] runD mkRc ldOf ldArg noAny dstOk guardOk opEff opEff0 effOp pureOp callOp zEff evA constAV frGet memGet startAS frOf isGoCall idIn AS.after nextR opnIds objIds AV.ids idsL AObj.ids frNo memNo opnAny isAny mkVal rdCells wrCells fldAddr idxAddr srcRows litRows toD1 toDs setAt sliceAV optI partAV bldAV fillAV binAV binI AV.cells callEff calleeOf frKill memKill AV.kill AObj.kill AV.has AV.hasL Op.operands Call.operands keepF keepM viewIds cChk renOf moGet moWs moQ cEff moLike moHave AV.ren renL AObj.ren AObj.like kept startC moMem AV.frz frz1 frzL frSub memSub frzs AS.frz frFrz memFrz AObj.frz takeMap takeLen bleF Nat.ble_eq memAny objAny mapOp D.keyOk rowAV valRow extOp wrapOp phO frLow memLow memLow1 objLow memEmpty Low LowL
set_option linter.unusedVariables false
set_option linter.unusedSimpArgs false

theorem fuOne_yes2 {k : Int} {na : Nat} {nm : ByteArray} {dws rest : List ByteArray} {y z : Tm} (hsr : y.sr dws = (rest, z)) (h1 : dws.length ≠ 0) (ha : na = 1) (hk : k = 7) (h2 : z.tk = 9) (h3 : z.nm = nm) : fuOne k na nm dws y = .mk 10 0 nm .empty dws [cnt 9 rest z.a0] [] := by
  unfold fuOne
  rw [hsr]
  exact if_pos ⟨h1, ha, hk, h2, h3⟩
theorem fuOne_no2 {k : Int} {na : Nat} {nm : ByteArray} {dws rest : List ByteArray} {y z : Tm} (hsr : y.sr dws = (rest, z)) (h : dws.length ≠ 0 → na = 1 → k = 7 → z.tk = 9 → z.nm = nm → False) : fuOne k na nm dws y = y := by
  unfold fuOne
  rw [hsr]
  exact if_neg fun ⟨h1, ha, hk, h2, h3⟩ => h h1 ha hk h2 h3
def FdN (N : Nat) : Prop := ∀ t : Tm, t.sz ≤ N → t.Ok → t.Du → PSpec Tryd.prog 20 [tmAV t] (fun _ => tmAV t.fu) none
set_option maxRecDepth 20000 in
set_option maxHeartbeats 16000000 in
theorem fd_step (N : Nat) (ih : FdN N) : FdN (N + 1) := by
  intro t hsz hO hD
  obtain ⟨R, hR⟩ : ∃ R, R = t.fu := ⟨_, rfl⟩
  rw [← hR]
  obtain ⟨rk, rn, ra, rb, rvs, rxs, rcs⟩ := R
  obtain ⟨tk, tn, ta, tb, tvs, txs, tcs⟩ := t
  rw [Tm.fu, Tm.fuL_eq, Cs.fuL_eq] at hR
  obtain ⟨nm0, hn0⟩ : ∃ x, x = nmH txs := ⟨_, rfl⟩
  rw [← hn0] at hR
  have hxO : ∀ x ∈ txs, x.Ok := fun x hx => Tm.Oks_iff.1 hO.2.2.1 x hx
  have hcO : ∀ x ∈ tcs, x.Ok := fun x hx => Cs.Oks_iff.1 hO.2.2.2 x hx
  have hxD : ∀ x ∈ txs, x.Du := fun x hx => Tm.DuL_iff.1 hD.2.1 x hx
  have hcD : ∀ x ∈ tcs, x.Du := fun x hx => Cs.DuL_iff.1 hD.2.2 x hx
  obtain ⟨o1, o2, o3, o4, o5⟩ := hO.vars
  simp only [Tm.sz] at hsz
  refine PSpec.of Tryd.func20 rfl rfl rfl (Nat.le_of_ble_eq_true rfl) ?_
  show AWp _ _ (endQ _ Tryd.f20 _ _ _) (startAS 115 _)
  repeat (first | refine AWp.seq ?_ | refine AWp.block ?_)
  apply AWp.reg [] []
  · conv => lhs; simp [Tm.row, Tm.rows_eq, Cs.rows_eq]
  · (repeat' apply And.intro) <;> first | omega | assumption | trivial | (intros; subst_vars; rfl) | (intro i r h; rcases i with _ | i <;> simp at h; subst h; rfl) | (simp [inI, maxLen]; done) | (simp [inI, maxLen]; omega)
  repeat (first | refine AWp.seq ?_ | refine AWp.block ?_)
  apply AWp.reg [] []
  · conv => lhs; simp [Tm.row, Tm.rows_eq, Cs.rows_eq]
  · (repeat' apply And.intro) <;> first | omega | assumption | trivial | (intros; subst_vars; rfl) | (intro i r h; rcases i with _ | i <;> simp at h; subst h; rfl) | (simp [inI, maxLen]; done) | (simp [inI, maxLen]; omega)
  repeat (first | refine AWp.seq ?_ | refine AWp.block ?_)
  apply AWp.reg [] []
  · conv => lhs; simp [Tm.row, Tm.rows_eq, Cs.rows_eq]
  · (repeat' apply And.intro) <;> first | omega | assumption | trivial | (intros; subst_vars; rfl) | (intro i r h; rcases i with _ | i <;> simp at h; subst h; rfl) | (simp [inI, maxLen]; done) | (simp [inI, maxLen]; omega)
  repeat (first | refine AWp.seq ?_ | refine AWp.block ?_)
  apply AWp.reg [] []
  · conv => lhs; simp [Tm.row, Tm.rows_eq, Cs.rows_eq]
  · (repeat' apply And.intro) <;> first | omega | assumption | trivial | (intros; subst_vars; rfl) | (intro i r h; rcases i with _ | i <;> simp at h; subst h; rfl) | (simp [inI, maxLen]; done) | (simp [inI, maxLen]; omega)
  repeat (first | refine AWp.seq ?_ | refine AWp.block ?_)
  refine AWp.le (Le.low [400] [] (fr := [(1, .ptr 1 0), (2, .ptr 2 0), (3, .ptr 3 0), (15, .d (.sl (txs.map Tm.row))), (16, .d (.int (txs.length : Int))), (17, .d (.int (0 : Int)))]) (mem := [(1, some (.blk 32 [.d (.int tk), .d (.int tn), .d (.str ta), .d (.str tb), .d (strsD tvs), .d (.sl (txs.map Tm.row)), .d (.sl (tcs.map Cs.row))])), (2, some (.blk 32 [.d (.int 0), .d (.int 0), .d (.str ByteArray.empty), .d (.str ByteArray.empty), .lit (.slice none 0 0), .lit (.slice none 0 0), .lit (.slice none 0 0)])), (3, some (.blk 32 [.d (.int tk), .d (.int tn), .d (.str ta), .d (.str tb), .d (strsD tvs), .arr 400 0 ([] : List Tm).length, .lit (.slice none 0 0)])), (400, some (.arr 32 7 (([] : List Tm).map Tm.row)))]) rfl (by simp) (by simp)) ?_
  refine AWp.loop (σ := fun u : {u : Nat × List Tm // u.1 ≤ txs.length ∧ u.2 = (txs.take u.1).map Tm.fu} => ⟨115, [(1, .ptr 1 0), (2, .ptr 2 0), (3, .ptr 3 0), (15, .d (.sl (txs.map Tm.row))), (16, .d (.int (txs.length : Int))), (17, .d (.int (u.1.1 : Int)))], [(1, some (.blk 32 [.d (.int tk), .d (.int tn), .d (.str ta), .d (.str tb), .d (strsD tvs), .d (.sl (txs.map Tm.row)), .d (.sl (tcs.map Cs.row))])), (2, some (.blk 32 [.d (.int 0), .d (.int 0), .d (.str ByteArray.empty), .d (.str ByteArray.empty), .lit (.slice none 0 0), .lit (.slice none 0 0), .lit (.slice none 0 0)])), (3, some (.blk 32 [.d (.int tk), .d (.int tn), .d (.str ta), .d (.str tb), .d (strsD tvs), .arr 400 0 u.1.2.length, .lit (.slice none 0 0)])), (400, some (.arr 32 7 (u.1.2.map Tm.row)))]⟩)
    (μ := fun u => txs.length - u.1.1) ⟨(0, []), ⟨Nat.zero_le _, by simp⟩⟩ (Le.sub (by simp) (by simp)) (fun ⟨(i, ys), ⟨hi4, hw⟩⟩ => ?_)
  dsimp only at hi4 hw ⊢
  repeat (first | refine AWp.seq ?_ | refine AWp.block ?_)
  apply AWp.reg [] []
  · conv => lhs; simp [Tm.row, Tm.rows_eq, Cs.rows_eq]
  · (repeat' apply And.intro) <;> first | omega | assumption | trivial | (intros; subst_vars; rfl) | (intro i r h; rcases i with _ | i <;> simp at h; subst h; rfl) | (simp [inI, maxLen]; done) | (simp [inI, maxLen]; omega)
  repeat (first | refine AWp.seq ?_ | refine AWp.block ?_)
  refine AWp.cond rfl (fun hc => ?_) (fun hc => ?_)
  · have hi1 : i < txs.length := by have := of_decide_eq_true hc; omega
    clear hc
    have h1y : txs[i]? = some txs[i] := List.getElem?_eq_getElem hi1
    have hmy : txs[i] ∈ txs := List.getElem_mem hi1
    have hdy : txs.drop i = txs[i] :: txs.drop (i + 1) := List.drop_eq_getElem_cons hi1
    generalize txs[i] = y at h1y hmy hdy
    have hyl : ys.length = i := by rw [hw, List.length_map, List.length_take]; omega
    have hx := ih y (by have := Tm.szs_mem hmy; omega) (hxO y hmy) (hxD y hmy)
    have hsn : (txs.take (i + 1)).map Tm.fu = ys ++ [y.fu] := by rw [List.take_add_one, h1y, List.map_append, ← hw]; rfl
    generalize y.fu = z at hx hsn
    obtain ⟨yk, yn, ya, yb, yvs, yxs, ycs⟩ := y
    obtain ⟨zk, zn, za, zb, zvs, zxs, zcs⟩ := z
    refine AWp.skip ?_
    repeat (first | refine AWp.seq ?_ | refine AWp.block ?_)
    apply AWp.reg [] []
    · conv => lhs; simp [Tm.row, Tm.rows_eq, Cs.rows_eq, h1y]
    · (repeat' apply And.intro) <;> first | omega | assumption | trivial | (intros; subst_vars; rfl) | (intro i r h; rcases i with _ | i <;> simp at h; subst h; rfl) | (simp [inI, maxLen]; done) | (simp [inI, maxLen]; omega)
    repeat (first | refine AWp.seq ?_ | refine AWp.block ?_)
    apply AWp.draw [] [.p (fun _ => .agg [.d (.int zk), .d (.int zn), .d (.str za), .d (.str zb), .d (strsD zvs), .d (.sl (zxs.map Tm.row)), .d (.sl (zcs.map Cs.row))]) none] mixed
    · conv => lhs; simp [Tm.row, Tm.rows_eq, Cs.rows_eq, h1y]
    · kernel_rfl
    · (repeat' apply And.intro) <;> first | omega | assumption | trivial | (intros; subst_vars; rfl) | (intro i r h; rcases i with _ | i <;> simp at h; subst h; rfl) | (simp [inI, maxLen]; done) | (simp [inI, maxLen]; omega)
    repeat (first | refine AWp.seq ?_ | refine AWp.block ?_)
    apply AWp.reg [] []
    · conv => lhs; simp [Tm.row, Tm.rows_eq, Cs.rows_eq, h1y]
    · (repeat' apply And.intro) <;> first | omega | assumption | trivial | (intros; subst_vars; rfl) | (intro i r h; rcases i with _ | i <;> simp at h; subst h; rfl) | (simp [inI, maxLen]; done) | (simp [inI, maxLen]; omega)
    refine ⟨⟨(i + 1, ys ++ [.mk zk zn za zb zvs zxs zcs]), hi1, hsn.symm⟩, by simp; omega, ?_⟩
    dsimp only
    exact Le.sub (by simp [Tm.row, Tm.rows_eq, Cs.rows_eq, hyl]) (by simp [Tm.row, Tm.rows_eq, Cs.rows_eq, hyl])
  have hi1 : i = txs.length := by have := of_decide_eq_false hc; omega
  subst hi1
  clear hc
  rw [List.take_length] at hw
  have hyl : ys.length = txs.length := by rw [hw, List.length_map]
  rw [← hw] at hR
  clear hw
  refine AWp.exit ?_
  repeat (first | refine AWp.seq ?_ | refine AWp.block ?_)
  apply AWp.reg [] []
  · conv => lhs; simp [Tm.row, Tm.rows_eq, Cs.rows_eq]
  · (repeat' apply And.intro) <;> first | omega | assumption | trivial | (intros; subst_vars; rfl) | (intro i r h; rcases i with _ | i <;> simp at h; subst h; rfl) | (simp [inI, maxLen]; done) | (simp [inI, maxLen]; omega)
  repeat (first | refine AWp.seq ?_ | refine AWp.block ?_)
  refine AWp.le (Le.low [401] [] (fr := [(1, .ptr 1 0), (2, .ptr 2 0), (3, .ptr 3 0), (30, .d (.sl (tcs.map Cs.row))), (31, .d (.int (tcs.length : Int))), (32, .d (.int (0 : Int)))]) (mem := [(1, some (.blk 32 [.d (.int tk), .d (.int tn), .d (.str ta), .d (.str tb), .d (strsD tvs), .d (.sl (txs.map Tm.row)), .d (.sl (tcs.map Cs.row))])), (2, some (.blk 32 [.d (.int 0), .d (.int 0), .d (.str ByteArray.empty), .d (.str ByteArray.empty), .lit (.slice none 0 0), .lit (.slice none 0 0), .lit (.slice none 0 0)])), (3, some (.blk 32 [.d (.int tk), .d (.int tn), .d (.str ta), .d (.str tb), .d (strsD tvs), .arr 400 0 ys.length, .arr 401 0 ([] : List Cs).length])), (400, some (.arr 32 7 (ys.map Tm.row))), (401, some (.arr 50 9 (([] : List Cs).map Cs.row)))]) rfl (by simp) (by simp)) ?_
  refine AWp.loop (σ := fun u : {u : Nat × List Cs // u.1 ≤ tcs.length ∧ u.2 = (tcs.take u.1).map (Cs.fu tk txs.length nm0)} => ⟨115, [(1, .ptr 1 0), (2, .ptr 2 0), (3, .ptr 3 0), (30, .d (.sl (tcs.map Cs.row))), (31, .d (.int (tcs.length : Int))), (32, .d (.int (u.1.1 : Int)))], [(1, some (.blk 32 [.d (.int tk), .d (.int tn), .d (.str ta), .d (.str tb), .d (strsD tvs), .d (.sl (txs.map Tm.row)), .d (.sl (tcs.map Cs.row))])), (2, some (.blk 32 [.d (.int 0), .d (.int 0), .d (.str ByteArray.empty), .d (.str ByteArray.empty), .lit (.slice none 0 0), .lit (.slice none 0 0), .lit (.slice none 0 0)])), (3, some (.blk 32 [.d (.int tk), .d (.int tn), .d (.str ta), .d (.str tb), .d (strsD tvs), .arr 400 0 ys.length, .arr 401 0 u.1.2.length])), (400, some (.arr 32 7 (ys.map Tm.row))), (401, some (.arr 50 9 (u.1.2.map Cs.row)))]⟩)
    (μ := fun u => tcs.length - u.1.1) ⟨(0, []), ⟨Nat.zero_le _, by simp⟩⟩ (Le.sub (by simp) (by simp)) (fun ⟨(i, ds), ⟨hi9, hw2⟩⟩ => ?_)
  dsimp only at hi9 hw2 ⊢
  repeat (first | refine AWp.seq ?_ | refine AWp.block ?_)
  apply AWp.reg [] []
  · conv => lhs; simp [Tm.row, Tm.rows_eq, Cs.rows_eq]
  · (repeat' apply And.intro) <;> first | omega | assumption | trivial | (intros; subst_vars; rfl) | (intro i r h; rcases i with _ | i <;> simp at h; subst h; rfl) | (simp [inI, maxLen]; done) | (simp [inI, maxLen]; omega)
  repeat (first | refine AWp.seq ?_ | refine AWp.block ?_)
  refine AWp.cond rfl (fun hc => ?_) (fun hc => ?_)
  · have hi1 : i < tcs.length := by have := of_decide_eq_true hc; omega
    clear hc
    have h1d : tcs[i]? = some tcs[i] := List.getElem?_eq_getElem hi1
    have hmd : tcs[i] ∈ tcs := List.getElem_mem hi1
    have hdd : tcs.drop i = tcs[i] :: tcs.drop (i + 1) := List.drop_eq_getElem_cons hi1
    generalize tcs[i] = d at h1d hmd hdd
    have hdl : ds.length = i := by rw [hw2, List.length_map, List.length_take]; omega
    have hdO := hcO d hmd
    have hdD := hcD d hmd
    have hsz2 := Cs.szs_mem hmd
    have hsn : (tcs.take (i + 1)).map (Cs.fu tk txs.length nm0) = ds ++ [d.fu tk txs.length nm0] := by rw [List.take_add_one, h1d, List.map_append, ← hw2]; rfl
    obtain ⟨dt, dws, y⟩ := d
    have hx := ih y (by simp only [Cs.sz] at hsz2; omega) hdO.2.2 hdD.2
    obtain ⟨heO, heD⟩ := Tm.fu_ok y hdO.2.2 hdD.2
    have hdl6 : dws.length ≤ 6 := hdD.1
    have hwz : ∀ s ∈ dws, s.size ≤ 140737488355328 := hdO.1
    rw [Cs.fu] at hsn
    generalize y.fu = e at hx heO heD hsn
    obtain ⟨yk, yn, ya, yb, yvs, yxs, ycs⟩ := y
    obtain ⟨ek, en, ea, eb, evs, exs, ecs⟩ := e
    obtain ⟨u, hu⟩ : ∃ u, fuOne tk txs.length nm0 dws (.mk ek en ea eb evs exs ecs) = u := ⟨_, rfl⟩
    rw [hu] at hsn
    obtain ⟨uk, un, ua, ub, uvs, uxs, ucs⟩ := u
    refine AWp.skip ?_
    repeat (first | refine AWp.seq ?_ | refine AWp.block ?_)
    apply AWp.reg [] []
    · conv => lhs; simp [Tm.row, Tm.rows_eq, Cs.rows_eq, h1d, Cs.row]
    · (repeat' apply And.intro) <;> first | omega | assumption | trivial | (intros; subst_vars; rfl) | (intro i r h; rcases i with _ | i <;> simp at h; subst h; rfl) | (simp [inI, maxLen]; done) | (simp [inI, maxLen]; omega)
    repeat (first | refine AWp.seq ?_ | refine AWp.block ?_)
    apply AWp.reg [] [.p (fun _ => .agg [.d (.int ek), .d (.int en), .d (.str ea), .d (.str eb), .d (strsD evs), .d (.sl (exs.map Tm.row)), .d (.sl (ecs.map Cs.row))]) none]
    · conv => lhs; simp [Tm.row, Tm.rows_eq, Cs.rows_eq, h1d, Cs.row]
    · (repeat' apply And.intro) <;> first | omega | assumption | trivial | (intros; subst_vars; rfl) | (intro i r h; rcases i with _ | i <;> simp at h; subst h; rfl) | (simp [inI, maxLen]; done) | (simp [inI, maxLen]; omega)
    repeat (first | refine AWp.seq ?_ | refine AWp.block ?_)
    apply AWp.reg [] []
    · conv => lhs; simp [Tm.row, Tm.rows_eq, Cs.rows_eq, h1d, Cs.row]
    · (repeat' apply And.intro) <;> first | omega | assumption | trivial | (intros; subst_vars; rfl) | (intro i r h; rcases i with _ | i <;> simp at h; subst h; rfl) | (simp [inI, maxLen]; done) | (simp [inI, maxLen]; omega)
    repeat (first | refine AWp.seq ?_ | refine AWp.block ?_)
    apply AWp.reg [] []
    · conv => lhs; simp [Tm.row, Tm.rows_eq, Cs.rows_eq, h1d, Cs.row]
    · (repeat' apply And.intro) <;> first | omega | assumption | trivial | (intros; subst_vars; rfl) | (intro i r h; rcases i with _ | i <;> simp at h; subst h; rfl) | (simp [inI, maxLen]; done) | (simp [inI, maxLen]; omega)
    repeat (first | refine AWp.seq ?_ | refine AWp.block ?_)
    refine AWp.loop (σ := fun u : {u : Int × Int × ByteArray × ByteArray × List ByteArray × List Tm × List Cs × List ByteArray // (Tm.sr (.mk ek en ea eb evs exs ecs) dws = Tm.sr (.mk u.1 u.2.1 u.2.2.1 u.2.2.2.1 u.2.2.2.2.1 u.2.2.2.2.2.1 u.2.2.2.2.2.2.1) u.2.2.2.2.2.2.2 ∧ Tm.Du (.mk u.1 u.2.1 u.2.2.1 u.2.2.2.1 u.2.2.2.2.1 u.2.2.2.2.2.1 u.2.2.2.2.2.2.1) ∧ u.2.2.2.2.2.2.2.length ≤ 6)} => ⟨115, [(1, .ptr 1 0), (2, .ptr 2 0), (3, .ptr 3 0), (7, .ptr 7 0), (8, .ptr 8 0), (9, .d (strsD u.1.2.2.2.2.2.2.2)), (10, .ptr 10 0), (30, .d (.sl (tcs.map Cs.row))), (31, .d (.int (tcs.length : Int))), (32, .d (.int (i : Int)))], [(1, some (.blk 32 [.d (.int tk), .d (.int tn), .d (.str ta), .d (.str tb), .d (strsD tvs), .d (.sl (txs.map Tm.row)), .d (.sl (tcs.map Cs.row))])), (2, some (.blk 32 [.d (.int 0), .d (.int 0), .d (.str ByteArray.empty), .d (.str ByteArray.empty), .lit (.slice none 0 0), .lit (.slice none 0 0), .lit (.slice none 0 0)])), (3, some (.blk 32 [.d (.int tk), .d (.int tn), .d (.str ta), .d (.str tb), .d (strsD tvs), .arr 400 0 ys.length, .arr 401 0 ds.length])), (7, some (.blk 50 [.d (.int dt), .d (strsD dws), .d (.int yk), .d (.int yn), .d (.str ya), .d (.str yb), .d (strsD yvs), .d (.sl (yxs.map Tm.row)), .d (.sl (ycs.map Cs.row))])), (8, some (.blk 32 [.d (.int ek), .d (.int en), .d (.str ea), .d (.str eb), .d (strsD evs), .d (.sl (exs.map Tm.row)), .d (.sl (ecs.map Cs.row))])), (10, some (.blk 32 [.d (.int u.1.1), .d (.int u.1.2.1), .d (.str u.1.2.2.1), .d (.str u.1.2.2.2.1), .d (strsD u.1.2.2.2.2.1), .d (.sl (u.1.2.2.2.2.2.1.map Tm.row)), .d (.sl (u.1.2.2.2.2.2.2.1.map Cs.row))])), (400, some (.arr 32 7 (ys.map Tm.row))), (401, some (.arr 50 9 (ds.map Cs.row)))]⟩)
      (μ := fun u => (Tm.mk u.1.1 u.1.2.1 u.1.2.2.1 u.1.2.2.2.1 u.1.2.2.2.2.1 u.1.2.2.2.2.2.1 u.1.2.2.2.2.2.2.1).sz) ⟨(ek, en, ea, eb, evs, exs, ecs, dws), ⟨rfl, heD, hdl6⟩⟩ (Le.sub (by simp) (by simp)) (fun ⟨(zk, zn, za, zb, zvs, zxs, zcs, us), hw3⟩ => ?_)
    dsimp only at hw3 ⊢
    obtain ⟨hsr, hdu, hul⟩ := hw3
    have hh := sp_Has us za (by omega)
    obtain ⟨qa, hq1⟩ : ∃ q, hasB us za = q := ⟨_, rfl⟩
    rw [hq1] at hh
    by_cases q1 : zk = 8
    · cases qa with
      | true =>
        repeat (first | refine AWp.seq ?_ | refine AWp.block ?_)
        apply AWp.reg [] [.p (fun _ => .d (.bool true)) none]
        · conv => lhs; simp [Tm.row, Tm.rows_eq, Cs.rows_eq, h1d, Cs.row, q1]
        · (repeat' apply And.intro) <;> first | omega | assumption | trivial | (intros; subst_vars; rfl) | (intro i r h; rcases i with _ | i <;> simp at h; subst h; rfl) | (simp [inI, maxLen]; done) | (simp [inI, maxLen]; omega)
        repeat (first | refine AWp.seq ?_ | refine AWp.block ?_)
        refine AWp.cond rfl (fun hc => ?_) (fun hc => ?_)
        rotate_left
        · cases hc
        refine AWp.skip ?_
        have hzn : zxs ≠ [] := hdu.1 (.inl q1)
        obtain ⟨x, r, rfl⟩ : ∃ x r, zxs = x :: r := by
          rcases zxs with _ | ⟨x, r⟩
          · exact absurd rfl hzn
          · exact ⟨x, r, rfl⟩
        have hpk : PSpec Tryd.prog 58 [strsAV us, .d (.sl [[.str za]]), .d (.bool false)] (fun _ => strsAV (woN us [za])) none := sp_pickO us [za] (by omega) (by simp)
        have hWl := woN_len us [za]
        have hsr2 : Tm.sr (.mk ek en ea eb evs exs ecs) dws = x.sr (woN us [za]) := by rw [hsr]; exact if_pos ⟨q1, hq1⟩
        have hxd : x.Du := hdu.2.1.1
        generalize woN us [za] = W at hpk hWl hsr2
        obtain ⟨xk, xn, xa, xb, xvs, xxs, xcs⟩ := x
        repeat (first | refine AWp.seq ?_ | refine AWp.block ?_)
        apply AWp.reg [3] [.p (fun _ => .d (strsD W)) none]
        · conv => lhs; simp [Tm.row, Tm.rows_eq, Cs.rows_eq, h1d, Cs.row, q1]
        · (repeat' apply And.intro) <;> first | omega | assumption | trivial | (intros; subst_vars; rfl) | (intro i r h; rcases i with _ | i <;> simp at h; subst h; rfl) | (simp [inI, maxLen]; done) | (simp [inI, maxLen]; omega)
        repeat (first | refine AWp.seq ?_ | refine AWp.block ?_)
        apply AWp.reg [] []
        · conv => lhs; simp [Tm.row, Tm.rows_eq, Cs.rows_eq, h1d, Cs.row, q1]
        · (repeat' apply And.intro) <;> first | omega | assumption | trivial | (intros; subst_vars; rfl) | (intro i r h; rcases i with _ | i <;> simp at h; subst h; rfl) | (simp [inI, maxLen]; done) | (simp [inI, maxLen]; omega)
        refine ⟨⟨(xk, xn, xa, xb, xvs, xxs, xcs, W), ⟨hsr2, hxd, by dsimp only; omega⟩⟩, by simp only [Tm.sz, Tm.szs]; omega, ?_⟩
        dsimp only
        exact Le.sub (by simp) (by simp)
      | false =>
        repeat (first | refine AWp.seq ?_ | refine AWp.block ?_)
        apply AWp.reg [] [.p (fun _ => .d (.bool false)) none]
        · conv => lhs; simp [Tm.row, Tm.rows_eq, Cs.rows_eq, h1d, Cs.row, q1]
        · (repeat' apply And.intro) <;> first | omega | assumption | trivial | (intros; subst_vars; rfl) | (intro i r h; rcases i with _ | i <;> simp at h; subst h; rfl) | (simp [inI, maxLen]; done) | (simp [inI, maxLen]; omega)
        repeat (first | refine AWp.seq ?_ | refine AWp.block ?_)
        refine AWp.cond rfl (fun hc => ?_) (fun hc => ?_)
        · cases hc
        refine AWp.exit ?_
        have hsz3 : Tm.sr (.mk zk zn za zb zvs zxs zcs) us = (us, (.mk zk zn za zb zvs zxs zcs)) := by
          refine if_neg fun h => ?_
          have h2 := h.2
          rw [hq1] at h2
          cases h2
        rw [hsz3] at hsr
        obtain ⟨A, hA⟩ : ∃ A : Int, (dws.length : Int) = A := ⟨_, rfl⟩
        obtain ⟨B, hB⟩ : ∃ B : Int, (txs.length : Int) = B := ⟨_, rfl⟩
        by_cases hB1 : B = 1
        · obtain ⟨x, hx1⟩ : ∃ x, txs = [x] := by
            rcases txs with _ | ⟨x, _ | ⟨y, r⟩⟩
            · simp at hB; omega
            · exact ⟨x, rfl⟩
            · simp at hB; omega
          have h1x : txs[0]? = some x := by rw [hx1]; rfl
          have hn1 : x.nm = nm0 := by rw [hn0, hx1]; rfl
          obtain ⟨xk, xn, xa, xb, xvs, xxs, xcs⟩ := x
          obtain rfl : nm0 = xa := hn1.symm
          by_cases q2 : 0 < A
          · by_cases q3 : tk = 7
            · repeat (first | refine AWp.seq ?_ | refine AWp.block ?_)
              apply AWp.draw [] [] mixed
              · conv => lhs; simp [Tm.row, Tm.rows_eq, Cs.rows_eq, h1d, Cs.row, hA, hB, h1x, q1, hB1, q2, q3]
              · kernel_rfl
              · (repeat' apply And.intro) <;> first | omega | assumption | trivial | (intros; subst_vars; rfl) | (intro i r h; rcases i with _ | i <;> simp at h; subst h; rfl) | (simp [inI, maxLen]; done) | (simp [inI, maxLen]; omega)
              repeat (first | refine AWp.seq ?_ | refine AWp.block ?_)
              refine AWp.cond rfl (fun hc => ?_) (fun hc => ?_)
              · cases hc
              refine AWp.skip ?_
              rw [fuOne_no2 hsr fun h1 h2 h3 h4 h5 => by
                have h6 : zk = 9 := h4
                have h7 : za = nm0 := h5
                first | omega | (exact absurd h7 (by assumption))] at hu
              injection hu with e1 e2 e3 e4 e5 e6 e7
              subst e1 e2 e3 e4 e5 e6 e7
              repeat (first | refine AWp.seq ?_ | refine AWp.block ?_)
              apply AWp.reg [] []
              · conv => lhs; simp [Tm.row, Tm.rows_eq, Cs.rows_eq, h1d, Cs.row, q1, hB1, q2, q3]
              · (repeat' apply And.intro) <;> first | omega | assumption | trivial | (intros; subst_vars; rfl) | (intro i r h; rcases i with _ | i <;> simp at h; subst h; rfl) | (simp [inI, maxLen]; done) | (simp [inI, maxLen]; omega)
              repeat (first | refine AWp.seq ?_ | refine AWp.block ?_)
              apply AWp.reg [] []
              · conv => lhs; simp [Tm.row, Tm.rows_eq, Cs.rows_eq, h1d, Cs.row, q1, hB1, q2, q3]
              · (repeat' apply And.intro) <;> first | omega | assumption | trivial | (intros; subst_vars; rfl) | (intro i r h; rcases i with _ | i <;> simp at h; subst h; rfl) | (simp [inI, maxLen]; done) | (simp [inI, maxLen]; omega)
              refine ⟨⟨(i + 1, ds ++ [.mk dt dws (.mk ek en ea eb evs exs ecs)]), hi1, hsn.symm⟩, by simp; omega, ?_⟩
              dsimp only
              exact Le.sub (by simp [Cs.row, Tm.row, Tm.rows_eq, Cs.rows_eq, hdl, q3]) (by simp [Cs.row, Tm.row, Tm.rows_eq, Cs.rows_eq, hdl, q3])
            repeat (first | refine AWp.seq ?_ | refine AWp.block ?_)
            apply AWp.draw [] [] mixed
            · conv => lhs; simp [Tm.row, Tm.rows_eq, Cs.rows_eq, h1d, Cs.row, hA, hB, h1x, q1, hB1, q2, q3]
            · kernel_rfl
            · (repeat' apply And.intro) <;> first | omega | assumption | trivial | (intros; subst_vars; rfl) | (intro i r h; rcases i with _ | i <;> simp at h; subst h; rfl) | (simp [inI, maxLen]; done) | (simp [inI, maxLen]; omega)
            repeat (first | refine AWp.seq ?_ | refine AWp.block ?_)
            refine AWp.cond rfl (fun hc => ?_) (fun hc => ?_)
            · cases hc
            refine AWp.skip ?_
            rw [fuOne_no2 hsr fun h1 h2 h3 h4 h5 => by
              have h6 : zk = 9 := h4
              have h7 : za = nm0 := h5
              first | omega | (exact absurd h7 (by assumption))] at hu
            injection hu with e1 e2 e3 e4 e5 e6 e7
            subst e1 e2 e3 e4 e5 e6 e7
            repeat (first | refine AWp.seq ?_ | refine AWp.block ?_)
            apply AWp.reg [] []
            · conv => lhs; simp [Tm.row, Tm.rows_eq, Cs.rows_eq, h1d, Cs.row, q1, hB1, q2, q3]
            · (repeat' apply And.intro) <;> first | omega | assumption | trivial | (intros; subst_vars; rfl) | (intro i r h; rcases i with _ | i <;> simp at h; subst h; rfl) | (simp [inI, maxLen]; done) | (simp [inI, maxLen]; omega)
            repeat (first | refine AWp.seq ?_ | refine AWp.block ?_)
            apply AWp.reg [] []
            · conv => lhs; simp [Tm.row, Tm.rows_eq, Cs.rows_eq, h1d, Cs.row, q1, hB1, q2, q3]
            · (repeat' apply And.intro) <;> first | omega | assumption | trivial | (intros; subst_vars; rfl) | (intro i r h; rcases i with _ | i <;> simp at h; subst h; rfl) | (simp [inI, maxLen]; done) | (simp [inI, maxLen]; omega)
            refine ⟨⟨(i + 1, ds ++ [.mk dt dws (.mk ek en ea eb evs exs ecs)]), hi1, hsn.symm⟩, by simp; omega, ?_⟩
            dsimp only
            exact Le.sub (by simp [Cs.row, Tm.row, Tm.rows_eq, Cs.rows_eq, hdl]) (by simp [Cs.row, Tm.row, Tm.rows_eq, Cs.rows_eq, hdl])
          repeat (first | refine AWp.seq ?_ | refine AWp.block ?_)
          apply AWp.draw [] [] mixed
          · conv => lhs; simp [Tm.row, Tm.rows_eq, Cs.rows_eq, h1d, Cs.row, hA, hB, h1x, q1, hB1, q2]
          · kernel_rfl
          · (repeat' apply And.intro) <;> first | omega | assumption | trivial | (intros; subst_vars; rfl) | (intro i r h; rcases i with _ | i <;> simp at h; subst h; rfl) | (simp [inI, maxLen]; done) | (simp [inI, maxLen]; omega)
          repeat (first | refine AWp.seq ?_ | refine AWp.block ?_)
          refine AWp.cond rfl (fun hc => ?_) (fun hc => ?_)
          · cases hc
          refine AWp.skip ?_
          rw [fuOne_no2 hsr fun h1 h2 h3 h4 h5 => by
            have h6 : zk = 9 := h4
            have h7 : za = nm0 := h5
            first | omega | (exact absurd h7 (by assumption))] at hu
          injection hu with e1 e2 e3 e4 e5 e6 e7
          subst e1 e2 e3 e4 e5 e6 e7
          repeat (first | refine AWp.seq ?_ | refine AWp.block ?_)
          apply AWp.reg [] []
          · conv => lhs; simp [Tm.row, Tm.rows_eq, Cs.rows_eq, h1d, Cs.row, q1, hB1, q2]
          · (repeat' apply And.intro) <;> first | omega | assumption | trivial | (intros; subst_vars; rfl) | (intro i r h; rcases i with _ | i <;> simp at h; subst h; rfl) | (simp [inI, maxLen]; done) | (simp [inI, maxLen]; omega)
          repeat (first | refine AWp.seq ?_ | refine AWp.block ?_)
          apply AWp.reg [] []
          · conv => lhs; simp [Tm.row, Tm.rows_eq, Cs.rows_eq, h1d, Cs.row, q1, hB1, q2]
          · (repeat' apply And.intro) <;> first | omega | assumption | trivial | (intros; subst_vars; rfl) | (intro i r h; rcases i with _ | i <;> simp at h; subst h; rfl) | (simp [inI, maxLen]; done) | (simp [inI, maxLen]; omega)
          refine ⟨⟨(i + 1, ds ++ [.mk dt dws (.mk ek en ea eb evs exs ecs)]), hi1, hsn.symm⟩, by simp; omega, ?_⟩
          dsimp only
          exact Le.sub (by simp [Cs.row, Tm.row, Tm.rows_eq, Cs.rows_eq, hdl]) (by simp [Cs.row, Tm.row, Tm.rows_eq, Cs.rows_eq, hdl])
        by_cases q4 : 0 < A
        · repeat (first | refine AWp.seq ?_ | refine AWp.block ?_)
          apply AWp.draw [] [] mixed
          · conv => lhs; simp [Tm.row, Tm.rows_eq, Cs.rows_eq, h1d, Cs.row, hA, hB, q1, hB1, q4]
          · kernel_rfl
          · (repeat' apply And.intro) <;> first | omega | assumption | trivial | (intros; subst_vars; rfl) | (intro i r h; rcases i with _ | i <;> simp at h; subst h; rfl) | (simp [inI, maxLen]; done) | (simp [inI, maxLen]; omega)
          repeat (first | refine AWp.seq ?_ | refine AWp.block ?_)
          refine AWp.cond rfl (fun hc => ?_) (fun hc => ?_)
          · cases hc
          refine AWp.skip ?_
          rw [fuOne_no2 hsr fun h1 h2 h3 h4 h5 => by
            have h6 : zk = 9 := h4
            have h7 : za = nm0 := h5
            first | omega | (exact absurd h7 (by assumption))] at hu
          injection hu with e1 e2 e3 e4 e5 e6 e7
          subst e1 e2 e3 e4 e5 e6 e7
          repeat (first | refine AWp.seq ?_ | refine AWp.block ?_)
          apply AWp.reg [] []
          · conv => lhs; simp [Tm.row, Tm.rows_eq, Cs.rows_eq, h1d, Cs.row, q1, hB1, q4]
          · (repeat' apply And.intro) <;> first | omega | assumption | trivial | (intros; subst_vars; rfl) | (intro i r h; rcases i with _ | i <;> simp at h; subst h; rfl) | (simp [inI, maxLen]; done) | (simp [inI, maxLen]; omega)
          repeat (first | refine AWp.seq ?_ | refine AWp.block ?_)
          apply AWp.reg [] []
          · conv => lhs; simp [Tm.row, Tm.rows_eq, Cs.rows_eq, h1d, Cs.row, q1, hB1, q4]
          · (repeat' apply And.intro) <;> first | omega | assumption | trivial | (intros; subst_vars; rfl) | (intro i r h; rcases i with _ | i <;> simp at h; subst h; rfl) | (simp [inI, maxLen]; done) | (simp [inI, maxLen]; omega)
          refine ⟨⟨(i + 1, ds ++ [.mk dt dws (.mk ek en ea eb evs exs ecs)]), hi1, hsn.symm⟩, by simp; omega, ?_⟩
          dsimp only
          exact Le.sub (by simp [Cs.row, Tm.row, Tm.rows_eq, Cs.rows_eq, hdl]) (by simp [Cs.row, Tm.row, Tm.rows_eq, Cs.rows_eq, hdl])
        repeat (first | refine AWp.seq ?_ | refine AWp.block ?_)
        apply AWp.draw [] [] mixed
        · conv => lhs; simp [Tm.row, Tm.rows_eq, Cs.rows_eq, h1d, Cs.row, hA, hB, q1, hB1, q4]
        · kernel_rfl
        · (repeat' apply And.intro) <;> first | omega | assumption | trivial | (intros; subst_vars; rfl) | (intro i r h; rcases i with _ | i <;> simp at h; subst h; rfl) | (simp [inI, maxLen]; done) | (simp [inI, maxLen]; omega)
        repeat (first | refine AWp.seq ?_ | refine AWp.block ?_)
        refine AWp.cond rfl (fun hc => ?_) (fun hc => ?_)
        · cases hc
        refine AWp.skip ?_
        rw [fuOne_no2 hsr fun h1 h2 h3 h4 h5 => by
          have h6 : zk = 9 := h4
          have h7 : za = nm0 := h5
          first | omega | (exact absurd h7 (by assumption))] at hu
        injection hu with e1 e2 e3 e4 e5 e6 e7
        subst e1 e2 e3 e4 e5 e6 e7
        repeat (first | refine AWp.seq ?_ | refine AWp.block ?_)
        apply AWp.reg [] []
        · conv => lhs; simp [Tm.row, Tm.rows_eq, Cs.rows_eq, h1d, Cs.row, q1, hB1, q4]
        · (repeat' apply And.intro) <;> first | omega | assumption | trivial | (intros; subst_vars; rfl) | (intro i r h; rcases i with _ | i <;> simp at h; subst h; rfl) | (simp [inI, maxLen]; done) | (simp [inI, maxLen]; omega)
        repeat (first | refine AWp.seq ?_ | refine AWp.block ?_)
        apply AWp.reg [] []
        · conv => lhs; simp [Tm.row, Tm.rows_eq, Cs.rows_eq, h1d, Cs.row, q1, hB1, q4]
        · (repeat' apply And.intro) <;> first | omega | assumption | trivial | (intros; subst_vars; rfl) | (intro i r h; rcases i with _ | i <;> simp at h; subst h; rfl) | (simp [inI, maxLen]; done) | (simp [inI, maxLen]; omega)
        refine ⟨⟨(i + 1, ds ++ [.mk dt dws (.mk ek en ea eb evs exs ecs)]), hi1, hsn.symm⟩, by simp; omega, ?_⟩
        dsimp only
        exact Le.sub (by simp [Cs.row, Tm.row, Tm.rows_eq, Cs.rows_eq, hdl]) (by simp [Cs.row, Tm.row, Tm.rows_eq, Cs.rows_eq, hdl])
    repeat (first | refine AWp.seq ?_ | refine AWp.block ?_)
    apply AWp.reg [] []
    · conv => lhs; simp [Tm.row, Tm.rows_eq, Cs.rows_eq, h1d, Cs.row, q1]
    · (repeat' apply And.intro) <;> first | omega | assumption | trivial | (intros; subst_vars; rfl) | (intro i r h; rcases i with _ | i <;> simp at h; subst h; rfl) | (simp [inI, maxLen]; done) | (simp [inI, maxLen]; omega)
    repeat (first | refine AWp.seq ?_ | refine AWp.block ?_)
    refine AWp.cond rfl (fun hc => ?_) (fun hc => ?_)
    · cases hc
    refine AWp.exit ?_
    have hsz3 : Tm.sr (.mk zk zn za zb zvs zxs zcs) us = (us, (.mk zk zn za zb zvs zxs zcs)) := by
      refine if_neg fun h => ?_
      exact absurd h.1 q1
    rw [hsz3] at hsr
    obtain ⟨A, hA⟩ : ∃ A : Int, (dws.length : Int) = A := ⟨_, rfl⟩
    obtain ⟨B, hB⟩ : ∃ B : Int, (txs.length : Int) = B := ⟨_, rfl⟩
    by_cases hB1 : B = 1
    · obtain ⟨x, hx1⟩ : ∃ x, txs = [x] := by
        rcases txs with _ | ⟨x, _ | ⟨y, r⟩⟩
        · simp at hB; omega
        · exact ⟨x, rfl⟩
        · simp at hB; omega
      have h1x : txs[0]? = some x := by rw [hx1]; rfl
      have hn1 : x.nm = nm0 := by rw [hn0, hx1]; rfl
      obtain ⟨xk, xn, xa, xb, xvs, xxs, xcs⟩ := x
      obtain rfl : nm0 = xa := hn1.symm
      by_cases q5 : 0 < A
      · by_cases q6 : tk = 7
        · by_cases q7 : zk = 9
          · by_cases q8 : za = nm0
            · repeat (first | refine AWp.seq ?_ | refine AWp.block ?_)
              apply AWp.draw [] [] mixed
              · conv => lhs; simp [Tm.row, Tm.rows_eq, Cs.rows_eq, h1d, Cs.row, hA, hB, h1x, q1, hB1, q5, q6, q7, q8]
              · kernel_rfl
              · (repeat' apply And.intro) <;> first | omega | assumption | trivial | (intros; subst_vars; rfl) | (intro i r h; rcases i with _ | i <;> simp at h; subst h; rfl) | (simp [inI, maxLen]; done) | (simp [inI, maxLen]; omega)
              repeat (first | refine AWp.seq ?_ | refine AWp.block ?_)
              refine AWp.cond rfl (fun hc => ?_) (fun hc => ?_)
              rotate_left
              · cases hc
              have hzn : zxs ≠ [] := hdu.1 (.inr q7)
              obtain ⟨x2, r, rfl⟩ : ∃ x r, zxs = x :: r := by
                rcases zxs with _ | ⟨x, r⟩
                · exact absurd rfl hzn
                · exact ⟨x, r, rfl⟩
              rw [fuOne_yes2 hsr (by omega) (by omega) q6 q7 q8] at hu
              rw [show Tm.a0 (.mk zk zn za zb zvs (x2 :: r) zcs) = x2 from rfl] at hu
              obtain ⟨vk, vn, va, vb, vvs, vxs, vcs⟩ := x2
              have hct := sp_count 9 us vk vn va vb vvs vxs vcs (by omega)
              generalize cnt 9 us (.mk vk vn va vb vvs vxs vcs) = c at hct hu
              obtain ⟨ck, cn, ca, cb, cvs, cxs, ccs⟩ := c
              injection hu with e1 e2 e3 e4 e5 e6 e7
              subst e1 e2 e3 e4 e5 e6 e7
              repeat (first | refine AWp.seq ?_ | refine AWp.block ?_)
              apply AWp.draw [10] [.p (fun _ => .agg [.d (.int ck), .d (.int cn), .d (.str ca), .d (.str cb), .d (strsD cvs), .d (.sl (cxs.map Tm.row)), .d (.sl (ccs.map Cs.row))]) none] mixed
              · conv => lhs; simp [Tm.row, Tm.rows_eq, Cs.rows_eq, h1d, Cs.row, q1, hB1, q5, q6, q7, q8]
              · kernel_rfl
              · (repeat' apply And.intro) <;> first | omega | assumption | trivial | (intros; subst_vars; rfl) | (intro i r h; rcases i with _ | i <;> simp at h; subst h; rfl) | (simp [inI, maxLen]; done) | (simp [inI, maxLen]; omega)
              repeat (first | refine AWp.seq ?_ | refine AWp.block ?_)
              apply AWp.reg [] []
              · conv => lhs; simp [Tm.row, Tm.rows_eq, Cs.rows_eq, h1d, Cs.row, q1, hB1, q5, q6, q7, q8]
              · (repeat' apply And.intro) <;> first | omega | assumption | trivial | (intros; subst_vars; rfl) | (intro i r h; rcases i with _ | i <;> simp at h; subst h; rfl) | (simp [inI, maxLen]; done) | (simp [inI, maxLen]; omega)
              repeat (first | refine AWp.seq ?_ | refine AWp.block ?_)
              apply AWp.reg [] []
              · conv => lhs; simp [Tm.row, Tm.rows_eq, Cs.rows_eq, h1d, Cs.row, q1, hB1, q5, q6, q7, q8]
              · (repeat' apply And.intro) <;> first | omega | assumption | trivial | (intros; subst_vars; rfl) | (intro i r h; rcases i with _ | i <;> simp at h; subst h; rfl) | (simp [inI, maxLen]; done) | (simp [inI, maxLen]; omega)
              refine ⟨⟨(i + 1, ds ++ [.mk dt dws (.mk 10 0 nm0 .empty dws [.mk ck cn ca cb cvs cxs ccs] [])]), hi1, hsn.symm⟩, by simp; omega, ?_⟩
              dsimp only
              exact Le.sub (by simp [Cs.row, Tm.row, Tm.rows_eq, Cs.rows_eq, hdl, q6, q7, q8]) (by simp [Cs.row, Tm.row, Tm.rows_eq, Cs.rows_eq, hdl, q6, q7, q8])
            repeat (first | refine AWp.seq ?_ | refine AWp.block ?_)
            apply AWp.draw [] [] mixed
            · conv => lhs; simp [Tm.row, Tm.rows_eq, Cs.rows_eq, h1d, Cs.row, hA, hB, h1x, q1, hB1, q5, q6, q7, q8]
            · kernel_rfl
            · (repeat' apply And.intro) <;> first | omega | assumption | trivial | (intros; subst_vars; rfl) | (intro i r h; rcases i with _ | i <;> simp at h; subst h; rfl) | (simp [inI, maxLen]; done) | (simp [inI, maxLen]; omega)
            repeat (first | refine AWp.seq ?_ | refine AWp.block ?_)
            refine AWp.cond rfl (fun hc => ?_) (fun hc => ?_)
            · cases hc
            refine AWp.skip ?_
            rw [fuOne_no2 hsr fun h1 h2 h3 h4 h5 => by
              have h6 : zk = 9 := h4
              have h7 : za = nm0 := h5
              first | omega | (exact absurd h7 (by assumption))] at hu
            injection hu with e1 e2 e3 e4 e5 e6 e7
            subst e1 e2 e3 e4 e5 e6 e7
            repeat (first | refine AWp.seq ?_ | refine AWp.block ?_)
            apply AWp.reg [] []
            · conv => lhs; simp [Tm.row, Tm.rows_eq, Cs.rows_eq, h1d, Cs.row, q1, hB1, q5, q6, q7, q8]
            · (repeat' apply And.intro) <;> first | omega | assumption | trivial | (intros; subst_vars; rfl) | (intro i r h; rcases i with _ | i <;> simp at h; subst h; rfl) | (simp [inI, maxLen]; done) | (simp [inI, maxLen]; omega)
            repeat (first | refine AWp.seq ?_ | refine AWp.block ?_)
            apply AWp.reg [] []
            · conv => lhs; simp [Tm.row, Tm.rows_eq, Cs.rows_eq, h1d, Cs.row, q1, hB1, q5, q6, q7, q8]
            · (repeat' apply And.intro) <;> first | omega | assumption | trivial | (intros; subst_vars; rfl) | (intro i r h; rcases i with _ | i <;> simp at h; subst h; rfl) | (simp [inI, maxLen]; done) | (simp [inI, maxLen]; omega)
            refine ⟨⟨(i + 1, ds ++ [.mk dt dws (.mk ek en ea eb evs exs ecs)]), hi1, hsn.symm⟩, by simp; omega, ?_⟩
            dsimp only
            exact Le.sub (by simp [Cs.row, Tm.row, Tm.rows_eq, Cs.rows_eq, hdl, q6, q7]) (by simp [Cs.row, Tm.row, Tm.rows_eq, Cs.rows_eq, hdl, q6, q7])
          repeat (first | refine AWp.seq ?_ | refine AWp.block ?_)
          apply AWp.draw [] [] mixed
          · conv => lhs; simp [Tm.row, Tm.rows_eq, Cs.rows_eq, h1d, Cs.row, hA, hB, h1x, q1, hB1, q5, q6, q7]
          · kernel_rfl
          · (repeat' apply And.intro) <;> first | omega | assumption | trivial | (intros; subst_vars; rfl) | (intro i r h; rcases i with _ | i <;> simp at h; subst h; rfl) | (simp [inI, maxLen]; done) | (simp [inI, maxLen]; omega)
          repeat (first | refine AWp.seq ?_ | refine AWp.block ?_)
          refine AWp.cond rfl (fun hc => ?_) (fun hc => ?_)
          · cases hc
          refine AWp.skip ?_
          rw [fuOne_no2 hsr fun h1 h2 h3 h4 h5 => by
            have h6 : zk = 9 := h4
            have h7 : za = nm0 := h5
            first | omega | (exact absurd h7 (by assumption))] at hu
          injection hu with e1 e2 e3 e4 e5 e6 e7
          subst e1 e2 e3 e4 e5 e6 e7
          repeat (first | refine AWp.seq ?_ | refine AWp.block ?_)
          apply AWp.reg [] []
          · conv => lhs; simp [Tm.row, Tm.rows_eq, Cs.rows_eq, h1d, Cs.row, q1, hB1, q5, q6, q7]
          · (repeat' apply And.intro) <;> first | omega | assumption | trivial | (intros; subst_vars; rfl) | (intro i r h; rcases i with _ | i <;> simp at h; subst h; rfl) | (simp [inI, maxLen]; done) | (simp [inI, maxLen]; omega)
          repeat (first | refine AWp.seq ?_ | refine AWp.block ?_)
          apply AWp.reg [] []
          · conv => lhs; simp [Tm.row, Tm.rows_eq, Cs.rows_eq, h1d, Cs.row, q1, hB1, q5, q6, q7]
          · (repeat' apply And.intro) <;> first | omega | assumption | trivial | (intros; subst_vars; rfl) | (intro i r h; rcases i with _ | i <;> simp at h; subst h; rfl) | (simp [inI, maxLen]; done) | (simp [inI, maxLen]; omega)
          refine ⟨⟨(i + 1, ds ++ [.mk dt dws (.mk ek en ea eb evs exs ecs)]), hi1, hsn.symm⟩, by simp; omega, ?_⟩
          dsimp only
          exact Le.sub (by simp [Cs.row, Tm.row, Tm.rows_eq, Cs.rows_eq, hdl, q6]) (by simp [Cs.row, Tm.row, Tm.rows_eq, Cs.rows_eq, hdl, q6])
        repeat (first | refine AWp.seq ?_ | refine AWp.block ?_)
        apply AWp.draw [] [] mixed
        · conv => lhs; simp [Tm.row, Tm.rows_eq, Cs.rows_eq, h1d, Cs.row, hA, hB, h1x, q1, hB1, q5, q6]
        · kernel_rfl
        · (repeat' apply And.intro) <;> first | omega | assumption | trivial | (intros; subst_vars; rfl) | (intro i r h; rcases i with _ | i <;> simp at h; subst h; rfl) | (simp [inI, maxLen]; done) | (simp [inI, maxLen]; omega)
        repeat (first | refine AWp.seq ?_ | refine AWp.block ?_)
        refine AWp.cond rfl (fun hc => ?_) (fun hc => ?_)
        · cases hc
        refine AWp.skip ?_
        rw [fuOne_no2 hsr fun h1 h2 h3 h4 h5 => by
          have h6 : zk = 9 := h4
          have h7 : za = nm0 := h5
          first | omega | (exact absurd h7 (by assumption))] at hu
        injection hu with e1 e2 e3 e4 e5 e6 e7
        subst e1 e2 e3 e4 e5 e6 e7
        repeat (first | refine AWp.seq ?_ | refine AWp.block ?_)
        apply AWp.reg [] []
        · conv => lhs; simp [Tm.row, Tm.rows_eq, Cs.rows_eq, h1d, Cs.row, q1, hB1, q5, q6]
        · (repeat' apply And.intro) <;> first | omega | assumption | trivial | (intros; subst_vars; rfl) | (intro i r h; rcases i with _ | i <;> simp at h; subst h; rfl) | (simp [inI, maxLen]; done) | (simp [inI, maxLen]; omega)
        repeat (first | refine AWp.seq ?_ | refine AWp.block ?_)
        apply AWp.reg [] []
        · conv => lhs; simp [Tm.row, Tm.rows_eq, Cs.rows_eq, h1d, Cs.row, q1, hB1, q5, q6]
        · (repeat' apply And.intro) <;> first | omega | assumption | trivial | (intros; subst_vars; rfl) | (intro i r h; rcases i with _ | i <;> simp at h; subst h; rfl) | (simp [inI, maxLen]; done) | (simp [inI, maxLen]; omega)
        refine ⟨⟨(i + 1, ds ++ [.mk dt dws (.mk ek en ea eb evs exs ecs)]), hi1, hsn.symm⟩, by simp; omega, ?_⟩
        dsimp only
        exact Le.sub (by simp [Cs.row, Tm.row, Tm.rows_eq, Cs.rows_eq, hdl]) (by simp [Cs.row, Tm.row, Tm.rows_eq, Cs.rows_eq, hdl])
      repeat (first | refine AWp.seq ?_ | refine AWp.block ?_)
      apply AWp.draw [] [] mixed
      · conv => lhs; simp [Tm.row, Tm.rows_eq, Cs.rows_eq, h1d, Cs.row, hA, hB, h1x, q1, hB1, q5]
      · kernel_rfl
      · (repeat' apply And.intro) <;> first | omega | assumption | trivial | (intros; subst_vars; rfl) | (intro i r h; rcases i with _ | i <;> simp at h; subst h; rfl) | (simp [inI, maxLen]; done) | (simp [inI, maxLen]; omega)
      repeat (first | refine AWp.seq ?_ | refine AWp.block ?_)
      refine AWp.cond rfl (fun hc => ?_) (fun hc => ?_)
      · cases hc
      refine AWp.skip ?_
      rw [fuOne_no2 hsr fun h1 h2 h3 h4 h5 => by
        have h6 : zk = 9 := h4
        have h7 : za = nm0 := h5
        first | omega | (exact absurd h7 (by assumption))] at hu
      injection hu with e1 e2 e3 e4 e5 e6 e7
      subst e1 e2 e3 e4 e5 e6 e7
      repeat (first | refine AWp.seq ?_ | refine AWp.block ?_)
      apply AWp.reg [] []
      · conv => lhs; simp [Tm.row, Tm.rows_eq, Cs.rows_eq, h1d, Cs.row, q1, hB1, q5]
      · (repeat' apply And.intro) <;> first | omega | assumption | trivial | (intros; subst_vars; rfl) | (intro i r h; rcases i with _ | i <;> simp at h; subst h; rfl) | (simp [inI, maxLen]; done) | (simp [inI, maxLen]; omega)
      repeat (first | refine AWp.seq ?_ | refine AWp.block ?_)
      apply AWp.reg [] []
      · conv => lhs; simp [Tm.row, Tm.rows_eq, Cs.rows_eq, h1d, Cs.row, q1, hB1, q5]
      · (repeat' apply And.intro) <;> first | omega | assumption | trivial | (intros; subst_vars; rfl) | (intro i r h; rcases i with _ | i <;> simp at h; subst h; rfl) | (simp [inI, maxLen]; done) | (simp [inI, maxLen]; omega)
      refine ⟨⟨(i + 1, ds ++ [.mk dt dws (.mk ek en ea eb evs exs ecs)]), hi1, hsn.symm⟩, by simp; omega, ?_⟩
      dsimp only
      exact Le.sub (by simp [Cs.row, Tm.row, Tm.rows_eq, Cs.rows_eq, hdl]) (by simp [Cs.row, Tm.row, Tm.rows_eq, Cs.rows_eq, hdl])
    by_cases q9 : 0 < A
    · repeat (first | refine AWp.seq ?_ | refine AWp.block ?_)
      apply AWp.draw [] [] mixed
      · conv => lhs; simp [Tm.row, Tm.rows_eq, Cs.rows_eq, h1d, Cs.row, hA, hB, q1, hB1, q9]
      · kernel_rfl
      · (repeat' apply And.intro) <;> first | omega | assumption | trivial | (intros; subst_vars; rfl) | (intro i r h; rcases i with _ | i <;> simp at h; subst h; rfl) | (simp [inI, maxLen]; done) | (simp [inI, maxLen]; omega)
      repeat (first | refine AWp.seq ?_ | refine AWp.block ?_)
      refine AWp.cond rfl (fun hc => ?_) (fun hc => ?_)
      · cases hc
      refine AWp.skip ?_
      rw [fuOne_no2 hsr fun h1 h2 h3 h4 h5 => by
        have h6 : zk = 9 := h4
        have h7 : za = nm0 := h5
        first | omega | (exact absurd h7 (by assumption))] at hu
      injection hu with e1 e2 e3 e4 e5 e6 e7
      subst e1 e2 e3 e4 e5 e6 e7
      repeat (first | refine AWp.seq ?_ | refine AWp.block ?_)
      apply AWp.reg [] []
      · conv => lhs; simp [Tm.row, Tm.rows_eq, Cs.rows_eq, h1d, Cs.row, q1, hB1, q9]
      · (repeat' apply And.intro) <;> first | omega | assumption | trivial | (intros; subst_vars; rfl) | (intro i r h; rcases i with _ | i <;> simp at h; subst h; rfl) | (simp [inI, maxLen]; done) | (simp [inI, maxLen]; omega)
      repeat (first | refine AWp.seq ?_ | refine AWp.block ?_)
      apply AWp.reg [] []
      · conv => lhs; simp [Tm.row, Tm.rows_eq, Cs.rows_eq, h1d, Cs.row, q1, hB1, q9]
      · (repeat' apply And.intro) <;> first | omega | assumption | trivial | (intros; subst_vars; rfl) | (intro i r h; rcases i with _ | i <;> simp at h; subst h; rfl) | (simp [inI, maxLen]; done) | (simp [inI, maxLen]; omega)
      refine ⟨⟨(i + 1, ds ++ [.mk dt dws (.mk ek en ea eb evs exs ecs)]), hi1, hsn.symm⟩, by simp; omega, ?_⟩
      dsimp only
      exact Le.sub (by simp [Cs.row, Tm.row, Tm.rows_eq, Cs.rows_eq, hdl]) (by simp [Cs.row, Tm.row, Tm.rows_eq, Cs.rows_eq, hdl])
    repeat (first | refine AWp.seq ?_ | refine AWp.block ?_)
    apply AWp.draw [] [] mixed
    · conv => lhs; simp [Tm.row, Tm.rows_eq, Cs.rows_eq, h1d, Cs.row, hA, hB, q1, hB1, q9]
    · kernel_rfl
    · (repeat' apply And.intro) <;> first | omega | assumption | trivial | (intros; subst_vars; rfl) | (intro i r h; rcases i with _ | i <;> simp at h; subst h; rfl) | (simp [inI, maxLen]; done) | (simp [inI, maxLen]; omega)
    repeat (first | refine AWp.seq ?_ | refine AWp.block ?_)
    refine AWp.cond rfl (fun hc => ?_) (fun hc => ?_)
    · cases hc
    refine AWp.skip ?_
    rw [fuOne_no2 hsr fun h1 h2 h3 h4 h5 => by
      have h6 : zk = 9 := h4
      have h7 : za = nm0 := h5
      first | omega | (exact absurd h7 (by assumption))] at hu
    injection hu with e1 e2 e3 e4 e5 e6 e7
    subst e1 e2 e3 e4 e5 e6 e7
    repeat (first | refine AWp.seq ?_ | refine AWp.block ?_)
    apply AWp.reg [] []
    · conv => lhs; simp [Tm.row, Tm.rows_eq, Cs.rows_eq, h1d, Cs.row, q1, hB1, q9]
    · (repeat' apply And.intro) <;> first | omega | assumption | trivial | (intros; subst_vars; rfl) | (intro i r h; rcases i with _ | i <;> simp at h; subst h; rfl) | (simp [inI, maxLen]; done) | (simp [inI, maxLen]; omega)
    repeat (first | refine AWp.seq ?_ | refine AWp.block ?_)
    apply AWp.reg [] []
    · conv => lhs; simp [Tm.row, Tm.rows_eq, Cs.rows_eq, h1d, Cs.row, q1, hB1, q9]
    · (repeat' apply And.intro) <;> first | omega | assumption | trivial | (intros; subst_vars; rfl) | (intro i r h; rcases i with _ | i <;> simp at h; subst h; rfl) | (simp [inI, maxLen]; done) | (simp [inI, maxLen]; omega)
    refine ⟨⟨(i + 1, ds ++ [.mk dt dws (.mk ek en ea eb evs exs ecs)]), hi1, hsn.symm⟩, by simp; omega, ?_⟩
    dsimp only
    exact Le.sub (by simp [Cs.row, Tm.row, Tm.rows_eq, Cs.rows_eq, hdl]) (by simp [Cs.row, Tm.row, Tm.rows_eq, Cs.rows_eq, hdl])
  have hi1 : i = tcs.length := by have := of_decide_eq_false hc; omega
  subst hi1
  clear hc
  rw [List.take_length] at hw2
  rw [← hw2] at hR
  clear hw2
  replace hR := hR.symm
  injection hR with e1 e2 e3 e4 e5 e6 e7
  subst e1 e2 e3 e4 e5 e6 e7
  refine AWp.exit ?_
  repeat (first | refine AWp.seq ?_ | refine AWp.block ?_)
  apply AWp.reg [] []
  · conv => lhs; simp [Tm.row, Tm.rows_eq, Cs.rows_eq]
  · (repeat' apply And.intro) <;> first | omega | assumption | trivial | (intros; subst_vars; rfl) | (intro i r h; rcases i with _ | i <;> simp at h; subst h; rfl) | (simp [inI, maxLen]; done) | (simp [inI, maxLen]; omega)
  refine AWp.ret ?_
  try dsimp only [thenQ, blockQ]
  apply endQ.retF [400, 401]
  · rfl
  · conv => lhs; simp
  · conv => lhs; simp [resAV, Tryd.results20]
  first | rfl | simp [resVal, tmAV, Tm.row, Tm.rows_eq, Cs.rows_eq]

theorem fd_all : ∀ N, FdN N
  | 0 => fun t h => by obtain ⟨tk, tn, ta, tb, tvs, txs, tcs⟩ := t; simp only [Tm.sz] at h; omega
  | N + 1 => fd_step N (fd_all N)
set_option maxRecDepth 20000 in
set_option maxHeartbeats 16000000 in
theorem sp_FuFn (f : Fn) (h : f.body.Ok ∧ f.body.Du) : PSpec Tryd.prog 50 [fnAV f] (fun _ => fnAV f.fu) none := by
  have hx := fd_all f.body.sz f.body (Nat.le_refl _) h.1 h.2
  unfold Fn.fu
  generalize f.body.fu = z at hx ⊢
  obtain ⟨fg, fps, ⟨fk, fn, fa, fb, fvs, fxs, fcs⟩⟩ := f
  obtain ⟨zk, zn, za, zb, zvs, zxs, zcs⟩ := z
  dsimp only at hx
  refine PSpec.of Tryd.func50 rfl rfl rfl (Nat.le_of_ble_eq_true rfl) ?_
  show AWp _ _ (endQ _ Tryd.f50 _ _ _) (startAS 11 _)
  repeat (first | refine AWp.seq ?_ | refine AWp.block ?_)
  apply AWp.reg [] []
  · conv => lhs; simp [fnAV, Fn.row, Tm.row, Tm.rows_eq, Cs.rows_eq]
  · (repeat' apply And.intro) <;> first | omega | assumption | trivial | (intros; subst_vars; rfl) | (intro i r h; rcases i with _ | i <;> simp at h; subst h; rfl) | (simp [inI, maxLen]; done) | (simp [inI, maxLen]; omega)
  repeat (first | refine AWp.seq ?_ | refine AWp.block ?_)
  apply AWp.draw [] [.p (fun _ => .agg [.d (.int zk), .d (.int zn), .d (.str za), .d (.str zb), .d (strsD zvs), .d (.sl (zxs.map Tm.row)), .d (.sl (zcs.map Cs.row))]) none] mixed
  · conv => lhs; simp [fnAV, Fn.row, Tm.row, Tm.rows_eq, Cs.rows_eq]
  · kernel_rfl
  · (repeat' apply And.intro) <;> first | omega | assumption | trivial | (intros; subst_vars; rfl) | (intro i r h; rcases i with _ | i <;> simp at h; subst h; rfl) | (simp [inI, maxLen]; done) | (simp [inI, maxLen]; omega)
  refine AWp.ret ?_
  try dsimp only [thenQ, blockQ]
  apply endQ.ret
  · rfl
  · conv => lhs; simp [resAV, Tryd.results50]
  rfl

set_option maxRecDepth 20000 in
set_option maxHeartbeats 16000000 in
theorem sp_EachFused (l : List Fn) (hl : l.length ≤ 879609302220) (hall : ∀ f ∈ l, f.body.Ok ∧ f.body.Du) : PSpec Tryd.prog 24 [fnsAV l, .d (.fn 50)] (fun _ => fnsAV (l.map Fn.fu)) none := by
  obtain ⟨G, hG⟩ : ∃ G, G = l.map Fn.fu := ⟨_, rfl⟩
  rw [← hG]
  refine PSpec.of Tryd.func24 rfl rfl rfl (Nat.le_of_ble_eq_true rfl) ?_
  show AWp _ _ (endQ _ Tryd.f24 _ _ _) (startAS 22 _)
  repeat (first | refine AWp.seq ?_ | refine AWp.block ?_)
  apply AWp.reg [] []
  · conv => lhs; simp [Fn.row, Tm.row, Tm.rows_eq, Cs.rows_eq]
  · (repeat' apply And.intro) <;> first | omega | assumption | trivial | (intros; subst_vars; rfl) | (intro i r h; rcases i with _ | i <;> simp at h; subst h; rfl) | (simp [inI, maxLen]; done) | (simp [inI, maxLen]; omega)
  repeat (first | refine AWp.seq ?_ | refine AWp.block ?_)
  apply AWp.reg [] []
  · conv => lhs; simp [Fn.row, Tm.row, Tm.rows_eq, Cs.rows_eq]
  · (repeat' apply And.intro) <;> first | omega | assumption | trivial | (intros; subst_vars; rfl) | (intro i r h; rcases i with _ | i <;> simp at h; subst h; rfl) | (simp [inI, maxLen]; done) | (simp [inI, maxLen]; omega)
  repeat (first | refine AWp.seq ?_ | refine AWp.block ?_)
  apply AWp.reg [] []
  · conv => lhs; simp [Fn.row, Tm.row, Tm.rows_eq, Cs.rows_eq]
  · (repeat' apply And.intro) <;> first | omega | assumption | trivial | (intros; subst_vars; rfl) | (intro i r h; rcases i with _ | i <;> simp at h; subst h; rfl) | (simp [inI, maxLen]; done) | (simp [inI, maxLen]; omega)
  repeat (first | refine AWp.seq ?_ | refine AWp.block ?_)
  refine AWp.le (Le.low [400] [] (fr := [(1, .d (.fn 50)), (5, .arr 400 0 ([] : List Fn).length), (8, .d (.sl (l.map Fn.row))), (9, .d (.int (l.length : Int))), (10, .d (.int (0 : Int)))]) (mem := [(400, some (.arr 34 9 (([] : List Fn).map Fn.row)))]) rfl (by simp) (by simp)) ?_
  refine AWp.loop (σ := fun u : {u : Nat × List Fn // u.1 ≤ l.length ∧ u.2 = (l.take u.1).map Fn.fu} => ⟨22, [(1, .d (.fn 50)), (5, .arr 400 0 u.1.2.length), (8, .d (.sl (l.map Fn.row))), (9, .d (.int (l.length : Int))), (10, .d (.int (u.1.1 : Int)))], [(400, some (.arr 34 9 (u.1.2.map Fn.row)))]⟩)
    (μ := fun u => l.length - u.1.1) ⟨(0, []), ⟨Nat.zero_le _, by simp⟩⟩ (Le.sub (by simp) (by simp)) (fun ⟨(i, gs), ⟨hi3, hw⟩⟩ => ?_)
  dsimp only at hi3 hw ⊢
  repeat (first | refine AWp.seq ?_ | refine AWp.block ?_)
  apply AWp.reg [] []
  · conv => lhs; simp [Fn.row, Tm.row, Tm.rows_eq, Cs.rows_eq]
  · (repeat' apply And.intro) <;> first | omega | assumption | trivial | (intros; subst_vars; rfl) | (intro i r h; rcases i with _ | i <;> simp at h; subst h; rfl) | (simp [inI, maxLen]; done) | (simp [inI, maxLen]; omega)
  repeat (first | refine AWp.seq ?_ | refine AWp.block ?_)
  refine AWp.cond rfl (fun hc => ?_) (fun hc => ?_)
  · have hi1 : i < l.length := by have := of_decide_eq_true hc; omega
    clear hc
    have h1f : l[i]? = some l[i] := List.getElem?_eq_getElem hi1
    have hmf : l[i] ∈ l := List.getElem_mem hi1
    have hdf : l.drop i = l[i] :: l.drop (i + 1) := List.drop_eq_getElem_cons hi1
    generalize l[i] = f at h1f hmf hdf
    have hgl : gs.length = i := by rw [hw, List.length_map, List.length_take]; omega
    have hx := sp_FuFn f (hall f hmf)
    generalize hz : Fn.fu f = z at hx
    obtain ⟨fg, fps, ⟨fk, fn, fa, fb, fvs, fxs, fcs⟩⟩ := f
    obtain ⟨zg, zps, ⟨zk, zn, za, zb, zvs, zxs, zcs⟩⟩ := z
    dsimp only [fnAV] at hx
    refine AWp.skip ?_
    repeat (first | refine AWp.seq ?_ | refine AWp.block ?_)
    apply AWp.reg [] []
    · conv => lhs; simp [Fn.row, Tm.row, Tm.rows_eq, Cs.rows_eq, h1f]
    · (repeat' apply And.intro) <;> first | omega | assumption | trivial | (intros; subst_vars; rfl) | (intro i r h; rcases i with _ | i <;> simp at h; subst h; rfl) | (simp [inI, maxLen]; done) | (simp [inI, maxLen]; omega)
    repeat (first | refine AWp.seq ?_ | refine AWp.block ?_)
    apply AWp.reg [] [.p (fun _ => .agg [.d (.str zg), .d (strsD zps), .d (.int zk), .d (.int zn), .d (.str za), .d (.str zb), .d (strsD zvs), .d (.sl (zxs.map Tm.row)), .d (.sl (zcs.map Cs.row))]) none]
    · conv => lhs; simp [Fn.row, Tm.row, Tm.rows_eq, Cs.rows_eq, h1f]
    · (repeat' apply And.intro) <;> first | omega | assumption | trivial | (intros; subst_vars; rfl) | (intro i r h; rcases i with _ | i <;> simp at h; subst h; rfl) | (simp [inI, maxLen]; done) | (simp [inI, maxLen]; omega)
    repeat (first | refine AWp.seq ?_ | refine AWp.block ?_)
    apply AWp.reg [] []
    · conv => lhs; simp [Fn.row, Tm.row, Tm.rows_eq, Cs.rows_eq, h1f]
    · (repeat' apply And.intro) <;> first | omega | assumption | trivial | (intros; subst_vars; rfl) | (intro i r h; rcases i with _ | i <;> simp at h; subst h; rfl) | (simp [inI, maxLen]; done) | (simp [inI, maxLen]; omega)
    refine ⟨⟨(i + 1, gs ++ [⟨zg, zps, .mk zk zn za zb zvs zxs zcs⟩]), hi1, by rw [hw, List.take_add_one, h1f, List.map_append, ← hz]; rfl⟩, by simp; omega, ?_⟩
    dsimp only
    exact Le.sub (by simp [Fn.row, Tm.row, Tm.rows_eq, Cs.rows_eq, hgl]) (by simp [Fn.row, Tm.row, Tm.rows_eq, Cs.rows_eq, hgl])
  have hi1 : i = l.length := by have := of_decide_eq_false hc; omega
  subst hi1
  clear hc
  rw [List.take_length] at hw
  obtain rfl : gs = G := by rw [hw, hG]
  refine AWp.exit ?_
  repeat (first | refine AWp.seq ?_ | refine AWp.block ?_)
  apply AWp.reg [] []
  · conv => lhs; simp [Fn.row, Tm.row, Tm.rows_eq, Cs.rows_eq]
  · (repeat' apply And.intro) <;> first | omega | assumption | trivial | (intros; subst_vars; rfl) | (intro i r h; rcases i with _ | i <;> simp at h; subst h; rfl) | (simp [inI, maxLen]; done) | (simp [inI, maxLen]; omega)
  refine AWp.ret ?_
  try dsimp only [thenQ, blockQ]
  apply endQ.retF [400]
  · rfl
  · conv => lhs; simp
  · conv => lhs; simp [resAV, Tryd.results24]
  rfl

end Go.Proofs.YtialccgjbanmcaaDoor
