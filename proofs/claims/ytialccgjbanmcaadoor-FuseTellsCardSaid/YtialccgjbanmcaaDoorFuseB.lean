import Derived.Test.YtialccgjbanmcaaDoorFuseA
/- fuse.Term, All, Steps. Printed by a small program. -/
namespace Go.Proofs.YtialccgjbanmcaaDoor
open Go.RowKit
attribute [local simp] runD mkRc ldOf ldArg noAny dstOk guardOk opEff opEff0 effOp pureOp callOp zEff evA constAV frGet memGet startAS frOf isGoCall idIn AS.after nextR opnIds objIds AV.ids idsL AObj.ids frNo memNo opnAny isAny mkVal rdCells wrCells fldAddr idxAddr srcRows litRows toD1 toDs setAt sliceAV optI partAV bldAV fillAV binAV binI AV.cells callEff calleeOf frKill memKill AV.kill AObj.kill AV.has AV.hasL Op.operands Call.operands keepF keepM viewIds cChk renOf moGet moWs moQ cEff moLike moHave AV.ren renL AObj.ren AObj.like kept startC moMem AV.frz frz1 frzL frSub memSub frzs AS.frz frFrz memFrz AObj.frz takeMap takeLen bleF Nat.ble_eq memAny objAny mapOp D.keyOk rowAV valRow extOp wrapOp phO frLow memLow memLow1 objLow memEmpty Low LowL
set_option linter.unusedVariables false
set_option linter.unusedSimpArgs false

def FuN (N : Nat) : Prop := ∀ t : Tm, t.sz ≤ N → t.Ok → t.Du → PSpec Tryd.prog 19 [tmAV t] (fun _ => tmAV t.fu) none
set_option maxRecDepth 20000 in
set_option maxHeartbeats 16000000 in
theorem fu_step (N : Nat) (ih : FuN N) : FuN (N + 1) := by
  intro t hsz hO hD
  obtain ⟨R, hR⟩ : ∃ R, R = t.fu := ⟨_, rfl⟩
  rw [← hR]
  obtain ⟨rk, rn, ra, rb, rvs, rxs, rcs⟩ := R
  obtain ⟨tk, tn, ta, tb, tvs, txs, tcs⟩ := t
  rw [Tm.fu, Tm.fuL_eq, Cs.fuL_eq] at hR
  obtain ⟨nm0, hn0⟩ : ∃ x, x = nmH txs := ⟨_, rfl⟩
  rw [← hn0] at hR
  have hxO : ∀ x ∈ txs, x.Ok := fun x hx => Tm.Oks_iff.1 hO.2.2.1 x hx
  have hcO : ∀ x ∈ tcs, x.Ok := fun x hx => Cs.Oks_iff.1 hO.2.2.2 x hx
  have hxD : ∀ x ∈ txs, x.Du := fun x hx => Tm.DuL_iff.1 hD.2.1 x hx
  have hcD : ∀ x ∈ tcs, x.Du := fun x hx => Cs.DuL_iff.1 hD.2.2 x hx
  obtain ⟨o1, o2, o3, o4, o5⟩ := hO.vars
  have hown := cs_Own (.mk tk tn ta tb tvs txs tcs) hO
  dsimp only at hown
  simp only [Tm.sz] at hsz
  refine PSpec.of Tryd.func19 rfl rfl rfl (Nat.le_of_ble_eq_true rfl) ?_
  show AWp _ _ (endQ _ Tryd.f19 _ _ _) (startAS 68 _)
  repeat (first | refine AWp.seq ?_ | refine AWp.block ?_)
  apply AWp.reg [] []
  · conv => lhs; simp [Tm.row, Tm.rows_eq, Cs.rows_eq]
  · (repeat' apply And.intro) <;> first | omega | assumption | trivial | (intros; subst_vars; rfl) | (intro i r h; rcases i with _ | i <;> simp at h; subst h; rfl) | (simp [inI, maxLen]; done) | (simp [inI, maxLen]; omega)
  repeat (first | refine AWp.seq ?_ | refine AWp.block ?_)
  apply AWp.reg [] [.n [(500, 400), (501, 401)] [.agg [.d (.int tk), .d (.int tn), .d (.str ta), .d (.str tb), .d (strsD tvs), .d (.sl (txs.map Tm.row)), .d (.sl (tcs.map Cs.row))]] [] (.agg [.d (.int tk), .d (.int tn), .d (.str ta), .d (.str tb), .d (strsD tvs), .arr 500 0 txs.length, .arr 501 0 tcs.length]) [(500, .arr 32 7 (txs.map Tm.row)), (501, .arr 50 9 (tcs.map Cs.row))] [500, 501]]
  · conv => lhs; simp [Tm.row, Tm.rows_eq, Cs.rows_eq]
  · (repeat' apply And.intro) <;> first | omega | assumption | trivial | (intros; subst_vars; rfl) | (intro i r h; rcases i with _ | i <;> simp at h; subst h; rfl) | (simp [inI, maxLen]; done) | (simp [inI, maxLen]; omega)
  repeat (first | refine AWp.seq ?_ | refine AWp.block ?_)
  apply AWp.reg [] []
  · conv => lhs; simp [Tm.row, Tm.rows_eq, Cs.rows_eq]
  · (repeat' apply And.intro) <;> first | omega | assumption | trivial | (intros; subst_vars; rfl) | (intro i r h; rcases i with _ | i <;> simp at h; subst h; rfl) | (simp [inI, maxLen]; done) | (simp [inI, maxLen]; omega)
  repeat (first | refine AWp.seq ?_ | refine AWp.block ?_)
  refine AWp.loop (σ := fun u : {u : Nat × List Tm × List (List D) // u.1 ≤ txs.length ∧ (u.2.1 = (txs.take u.1).map Tm.fu ∧ u.2.1.length = u.1 ∧ u.2.2 = (u.2.1 ++ txs.drop u.1).map Tm.row)} => ⟨68, [(1, .ptr 1 0), (2, .ptr 2 0), (9, .d (.int txs.length)), (10, .d (.int (u.1.1 : Int)))], [(1, some (.blk 32 [.d (.int tk), .d (.int tn), .d (.str ta), .d (.str tb), .d (strsD tvs), .arr 400 0 txs.length, .arr 401 0 tcs.length])), (2, some (.blk 32 [.d (.int 0), .d (.int 0), .d (.str ByteArray.empty), .d (.str ByteArray.empty), .lit (.slice none 0 0), .lit (.slice none 0 0), .lit (.slice none 0 0)])), (400, some (.arr 32 7 u.1.2.2)), (401, some (.arr 50 9 (tcs.map Cs.row)))]⟩)
    (μ := fun u => txs.length - u.1.1) ⟨(0, [], txs.map Tm.row), ⟨Nat.zero_le _, ⟨by simp, rfl, by simp⟩⟩⟩ (Le.sub (by simp) (by simp)) (fun ⟨(i, ys, RS), ⟨hi3, hw⟩⟩ => ?_)
  dsimp only at hi3 hw ⊢
  repeat (first | refine AWp.seq ?_ | refine AWp.block ?_)
  apply AWp.reg [] []
  · conv => lhs; simp [Tm.row, Tm.rows_eq, Cs.rows_eq]
  · (repeat' apply And.intro) <;> first | omega | assumption | trivial | (intros; subst_vars; rfl) | (intro i r h; rcases i with _ | i <;> simp at h; subst h; rfl) | (simp [inI, maxLen]; done) | (simp [inI, maxLen]; omega)
  repeat (first | refine AWp.seq ?_ | refine AWp.block ?_)
  refine AWp.cond rfl (fun hc => ?_) (fun hc => ?_)
  · have hi1 : i < txs.length := by have := of_decide_eq_true hc; omega
    clear hc
    have h1y : txs[i]? = some txs[i] := List.getElem?_eq_getElem hi1
    have hmy : txs[i] ∈ txs := List.getElem_mem hi1
    have hdy : txs.drop i = txs[i] :: txs.drop (i + 1) := List.drop_eq_getElem_cons hi1
    generalize txs[i] = y at h1y hmy hdy
    obtain ⟨hys, hyl, hRS⟩ := hw
    have hx := ih y (by have := Tm.szs_mem hmy; omega) (hxO y hmy) (hxD y hmy)
    have hsn : (txs.take (i + 1)).map Tm.fu = ys ++ [y.fu] := by rw [List.take_add_one, h1y, List.map_append, ← hys]; rfl
    rw [hdy] at hRS
    generalize y.fu = z at hx hsn
    obtain ⟨yk, yn, ya, yb, yvs, yxs, ycs⟩ := y
    obtain ⟨zk, zn, za, zb, zvs, zxs, zcs⟩ := z
    have hRS0 : RS[i]? = some (Tm.row (.mk yk yn ya yb yvs yxs ycs)) := by rw [hRS, List.getElem?_map, List.getElem?_append_right (by omega), hyl, Nat.sub_self]; rfl
    obtain ⟨RS1, hRS1⟩ : ∃ R, R = RS.set i (Tm.row (.mk zk zn za zb zvs zxs zcs)) := ⟨_, rfl⟩
    have hRS2 : RS1 = ((ys ++ [Tm.mk zk zn za zb zvs zxs zcs]) ++ txs.drop (i + 1)).map Tm.row := by
      rw [hRS1, hRS, ← List.map_set, List.set_append_right _ _ (by omega), hyl, Nat.sub_self]
      simp
    have hRSl : RS.length = txs.length := by rw [hRS, List.length_map, List.length_append, List.length_cons, List.length_drop]; omega
    simp only [Tm.row, Tm.rows_eq, Cs.rows_eq] at hRS0 hRS1
    replace hRS1 := hRS1.symm
    refine AWp.skip ?_
    repeat (first | refine AWp.seq ?_ | refine AWp.block ?_)
    apply AWp.reg [] []
    · conv => lhs; simp [Tm.row, Tm.rows_eq, Cs.rows_eq, h1y, hRS0, hRS1]
    · (repeat' apply And.intro) <;> first | omega | assumption | trivial | (intros; subst_vars; rfl) | (intro i r h; rcases i with _ | i <;> simp at h; subst h; rfl) | (simp [inI, maxLen]; done) | (simp [inI, maxLen]; omega)
    repeat (first | refine AWp.seq ?_ | refine AWp.block ?_)
    apply AWp.draw [] [.p (fun _ => .agg [.d (.int zk), .d (.int zn), .d (.str za), .d (.str zb), .d (strsD zvs), .d (.sl (zxs.map Tm.row)), .d (.sl (zcs.map Cs.row))]) none] mixed
    · conv => lhs; simp [Tm.row, Tm.rows_eq, Cs.rows_eq, h1y, hRS0, hRS1]
    · kernel_rfl
    · (repeat' apply And.intro) <;> first | omega | assumption | trivial | (intros; subst_vars; rfl) | (intro i r h; rcases i with _ | i <;> simp at h; subst h; rfl) | (simp [inI, maxLen]; done) | (simp [inI, maxLen]; omega)
    repeat (first | refine AWp.seq ?_ | refine AWp.block ?_)
    apply AWp.reg [] []
    · conv => lhs; simp [Tm.row, Tm.rows_eq, Cs.rows_eq, h1y, hRS0, hRS1]
    · (repeat' apply And.intro) <;> first | omega | assumption | trivial | (intros; subst_vars; rfl) | (intro i r h; rcases i with _ | i <;> simp at h; subst h; rfl) | (simp [inI, maxLen]; done) | (simp [inI, maxLen]; omega)
    refine ⟨⟨(i + 1, ys ++ [.mk zk zn za zb zvs zxs zcs], RS1), hi1, ⟨by rw [hsn], by simp [hyl], hRS2⟩⟩, by simp; omega, ?_⟩
    dsimp only
    exact Le.sub (by simp) (by simp)
  have hi1 : i = txs.length := by have := of_decide_eq_false hc; omega
  subst hi1
  clear hc
  obtain ⟨hys, hyl, hRS⟩ := hw
  rw [List.drop_length, List.append_nil] at hRS
  rw [List.take_length] at hys
  rw [← hys] at hR
  have hynm : nmH ys = nmH txs := by
    rw [hys]
    rcases txs with _ | ⟨x, r⟩
    · rfl
    · exact Tm.fu_nm x
  rw [← hn0] at hynm
  clear hys
  subst hRS
  refine AWp.exit ?_
  repeat (first | refine AWp.seq ?_ | refine AWp.block ?_)
  apply AWp.reg [] []
  · conv => lhs; simp [Tm.row, Tm.rows_eq, Cs.rows_eq]
  · (repeat' apply And.intro) <;> first | omega | assumption | trivial | (intros; subst_vars; rfl) | (intro i r h; rcases i with _ | i <;> simp at h; subst h; rfl) | (simp [inI, maxLen]; done) | (simp [inI, maxLen]; omega)
  repeat (first | refine AWp.seq ?_ | refine AWp.block ?_)
  refine AWp.loop (σ := fun u : {u : Nat × List Cs × List (List D) // u.1 ≤ tcs.length ∧ (u.2.1 = (tcs.take u.1).map (Cs.fu tk txs.length nm0) ∧ u.2.1.length = u.1 ∧ u.2.2 = (u.2.1 ++ tcs.drop u.1).map Cs.row)} => ⟨68, [(1, .ptr 1 0), (2, .ptr 2 0), (26, .d (.int tcs.length)), (27, .d (.int (u.1.1 : Int)))], [(1, some (.blk 32 [.d (.int tk), .d (.int tn), .d (.str ta), .d (.str tb), .d (strsD tvs), .arr 400 0 txs.length, .arr 401 0 tcs.length])), (2, some (.blk 32 [.d (.int 0), .d (.int 0), .d (.str ByteArray.empty), .d (.str ByteArray.empty), .lit (.slice none 0 0), .lit (.slice none 0 0), .lit (.slice none 0 0)])), (400, some (.arr 32 7 (ys.map Tm.row))), (401, some (.arr 50 9 u.1.2.2))]⟩)
    (μ := fun u => tcs.length - u.1.1) ⟨(0, [], tcs.map Cs.row), ⟨Nat.zero_le _, ⟨by simp, rfl, by simp⟩⟩⟩ (Le.sub (by simp) (by simp)) (fun ⟨(i, ds, RS), ⟨hi8, hw2⟩⟩ => ?_)
  dsimp only at hi8 hw2 ⊢
  repeat (first | refine AWp.seq ?_ | refine AWp.block ?_)
  apply AWp.reg [] []
  · conv => lhs; simp [Tm.row, Tm.rows_eq, Cs.rows_eq]
  · (repeat' apply And.intro) <;> first | omega | assumption | trivial | (intros; subst_vars; rfl) | (intro i r h; rcases i with _ | i <;> simp at h; subst h; rfl) | (simp [inI, maxLen]; done) | (simp [inI, maxLen]; omega)
  repeat (first | refine AWp.seq ?_ | refine AWp.block ?_)
  refine AWp.cond rfl (fun hc => ?_) (fun hc => ?_)
  · have hi1 : i < tcs.length := by have := of_decide_eq_true hc; omega
    clear hc
    have h1d : tcs[i]? = some tcs[i] := List.getElem?_eq_getElem hi1
    have hmd : tcs[i] ∈ tcs := List.getElem_mem hi1
    have hdd : tcs.drop i = tcs[i] :: tcs.drop (i + 1) := List.drop_eq_getElem_cons hi1
    generalize tcs[i] = d at h1d hmd hdd
    obtain ⟨hds, hdl, hRS⟩ := hw2
    have hdO := hcO d hmd
    have hdD := hcD d hmd
    have hsz := Cs.szs_mem hmd
    rw [hdd] at hRS
    have hsn : (tcs.take (i + 1)).map (Cs.fu tk txs.length nm0) = ds ++ [d.fu tk txs.length nm0] := by rw [List.take_add_one, h1d, List.map_append, ← hds]; rfl
    obtain ⟨dt, dws, y⟩ := d
    have hx := ih y (by simp only [Cs.sz] at hsz; omega) hdO.2.2 hdD.2
    obtain ⟨hfo, hfd⟩ := Tm.fu_ok y hdO.2.2 hdD.2
    rw [Cs.fu] at hsn
    generalize y.fu = z at hx hfo hfd hsn
    obtain ⟨yk, yn, ya, yb, yvs, yxs, ycs⟩ := y
    obtain ⟨zk, zn, za, zb, zvs, zxs, zcs⟩ := z
    obtain ⟨u, hu⟩ : ∃ u, fuOne tk txs.length nm0 dws (.mk zk zn za zb zvs zxs zcs) = u := ⟨_, rfl⟩
    rw [hu] at hsn
    have hone := fun (h : tk = 7) (h2 : txs.length = 1) => sp_one nm0 dt dws zk zn za zb zvs zxs zcs hfo hfd hdD.1 hdO.1
    obtain ⟨uk, un, ua, ub, uvs, uxs, ucs⟩ := u
    have hRSl : RS.length = tcs.length := by rw [hRS, List.length_map, List.length_append, List.length_cons, List.length_drop]; omega
    have hR0 : RS[i]? = some [.int dt, strsD dws, .int yk, .int yn, .str ya, .str yb, strsD yvs, .sl (yxs.map Tm.row), .sl (ycs.map Cs.row)] := by rw [hRS, List.getElem?_map, List.getElem?_append_right (by omega), hdl, Nat.sub_self]; simp [Cs.row, Tm.row, Tm.rows_eq, Cs.rows_eq]
    obtain ⟨R1, hR1⟩ : ∃ R1, RS.set i [.int dt, strsD dws, .int zk, .int zn, .str za, .str zb, strsD zvs, .sl (zxs.map Tm.row), .sl (zcs.map Cs.row)] = R1 := ⟨_, rfl⟩
    have hR1g : R1[i]? = some [.int dt, strsD dws, .int zk, .int zn, .str za, .str zb, strsD zvs, .sl (zxs.map Tm.row), .sl (zcs.map Cs.row)] := by rw [← hR1]; exact List.getElem?_set_self (by omega)
    have hR1l : R1.length = RS.length := by rw [← hR1]; simp
    have hRS2 : RS.set i [.int dt, strsD dws, .int uk, .int un, .str ua, .str ub, strsD uvs, .sl (uxs.map Tm.row), .sl (ucs.map Cs.row)] = ((ds ++ [Cs.mk dt dws (.mk uk un ua ub uvs uxs ucs)]) ++ tcs.drop (i + 1)).map Cs.row := by
      rw [show ([.int dt, strsD dws, .int uk, .int un, .str ua, .str ub, strsD uvs, .sl (uxs.map Tm.row), .sl (ucs.map Cs.row)] : List D) = Cs.row (Cs.mk dt dws (.mk uk un ua ub uvs uxs ucs)) from by simp [Cs.row, Tm.row, Tm.rows_eq, Cs.rows_eq], hRS, ← List.map_set, List.set_append_right _ _ (by omega), hdl, Nat.sub_self]
      simp
    refine AWp.skip ?_
    repeat (first | refine AWp.seq ?_ | refine AWp.block ?_)
    apply AWp.reg [] []
    · conv => lhs; simp [Tm.row, Tm.rows_eq, Cs.rows_eq, h1d, Cs.row, hR0, hR1, hR1g]
    · (repeat' apply And.intro) <;> first | omega | assumption | trivial | (intros; subst_vars; rfl) | (intro i r h; rcases i with _ | i <;> simp at h; subst h; rfl) | (simp [inI, maxLen]; done) | (simp [inI, maxLen]; omega)
    repeat (first | refine AWp.seq ?_ | refine AWp.block ?_)
    apply AWp.draw [] [.p (fun _ => .agg [.d (.int zk), .d (.int zn), .d (.str za), .d (.str zb), .d (strsD zvs), .d (.sl (zxs.map Tm.row)), .d (.sl (zcs.map Cs.row))]) none] mixed
    · conv => lhs; simp [Tm.row, Tm.rows_eq, Cs.rows_eq, h1d, Cs.row, hR0, hR1, hR1g]
    · kernel_rfl
    · (repeat' apply And.intro) <;> first | omega | assumption | trivial | (intros; subst_vars; rfl) | (intro i r h; rcases i with _ | i <;> simp at h; subst h; rfl) | (simp [inI, maxLen]; done) | (simp [inI, maxLen]; omega)
    obtain ⟨A, hA⟩ : ∃ A : Int, (txs.length : Int) = A := ⟨_, rfl⟩
    by_cases q1 : A = 1
    · by_cases q2 : tk = 7
      · repeat (first | refine AWp.seq ?_ | refine AWp.block ?_)
        apply AWp.reg [] []
        · conv => lhs; simp [Tm.row, Tm.rows_eq, Cs.rows_eq, h1d, Cs.row, hR0, hR1, hR1g, hA, q1, q2]
        · (repeat' apply And.intro) <;> first | omega | assumption | trivial | (intros; subst_vars; rfl) | (intro i r h; rcases i with _ | i <;> simp at h; subst h; rfl) | (simp [inI, maxLen]; done) | (simp [inI, maxLen]; omega)
        repeat (first | refine AWp.seq ?_ | refine AWp.block ?_)
        refine AWp.cond rfl (fun hc => ?_) (fun hc => ?_)
        rotate_left
        · cases hc
        have hA1 : A = 1 := q1
        subst q2
        have hl1 : txs.length = 1 := by omega
        have hon := hone rfl hl1
        rw [hl1] at hu
        rw [hu] at hon
        obtain ⟨y0, hy0⟩ : ∃ y0, ys = [y0] := by
          rcases ys with _ | ⟨y0, _ | ⟨y1, r⟩⟩
          · simp at hyl; omega
          · exact ⟨y0, rfl⟩
          · simp at hyl; omega
        obtain ⟨ak, an, aa, ab, avs, axs, acs⟩ := y0
        rw [hy0] at hynm
        obtain rfl : nm0 = aa := hynm.symm
        replace hy0 : (ys.map Tm.row)[0]? = some [.int ak, .int an, .str nm0, .str ab, strsD avs, .sl (axs.map Tm.row), .sl (acs.map Cs.row)] := by rw [hy0]; simp [Tm.row, Tm.rows_eq, Cs.rows_eq]
        obtain ⟨R2, hR2⟩ : ∃ R2, R1.set i [.int dt, strsD dws, .int uk, .int un, .str ua, .str ub, strsD uvs, .sl (uxs.map Tm.row), .sl (ucs.map Cs.row)] = R2 := ⟨_, rfl⟩
        have hR2l : R2.length = R1.length := by rw [← hR2]; simp
        repeat (first | refine AWp.seq ?_ | refine AWp.block ?_)
        apply AWp.draw [] [.p (fun _ => .agg [.d (.int dt), .d (strsD dws), .d (.int uk), .d (.int un), .d (.str ua), .d (.str ub), .d (strsD uvs), .d (.sl (uxs.map Tm.row)), .d (.sl (ucs.map Cs.row))]) none] mixed
        · conv => lhs; simp [Tm.row, Tm.rows_eq, Cs.rows_eq, h1d, Cs.row, hR0, hR1g, hy0, hR2, q1]
        · kernel_rfl
        · (repeat' apply And.intro) <;> first | omega | assumption | trivial | (intros; subst_vars; rfl) | (intro i r h; rcases i with _ | i <;> simp at h; subst h; rfl) | (simp [inI, maxLen]; done) | (simp [inI, maxLen]; omega)
        repeat (first | refine AWp.seq ?_ | refine AWp.block ?_)
        apply AWp.reg [] []
        · conv => lhs; simp [Tm.row, Tm.rows_eq, Cs.rows_eq, h1d, Cs.row, hR0, hR1g, hy0, hR2, q1]
        · (repeat' apply And.intro) <;> first | omega | assumption | trivial | (intros; subst_vars; rfl) | (intro i r h; rcases i with _ | i <;> simp at h; subst h; rfl) | (simp [inI, maxLen]; done) | (simp [inI, maxLen]; omega)
        refine ⟨⟨(i + 1, ds ++ [.mk dt dws (.mk uk un ua ub uvs uxs ucs)], R2), hi1, ⟨hsn.symm, by simp [hdl], by rw [← hR2, ← hR1, List.set_set]; exact hRS2⟩⟩, by simp; omega, ?_⟩
        dsimp only
        exact Le.sub (by simp) (by simp)
      repeat (first | refine AWp.seq ?_ | refine AWp.block ?_)
      apply AWp.reg [] []
      · conv => lhs; simp [Tm.row, Tm.rows_eq, Cs.rows_eq, h1d, Cs.row, hR0, hR1, hR1g, hA, q1, q2]
      · (repeat' apply And.intro) <;> first | omega | assumption | trivial | (intros; subst_vars; rfl) | (intro i r h; rcases i with _ | i <;> simp at h; subst h; rfl) | (simp [inI, maxLen]; done) | (simp [inI, maxLen]; omega)
      repeat (first | refine AWp.seq ?_ | refine AWp.block ?_)
      refine AWp.cond rfl (fun hc => ?_) (fun hc => ?_)
      · cases hc
      refine AWp.skip ?_
      have hzu : ([.int dt, strsD dws, .int zk, .int zn, .str za, .str zb, strsD zvs, .sl (zxs.map Tm.row), .sl (zcs.map Cs.row)] : List D) = [.int dt, strsD dws, .int uk, .int un, .str ua, .str ub, strsD uvs, .sl (uxs.map Tm.row), .sl (ucs.map Cs.row)] := by
        unfold fuOne at hu
        rw [if_neg (fun h => q2 h.2.2.1)] at hu
        injection hu with e1 e2 e3 e4 e5 e6 e7
        subst e1 e2 e3 e4 e5 e6 e7
        rfl
      repeat (first | refine AWp.seq ?_ | refine AWp.block ?_)
      apply AWp.reg [] []
      · conv => lhs; simp [Tm.row, Tm.rows_eq, Cs.rows_eq, h1d, Cs.row, hR0, hR1, hR1g, q1, q2]
      · (repeat' apply And.intro) <;> first | omega | assumption | trivial | (intros; subst_vars; rfl) | (intro i r h; rcases i with _ | i <;> simp at h; subst h; rfl) | (simp [inI, maxLen]; done) | (simp [inI, maxLen]; omega)
      refine ⟨⟨(i + 1, ds ++ [.mk dt dws (.mk uk un ua ub uvs uxs ucs)], R1), hi1, ⟨hsn.symm, by simp [hdl], by rw [← hR1, hzu]; exact hRS2⟩⟩, by simp; omega, ?_⟩
      dsimp only
      exact Le.sub (by simp) (by simp)
    repeat (first | refine AWp.seq ?_ | refine AWp.block ?_)
    apply AWp.reg [] []
    · conv => lhs; simp [Tm.row, Tm.rows_eq, Cs.rows_eq, h1d, Cs.row, hR0, hR1, hR1g, hA, q1]
    · (repeat' apply And.intro) <;> first | omega | assumption | trivial | (intros; subst_vars; rfl) | (intro i r h; rcases i with _ | i <;> simp at h; subst h; rfl) | (simp [inI, maxLen]; done) | (simp [inI, maxLen]; omega)
    repeat (first | refine AWp.seq ?_ | refine AWp.block ?_)
    refine AWp.cond rfl (fun hc => ?_) (fun hc => ?_)
    · cases hc
    refine AWp.skip ?_
    have hzu : ([.int dt, strsD dws, .int zk, .int zn, .str za, .str zb, strsD zvs, .sl (zxs.map Tm.row), .sl (zcs.map Cs.row)] : List D) = [.int dt, strsD dws, .int uk, .int un, .str ua, .str ub, strsD uvs, .sl (uxs.map Tm.row), .sl (ucs.map Cs.row)] := by
      unfold fuOne at hu
      rw [if_neg (fun h => by have := h.2.1; omega)] at hu
      injection hu with e1 e2 e3 e4 e5 e6 e7
      subst e1 e2 e3 e4 e5 e6 e7
      rfl
    repeat (first | refine AWp.seq ?_ | refine AWp.block ?_)
    apply AWp.reg [] []
    · conv => lhs; simp [Tm.row, Tm.rows_eq, Cs.rows_eq, h1d, Cs.row, hR0, hR1, hR1g, q1]
    · (repeat' apply And.intro) <;> first | omega | assumption | trivial | (intros; subst_vars; rfl) | (intro i r h; rcases i with _ | i <;> simp at h; subst h; rfl) | (simp [inI, maxLen]; done) | (simp [inI, maxLen]; omega)
    refine ⟨⟨(i + 1, ds ++ [.mk dt dws (.mk uk un ua ub uvs uxs ucs)], R1), hi1, ⟨hsn.symm, by simp [hdl], by rw [← hR1, hzu]; exact hRS2⟩⟩, by simp; omega, ?_⟩
    dsimp only
    exact Le.sub (by simp) (by simp)
  have hi1 : i = tcs.length := by have := of_decide_eq_false hc; omega
  subst hi1
  clear hc
  obtain ⟨hds, hdl, hRS⟩ := hw2
  rw [List.drop_length, List.append_nil] at hRS
  rw [List.take_length] at hds
  rw [← hds] at hR
  replace hR := hR.symm
  injection hR with e1 e2 e3 e4 e5 e6 e7
  subst e1 e2 e3 e4 e5 e6 e7
  subst hRS
  refine AWp.exit ?_
  repeat (first | refine AWp.seq ?_ | refine AWp.block ?_)
  apply AWp.reg [] []
  · conv => lhs; simp [Tm.row, Tm.rows_eq, Cs.rows_eq]
  · (repeat' apply And.intro) <;> first | omega | assumption | trivial | (intros; subst_vars; rfl) | (intro i r h; rcases i with _ | i <;> simp at h; subst h; rfl) | (simp [inI, maxLen]; done) | (simp [inI, maxLen]; omega)
  refine AWp.ret ?_
  have htk1 : List.take txs.length (List.map Tm.row ys) = List.map Tm.row ys := List.take_of_length_le (by simp; omega)
  have htk2 : List.take tcs.length (List.map Cs.row ds) = List.map Cs.row ds := List.take_of_length_le (by simp; omega)
  try dsimp only [thenQ, blockQ]
  apply endQ.retF [400, 401]
  · rfl
  · conv => lhs; simp [htk1, htk2]
  · conv => lhs; simp [resAV, Tryd.results19, htk1, htk2]
  first | rfl | simp [resVal, tmAV, Tm.row, Tm.rows_eq, Cs.rows_eq, htk1, htk2]

theorem fu_all : ∀ N, FuN N
  | 0 => fun t h => by obtain ⟨tk, tn, ta, tb, tvs, txs, tcs⟩ := t; simp only [Tm.sz] at h; omega
  | N + 1 => fu_step N (fu_all N)
set_option maxRecDepth 20000 in
set_option maxHeartbeats 16000000 in
theorem sp_FuAll (l : List Fn) (hl : l.length ≤ 879609302220) (hall : ∀ f ∈ l, f.body.Ok ∧ f.body.Du ∧ f.params.length ≤ 6) : PSpec Tryd.prog 17 [fnsAV l] (fun _ => fnsAV (l.map Fn.fu)) none := by
  obtain ⟨G, hG⟩ : ∃ G, G = l.map Fn.fu := ⟨_, rfl⟩
  rw [← hG]
  refine PSpec.of Tryd.func17 rfl rfl rfl (Nat.le_of_ble_eq_true rfl) ?_
  show AWp _ _ (endQ _ Tryd.f17 _ _ _) (startAS 26 _)
  repeat (first | refine AWp.seq ?_ | refine AWp.block ?_)
  apply AWp.reg [] []
  · conv => lhs; simp [Fn.row, Tm.row, Tm.rows_eq, Cs.rows_eq]
  · (repeat' apply And.intro) <;> first | omega | assumption | trivial | (intros; subst_vars; rfl) | (intro i r h; rcases i with _ | i <;> simp at h; subst h; rfl) | (simp [inI, maxLen]; done) | (simp [inI, maxLen]; omega)
  repeat (first | refine AWp.seq ?_ | refine AWp.block ?_)
  apply AWp.reg [] []
  · conv => lhs; simp [Fn.row, Tm.row, Tm.rows_eq, Cs.rows_eq]
  · (repeat' apply And.intro) <;> first | omega | assumption | trivial | (intros; subst_vars; rfl) | (intro i r h; rcases i with _ | i <;> simp at h; subst h; rfl) | (simp [inI, maxLen]; done) | (simp [inI, maxLen]; omega)
  repeat (first | refine AWp.seq ?_ | refine AWp.block ?_)
  apply AWp.reg [] []
  · conv => lhs; simp [Fn.row, Tm.row, Tm.rows_eq, Cs.rows_eq]
  · (repeat' apply And.intro) <;> first | omega | assumption | trivial | (intros; subst_vars; rfl) | (intro i r h; rcases i with _ | i <;> simp at h; subst h; rfl) | (simp [inI, maxLen]; done) | (simp [inI, maxLen]; omega)
  repeat (first | refine AWp.seq ?_ | refine AWp.block ?_)
  refine AWp.le (Le.low [400] [] (fr := [(3, .arr 400 0 ([] : List Fn).length), (6, .d (.sl (l.map Fn.row))), (7, .d (.int (l.length : Int))), (8, .d (.int (0 : Int)))]) (mem := [(400, some (.arr 34 9 (([] : List Fn).map Fn.row)))]) rfl (by simp) (by simp)) ?_
  refine AWp.loop (σ := fun u : {u : Nat × List Fn // u.1 ≤ l.length ∧ u.2 = (l.take u.1).map Fn.fu} => ⟨26, [(3, .arr 400 0 u.1.2.length), (6, .d (.sl (l.map Fn.row))), (7, .d (.int (l.length : Int))), (8, .d (.int (u.1.1 : Int)))], [(400, some (.arr 34 9 (u.1.2.map Fn.row)))]⟩)
    (μ := fun u => l.length - u.1.1) ⟨(0, []), ⟨Nat.zero_le _, by simp⟩⟩ (Le.sub (by simp) (by simp)) (fun ⟨(i, gs), ⟨hi3, hw⟩⟩ => ?_)
  dsimp only at hi3 hw ⊢
  repeat (first | refine AWp.seq ?_ | refine AWp.block ?_)
  apply AWp.reg [] []
  · conv => lhs; simp [Fn.row, Tm.row, Tm.rows_eq, Cs.rows_eq]
  · (repeat' apply And.intro) <;> first | omega | assumption | trivial | (intros; subst_vars; rfl) | (intro i r h; rcases i with _ | i <;> simp at h; subst h; rfl) | (simp [inI, maxLen]; done) | (simp [inI, maxLen]; omega)
  repeat (first | refine AWp.seq ?_ | refine AWp.block ?_)
  refine AWp.cond rfl (fun hc => ?_) (fun hc => ?_)
  · have hi1 : i < l.length := by have := of_decide_eq_true hc; omega
    clear hc
    have h1f : l[i]? = some l[i] := List.getElem?_eq_getElem hi1
    have hmf : l[i] ∈ l := List.getElem_mem hi1
    have hdf : l.drop i = l[i] :: l.drop (i + 1) := List.drop_eq_getElem_cons hi1
    generalize l[i] = f at h1f hmf hdf
    have hgl : gs.length = i := by rw [hw, List.length_map, List.length_take]; omega
    obtain ⟨hfO, hfD, hfp⟩ := hall f hmf
    have hx := fu_all f.body.sz f.body (Nat.le_refl _) hfO hfD
    have hcl := sp_Clone f.params (by omega)
    have hsn : (l.take (i + 1)).map Fn.fu = gs ++ [⟨f.name, f.params, f.body.fu⟩] := by rw [List.take_add_one, h1f, List.map_append, ← hw]; rfl
    obtain ⟨fg, fps, fb⟩ := f
    dsimp only at hx hcl hfp hsn
    generalize fb.fu = z at hx hsn
    obtain ⟨fk, fn, fa, fb, fvs, fxs, fcs⟩ := fb
    obtain ⟨zk, zn, za, zb, zvs, zxs, zcs⟩ := z
    refine AWp.skip ?_
    repeat (first | refine AWp.seq ?_ | refine AWp.block ?_)
    apply AWp.reg [] []
    · conv => lhs; simp [Fn.row, Tm.row, Tm.rows_eq, Cs.rows_eq, h1f]
    · (repeat' apply And.intro) <;> first | omega | assumption | trivial | (intros; subst_vars; rfl) | (intro i r h; rcases i with _ | i <;> simp at h; subst h; rfl) | (simp [inI, maxLen]; done) | (simp [inI, maxLen]; omega)
    repeat (first | refine AWp.seq ?_ | refine AWp.block ?_)
    apply AWp.draw [5] [.p (fun d => .arr d 0 fps.length) (some (.arr 9 1 (fps.map strR))), .p (fun _ => .agg [.d (.int zk), .d (.int zn), .d (.str za), .d (.str zb), .d (strsD zvs), .d (.sl (zxs.map Tm.row)), .d (.sl (zcs.map Cs.row))]) none] mixed
    · conv => lhs; simp [Fn.row, Tm.row, Tm.rows_eq, Cs.rows_eq, h1f]
    · kernel_rfl
    · (repeat' apply And.intro) <;> first | omega | assumption | trivial | (intros; subst_vars; rfl) | (intro i r h; rcases i with _ | i <;> simp at h; subst h; rfl) | (simp [inI, maxLen]; done) | (simp [inI, maxLen]; omega)
    repeat (first | refine AWp.seq ?_ | refine AWp.block ?_)
    apply AWp.reg [] []
    · conv => lhs; simp [Fn.row, Tm.row, Tm.rows_eq, Cs.rows_eq, h1f]
    · (repeat' apply And.intro) <;> first | omega | assumption | trivial | (intros; subst_vars; rfl) | (intro i r h; rcases i with _ | i <;> simp at h; subst h; rfl) | (simp [inI, maxLen]; done) | (simp [inI, maxLen]; omega)
    refine ⟨⟨(i + 1, gs ++ [⟨fg, fps, .mk zk zn za zb zvs zxs zcs⟩]), hi1, hsn.symm⟩, by simp; omega, ?_⟩
    dsimp only
    exact Le.sub (by simp [Fn.row, Tm.row, Tm.rows_eq, Cs.rows_eq, hgl]) (by simp [Fn.row, Tm.row, Tm.rows_eq, Cs.rows_eq, hgl])
  have hi1 : i = l.length := by have := of_decide_eq_false hc; omega
  subst hi1
  clear hc
  rw [List.take_length] at hw
  obtain rfl : gs = G := by rw [hw, hG]
  refine AWp.exit ?_
  repeat (first | refine AWp.seq ?_ | refine AWp.block ?_)
  apply AWp.reg [] []
  · conv => lhs; simp [Fn.row, Tm.row, Tm.rows_eq, Cs.rows_eq]
  · (repeat' apply And.intro) <;> first | omega | assumption | trivial | (intros; subst_vars; rfl) | (intro i r h; rcases i with _ | i <;> simp at h; subst h; rfl) | (simp [inI, maxLen]; done) | (simp [inI, maxLen]; omega)
  refine AWp.ret ?_
  try dsimp only [thenQ, blockQ]
  apply endQ.retF [400]
  · rfl
  · conv => lhs; simp
  · conv => lhs; simp [resAV, Tryd.results17]
  rfl

theorem Tm.stpL_snoc (x : Tm) : ∀ (l : List Tm) (n : Int), Tm.stpL n (l ++ [x]) = wr (Tm.stpL n l + x.stp)
  | [], n => rfl
  | y :: r, n => by rw [List.cons_append, Tm.stpL, Tm.stpL, Tm.stpL_snoc x r]
theorem Cs.stpL_snoc (x : Cs) : ∀ (l : List Cs) (n : Int), Cs.stpL n (l ++ [x]) = wr (Cs.stpL n l + x.stp)
  | [], n => rfl
  | y :: r, n => by rw [List.cons_append, Cs.stpL, Cs.stpL, Cs.stpL_snoc x r]
def StN (N : Nat) : Prop := ∀ t : Tm, t.sz ≤ N → t.Ok → PSpec Tryd.prog 21 [tmAV t] (fun _ => .d (.int t.stp)) none
set_option maxRecDepth 20000 in
set_option maxHeartbeats 16000000 in
theorem StN_step (N : Nat) (ih : StN N) : StN (N + 1) := by
  intro t hsz hO
  obtain ⟨R, hR⟩ : ∃ R, R = t.stp := ⟨_, rfl⟩
  rw [← hR]
  obtain ⟨tk, tn, ta, tb, tvs, txs, tcs⟩ := t
  have hxO : ∀ x ∈ txs, x.Ok := fun x hx => Tm.Oks_iff.1 hO.2.2.1 x hx
  have hcO : ∀ x ∈ tcs, x.Ok := fun x hx => Cs.Oks_iff.1 hO.2.2.2 x hx
  obtain ⟨o1, o2, o3, o4, o5⟩ := hO.vars
  rw [Tm.stp] at hR
  simp only [Tm.sz] at hsz
  refine PSpec.of Tryd.func21 rfl rfl rfl (Nat.le_of_ble_eq_true rfl) ?_
  show AWp _ _ (endQ _ Tryd.f21 _ _ _) (startAS 37 _)
  repeat (first | refine AWp.seq ?_ | refine AWp.block ?_)
  apply AWp.reg [] []
  · conv => lhs; simp [Tm.row, Tm.rows_eq, Cs.rows_eq]
  · (repeat' apply And.intro) <;> first | omega | assumption | trivial | (intros; subst_vars; rfl) | (intro i r h; rcases i with _ | i <;> simp at h; subst h; rfl) | (simp [inI, maxLen]; done) | (simp [inI, maxLen]; omega)
  repeat (first | refine AWp.seq ?_ | refine AWp.block ?_)
  apply AWp.reg [] []
  · conv => lhs; simp [Tm.row, Tm.rows_eq, Cs.rows_eq]
  · (repeat' apply And.intro) <;> first | omega | assumption | trivial | (intros; subst_vars; rfl) | (intro i r h; rcases i with _ | i <;> simp at h; subst h; rfl) | (simp [inI, maxLen]; done) | (simp [inI, maxLen]; omega)
  by_cases q1 : 8 ≤ tk
  · repeat (first | refine AWp.seq ?_ | refine AWp.block ?_)
    apply AWp.reg [] []
    · conv => lhs; simp [Tm.row, Tm.rows_eq, Cs.rows_eq, q1]
    · (repeat' apply And.intro) <;> first | omega | assumption | trivial | (intros; subst_vars; rfl) | (intro i r h; rcases i with _ | i <;> simp at h; subst h; rfl) | (simp [inI, maxLen]; done) | (simp [inI, maxLen]; omega)
    repeat (first | refine AWp.seq ?_ | refine AWp.block ?_)
    refine AWp.cond rfl (fun hc => ?_) (fun hc => ?_)
    rotate_left
    · cases hc
    repeat (first | refine AWp.seq ?_ | refine AWp.block ?_)
    apply AWp.reg [] []
    · conv => lhs; simp [Tm.row, Tm.rows_eq, Cs.rows_eq, q1]
    · (repeat' apply And.intro) <;> first | omega | assumption | trivial | (intros; subst_vars; rfl) | (intro i r h; rcases i with _ | i <;> simp at h; subst h; rfl) | (simp [inI, maxLen]; done) | (simp [inI, maxLen]; omega)
    rw [if_pos (by omega)] at hR
    repeat (first | refine AWp.seq ?_ | refine AWp.block ?_)
    apply AWp.reg [] []
    · conv => lhs; simp [Tm.row, Tm.rows_eq, Cs.rows_eq, q1]
    · (repeat' apply And.intro) <;> first | omega | assumption | trivial | (intros; subst_vars; rfl) | (intro i r h; rcases i with _ | i <;> simp at h; subst h; rfl) | (simp [inI, maxLen]; done) | (simp [inI, maxLen]; omega)
    repeat (first | refine AWp.seq ?_ | refine AWp.block ?_)
    refine AWp.loop (σ := fun u : {u : Nat × Int // u.1 ≤ txs.length ∧ u.2 = Tm.stpL 1 (txs.take u.1)} => ⟨37, [(1, .ptr 1 0), (3, .d (.int u.1.2)), (12, .d (.sl (txs.map Tm.row))), (13, .d (.int (txs.length : Int))), (14, .d (.int (u.1.1 : Int)))], [(1, some (.blk 32 [.d (.int tk), .d (.int tn), .d (.str ta), .d (.str tb), .d (strsD tvs), .d (.sl (txs.map Tm.row)), .d (.sl (tcs.map Cs.row))]))]⟩)
      (μ := fun u => txs.length - u.1.1) ⟨(0, 1), ⟨Nat.zero_le _, by simp [Tm.stpL]⟩⟩ (Le.sub (by simp) (by simp)) (fun ⟨(i, n), ⟨hi5, hw⟩⟩ => ?_)
    dsimp only at hi5 hw ⊢
    repeat (first | refine AWp.seq ?_ | refine AWp.block ?_)
    apply AWp.reg [] []
    · conv => lhs; simp [Tm.row, Tm.rows_eq, Cs.rows_eq, q1]
    · (repeat' apply And.intro) <;> first | omega | assumption | trivial | (intros; subst_vars; rfl) | (intro i r h; rcases i with _ | i <;> simp at h; subst h; rfl) | (simp [inI, maxLen]; done) | (simp [inI, maxLen]; omega)
    repeat (first | refine AWp.seq ?_ | refine AWp.block ?_)
    refine AWp.cond rfl (fun hc => ?_) (fun hc => ?_)
    · have hi1 : i < txs.length := by have := of_decide_eq_true hc; omega
      clear hc
      have h1y : txs[i]? = some txs[i] := List.getElem?_eq_getElem hi1
      have hmy : txs[i] ∈ txs := List.getElem_mem hi1
      have hdy : txs.drop i = txs[i] :: txs.drop (i + 1) := List.drop_eq_getElem_cons hi1
      generalize txs[i] = y at h1y hmy hdy
      have hx := ih y (by have := Tm.szs_mem hmy; omega) (hxO y hmy)
      have hsn : Tm.stpL 1 (txs.take (i + 1)) = wr (n + y.stp) := by rw [List.take_add_one, h1y]; show Tm.stpL 1 (_ ++ [y]) = _; rw [Tm.stpL_snoc, ← hw]
      generalize y.stp = s at hx hsn
      obtain ⟨yk, yn, ya, yb, yvs, yxs, ycs⟩ := y
      refine AWp.skip ?_
      repeat (first | refine AWp.seq ?_ | refine AWp.block ?_)
      apply AWp.reg [] []
      · conv => lhs; simp [Tm.row, Tm.rows_eq, Cs.rows_eq, h1y, q1]
      · (repeat' apply And.intro) <;> first | omega | assumption | trivial | (intros; subst_vars; rfl) | (intro i r h; rcases i with _ | i <;> simp at h; subst h; rfl) | (simp [inI, maxLen]; done) | (simp [inI, maxLen]; omega)
      repeat (first | refine AWp.seq ?_ | refine AWp.block ?_)
      apply AWp.reg [3] [.p (fun _ => .d (.int s)) none]
      · conv => lhs; simp [Tm.row, Tm.rows_eq, Cs.rows_eq, h1y, q1]
      · (repeat' apply And.intro) <;> first | omega | assumption | trivial | (intros; subst_vars; rfl) | (intro i r h; rcases i with _ | i <;> simp at h; subst h; rfl) | (simp [inI, maxLen]; done) | (simp [inI, maxLen]; omega)
      repeat (first | refine AWp.seq ?_ | refine AWp.block ?_)
      apply AWp.reg [] []
      · conv => lhs; simp [Tm.row, Tm.rows_eq, Cs.rows_eq, h1y, q1]
      · (repeat' apply And.intro) <;> first | omega | assumption | trivial | (intros; subst_vars; rfl) | (intro i r h; rcases i with _ | i <;> simp at h; subst h; rfl) | (simp [inI, maxLen]; done) | (simp [inI, maxLen]; omega)
      refine ⟨⟨(i + 1, wr (n + s)), hi1, hsn.symm⟩, by simp; omega, ?_⟩
      dsimp only
      exact Le.sub (by simp) (by simp)
    have hi1 : i = txs.length := by have := of_decide_eq_false hc; omega
    subst hi1
    clear hc
    rw [List.take_length] at hw
    rw [← hw] at hR
    clear hw
    refine AWp.exit ?_
    repeat (first | refine AWp.seq ?_ | refine AWp.block ?_)
    apply AWp.reg [] []
    · conv => lhs; simp [Tm.row, Tm.rows_eq, Cs.rows_eq, q1]
    · (repeat' apply And.intro) <;> first | omega | assumption | trivial | (intros; subst_vars; rfl) | (intro i r h; rcases i with _ | i <;> simp at h; subst h; rfl) | (simp [inI, maxLen]; done) | (simp [inI, maxLen]; omega)
    repeat (first | refine AWp.seq ?_ | refine AWp.block ?_)
    refine AWp.loop (σ := fun u : {u : Nat × Int // u.1 ≤ tcs.length ∧ u.2 = Cs.stpL n (tcs.take u.1)} => ⟨37, [(3, .d (.int u.1.2)), (24, .d (.sl (tcs.map Cs.row))), (25, .d (.int (tcs.length : Int))), (26, .d (.int (u.1.1 : Int)))], []⟩)
      (μ := fun u => tcs.length - u.1.1) ⟨(0, n), ⟨Nat.zero_le _, by simp [Cs.stpL]⟩⟩ (Le.sub (by simp) (by simp)) (fun ⟨(i, m), ⟨hi10, hw2⟩⟩ => ?_)
    dsimp only at hi10 hw2 ⊢
    repeat (first | refine AWp.seq ?_ | refine AWp.block ?_)
    apply AWp.reg [] []
    · conv => lhs; simp [Tm.row, Tm.rows_eq, Cs.rows_eq, q1]
    · (repeat' apply And.intro) <;> first | omega | assumption | trivial | (intros; subst_vars; rfl) | (intro i r h; rcases i with _ | i <;> simp at h; subst h; rfl) | (simp [inI, maxLen]; done) | (simp [inI, maxLen]; omega)
    repeat (first | refine AWp.seq ?_ | refine AWp.block ?_)
    refine AWp.cond rfl (fun hc => ?_) (fun hc => ?_)
    · have hi1 : i < tcs.length := by have := of_decide_eq_true hc; omega
      clear hc
      have h1d : tcs[i]? = some tcs[i] := List.getElem?_eq_getElem hi1
      have hmd : tcs[i] ∈ tcs := List.getElem_mem hi1
      have hdd : tcs.drop i = tcs[i] :: tcs.drop (i + 1) := List.drop_eq_getElem_cons hi1
      generalize tcs[i] = d at h1d hmd hdd
      have hsz2 := Cs.szs_mem hmd
      have hsn : Cs.stpL n (tcs.take (i + 1)) = wr (m + d.stp) := by rw [List.take_add_one, h1d]; show Cs.stpL n (_ ++ [d]) = _; rw [Cs.stpL_snoc, ← hw2]
      obtain ⟨dt, dws, y⟩ := d
      have hx := ih y (by simp only [Cs.sz] at hsz2; omega) (hcO _ hmd).2.2
      rw [Cs.stp] at hsn
      generalize y.stp = s at hx hsn
      obtain ⟨yk, yn, ya, yb, yvs, yxs, ycs⟩ := y
      refine AWp.skip ?_
      repeat (first | refine AWp.seq ?_ | refine AWp.block ?_)
      apply AWp.reg [] []
      · conv => lhs; simp [Tm.row, Tm.rows_eq, Cs.rows_eq, h1d, Cs.row, q1]
      · (repeat' apply And.intro) <;> first | omega | assumption | trivial | (intros; subst_vars; rfl) | (intro i r h; rcases i with _ | i <;> simp at h; subst h; rfl) | (simp [inI, maxLen]; done) | (simp [inI, maxLen]; omega)
      repeat (first | refine AWp.seq ?_ | refine AWp.block ?_)
      apply AWp.reg [4] [.p (fun _ => .d (.int s)) none]
      · conv => lhs; simp [Tm.row, Tm.rows_eq, Cs.rows_eq, h1d, Cs.row, q1]
      · (repeat' apply And.intro) <;> first | omega | assumption | trivial | (intros; subst_vars; rfl) | (intro i r h; rcases i with _ | i <;> simp at h; subst h; rfl) | (simp [inI, maxLen]; done) | (simp [inI, maxLen]; omega)
      repeat (first | refine AWp.seq ?_ | refine AWp.block ?_)
      apply AWp.reg [] []
      · conv => lhs; simp [Tm.row, Tm.rows_eq, Cs.rows_eq, h1d, Cs.row, q1]
      · (repeat' apply And.intro) <;> first | omega | assumption | trivial | (intros; subst_vars; rfl) | (intro i r h; rcases i with _ | i <;> simp at h; subst h; rfl) | (simp [inI, maxLen]; done) | (simp [inI, maxLen]; omega)
      refine ⟨⟨(i + 1, wr (m + s)), hi1, hsn.symm⟩, by simp; omega, ?_⟩
      dsimp only
      exact Le.sub (by simp) (by simp)
    have hi1 : i = tcs.length := by have := of_decide_eq_false hc; omega
    subst hi1
    clear hc
    rw [List.take_length] at hw2
    rw [← hw2] at hR
    subst hR
    refine AWp.exit ?_
    repeat (first | refine AWp.seq ?_ | refine AWp.block ?_)
    apply AWp.reg [] []
    · conv => lhs; simp [Tm.row, Tm.rows_eq, Cs.rows_eq, q1]
    · (repeat' apply And.intro) <;> first | omega | assumption | trivial | (intros; subst_vars; rfl) | (intro i r h; rcases i with _ | i <;> simp at h; subst h; rfl) | (simp [inI, maxLen]; done) | (simp [inI, maxLen]; omega)
    refine AWp.ret ?_
    try dsimp only [thenQ, blockQ]
    apply endQ.ret
    · rfl
    · conv => lhs; simp [resAV, Tryd.results21]
    rfl
  repeat (first | refine AWp.seq ?_ | refine AWp.block ?_)
  apply AWp.reg [] []
  · conv => lhs; simp [Tm.row, Tm.rows_eq, Cs.rows_eq, q1]
  · (repeat' apply And.intro) <;> first | omega | assumption | trivial | (intros; subst_vars; rfl) | (intro i r h; rcases i with _ | i <;> simp at h; subst h; rfl) | (simp [inI, maxLen]; done) | (simp [inI, maxLen]; omega)
  repeat (first | refine AWp.seq ?_ | refine AWp.block ?_)
  refine AWp.cond rfl (fun hc => ?_) (fun hc => ?_)
  · cases hc
  refine AWp.skip ?_
  rw [if_neg (by omega)] at hR
  repeat (first | refine AWp.seq ?_ | refine AWp.block ?_)
  apply AWp.reg [] []
  · conv => lhs; simp [Tm.row, Tm.rows_eq, Cs.rows_eq, q1]
  · (repeat' apply And.intro) <;> first | omega | assumption | trivial | (intros; subst_vars; rfl) | (intro i r h; rcases i with _ | i <;> simp at h; subst h; rfl) | (simp [inI, maxLen]; done) | (simp [inI, maxLen]; omega)
  repeat (first | refine AWp.seq ?_ | refine AWp.block ?_)
  refine AWp.loop (σ := fun u : {u : Nat × Int // u.1 ≤ txs.length ∧ u.2 = Tm.stpL 0 (txs.take u.1)} => ⟨37, [(1, .ptr 1 0), (3, .d (.int u.1.2)), (12, .d (.sl (txs.map Tm.row))), (13, .d (.int (txs.length : Int))), (14, .d (.int (u.1.1 : Int)))], [(1, some (.blk 32 [.d (.int tk), .d (.int tn), .d (.str ta), .d (.str tb), .d (strsD tvs), .d (.sl (txs.map Tm.row)), .d (.sl (tcs.map Cs.row))]))]⟩)
    (μ := fun u => txs.length - u.1.1) ⟨(0, 0), ⟨Nat.zero_le _, by simp [Tm.stpL]⟩⟩ (Le.sub (by simp) (by simp)) (fun ⟨(i, n), ⟨hi5, hw⟩⟩ => ?_)
  dsimp only at hi5 hw ⊢
  repeat (first | refine AWp.seq ?_ | refine AWp.block ?_)
  apply AWp.reg [] []
  · conv => lhs; simp [Tm.row, Tm.rows_eq, Cs.rows_eq, q1]
  · (repeat' apply And.intro) <;> first | omega | assumption | trivial | (intros; subst_vars; rfl) | (intro i r h; rcases i with _ | i <;> simp at h; subst h; rfl) | (simp [inI, maxLen]; done) | (simp [inI, maxLen]; omega)
  repeat (first | refine AWp.seq ?_ | refine AWp.block ?_)
  refine AWp.cond rfl (fun hc => ?_) (fun hc => ?_)
  · have hi1 : i < txs.length := by have := of_decide_eq_true hc; omega
    clear hc
    have h1y : txs[i]? = some txs[i] := List.getElem?_eq_getElem hi1
    have hmy : txs[i] ∈ txs := List.getElem_mem hi1
    have hdy : txs.drop i = txs[i] :: txs.drop (i + 1) := List.drop_eq_getElem_cons hi1
    generalize txs[i] = y at h1y hmy hdy
    have hx := ih y (by have := Tm.szs_mem hmy; omega) (hxO y hmy)
    have hsn : Tm.stpL 0 (txs.take (i + 1)) = wr (n + y.stp) := by rw [List.take_add_one, h1y]; show Tm.stpL 0 (_ ++ [y]) = _; rw [Tm.stpL_snoc, ← hw]
    generalize y.stp = s at hx hsn
    obtain ⟨yk, yn, ya, yb, yvs, yxs, ycs⟩ := y
    refine AWp.skip ?_
    repeat (first | refine AWp.seq ?_ | refine AWp.block ?_)
    apply AWp.reg [] []
    · conv => lhs; simp [Tm.row, Tm.rows_eq, Cs.rows_eq, h1y, q1]
    · (repeat' apply And.intro) <;> first | omega | assumption | trivial | (intros; subst_vars; rfl) | (intro i r h; rcases i with _ | i <;> simp at h; subst h; rfl) | (simp [inI, maxLen]; done) | (simp [inI, maxLen]; omega)
    repeat (first | refine AWp.seq ?_ | refine AWp.block ?_)
    apply AWp.reg [3] [.p (fun _ => .d (.int s)) none]
    · conv => lhs; simp [Tm.row, Tm.rows_eq, Cs.rows_eq, h1y, q1]
    · (repeat' apply And.intro) <;> first | omega | assumption | trivial | (intros; subst_vars; rfl) | (intro i r h; rcases i with _ | i <;> simp at h; subst h; rfl) | (simp [inI, maxLen]; done) | (simp [inI, maxLen]; omega)
    repeat (first | refine AWp.seq ?_ | refine AWp.block ?_)
    apply AWp.reg [] []
    · conv => lhs; simp [Tm.row, Tm.rows_eq, Cs.rows_eq, h1y, q1]
    · (repeat' apply And.intro) <;> first | omega | assumption | trivial | (intros; subst_vars; rfl) | (intro i r h; rcases i with _ | i <;> simp at h; subst h; rfl) | (simp [inI, maxLen]; done) | (simp [inI, maxLen]; omega)
    refine ⟨⟨(i + 1, wr (n + s)), hi1, hsn.symm⟩, by simp; omega, ?_⟩
    dsimp only
    exact Le.sub (by simp) (by simp)
  have hi1 : i = txs.length := by have := of_decide_eq_false hc; omega
  subst hi1
  clear hc
  rw [List.take_length] at hw
  rw [← hw] at hR
  clear hw
  refine AWp.exit ?_
  repeat (first | refine AWp.seq ?_ | refine AWp.block ?_)
  apply AWp.reg [] []
  · conv => lhs; simp [Tm.row, Tm.rows_eq, Cs.rows_eq, q1]
  · (repeat' apply And.intro) <;> first | omega | assumption | trivial | (intros; subst_vars; rfl) | (intro i r h; rcases i with _ | i <;> simp at h; subst h; rfl) | (simp [inI, maxLen]; done) | (simp [inI, maxLen]; omega)
  repeat (first | refine AWp.seq ?_ | refine AWp.block ?_)
  refine AWp.loop (σ := fun u : {u : Nat × Int // u.1 ≤ tcs.length ∧ u.2 = Cs.stpL n (tcs.take u.1)} => ⟨37, [(3, .d (.int u.1.2)), (24, .d (.sl (tcs.map Cs.row))), (25, .d (.int (tcs.length : Int))), (26, .d (.int (u.1.1 : Int)))], []⟩)
    (μ := fun u => tcs.length - u.1.1) ⟨(0, n), ⟨Nat.zero_le _, by simp [Cs.stpL]⟩⟩ (Le.sub (by simp) (by simp)) (fun ⟨(i, m), ⟨hi10, hw2⟩⟩ => ?_)
  dsimp only at hi10 hw2 ⊢
  repeat (first | refine AWp.seq ?_ | refine AWp.block ?_)
  apply AWp.reg [] []
  · conv => lhs; simp [Tm.row, Tm.rows_eq, Cs.rows_eq, q1]
  · (repeat' apply And.intro) <;> first | omega | assumption | trivial | (intros; subst_vars; rfl) | (intro i r h; rcases i with _ | i <;> simp at h; subst h; rfl) | (simp [inI, maxLen]; done) | (simp [inI, maxLen]; omega)
  repeat (first | refine AWp.seq ?_ | refine AWp.block ?_)
  refine AWp.cond rfl (fun hc => ?_) (fun hc => ?_)
  · have hi1 : i < tcs.length := by have := of_decide_eq_true hc; omega
    clear hc
    have h1d : tcs[i]? = some tcs[i] := List.getElem?_eq_getElem hi1
    have hmd : tcs[i] ∈ tcs := List.getElem_mem hi1
    have hdd : tcs.drop i = tcs[i] :: tcs.drop (i + 1) := List.drop_eq_getElem_cons hi1
    generalize tcs[i] = d at h1d hmd hdd
    have hsz2 := Cs.szs_mem hmd
    have hsn : Cs.stpL n (tcs.take (i + 1)) = wr (m + d.stp) := by rw [List.take_add_one, h1d]; show Cs.stpL n (_ ++ [d]) = _; rw [Cs.stpL_snoc, ← hw2]
    obtain ⟨dt, dws, y⟩ := d
    have hx := ih y (by simp only [Cs.sz] at hsz2; omega) (hcO _ hmd).2.2
    rw [Cs.stp] at hsn
    generalize y.stp = s at hx hsn
    obtain ⟨yk, yn, ya, yb, yvs, yxs, ycs⟩ := y
    refine AWp.skip ?_
    repeat (first | refine AWp.seq ?_ | refine AWp.block ?_)
    apply AWp.reg [] []
    · conv => lhs; simp [Tm.row, Tm.rows_eq, Cs.rows_eq, h1d, Cs.row, q1]
    · (repeat' apply And.intro) <;> first | omega | assumption | trivial | (intros; subst_vars; rfl) | (intro i r h; rcases i with _ | i <;> simp at h; subst h; rfl) | (simp [inI, maxLen]; done) | (simp [inI, maxLen]; omega)
    repeat (first | refine AWp.seq ?_ | refine AWp.block ?_)
    apply AWp.reg [4] [.p (fun _ => .d (.int s)) none]
    · conv => lhs; simp [Tm.row, Tm.rows_eq, Cs.rows_eq, h1d, Cs.row, q1]
    · (repeat' apply And.intro) <;> first | omega | assumption | trivial | (intros; subst_vars; rfl) | (intro i r h; rcases i with _ | i <;> simp at h; subst h; rfl) | (simp [inI, maxLen]; done) | (simp [inI, maxLen]; omega)
    repeat (first | refine AWp.seq ?_ | refine AWp.block ?_)
    apply AWp.reg [] []
    · conv => lhs; simp [Tm.row, Tm.rows_eq, Cs.rows_eq, h1d, Cs.row, q1]
    · (repeat' apply And.intro) <;> first | omega | assumption | trivial | (intros; subst_vars; rfl) | (intro i r h; rcases i with _ | i <;> simp at h; subst h; rfl) | (simp [inI, maxLen]; done) | (simp [inI, maxLen]; omega)
    refine ⟨⟨(i + 1, wr (m + s)), hi1, hsn.symm⟩, by simp; omega, ?_⟩
    dsimp only
    exact Le.sub (by simp) (by simp)
  have hi1 : i = tcs.length := by have := of_decide_eq_false hc; omega
  subst hi1
  clear hc
  rw [List.take_length] at hw2
  rw [← hw2] at hR
  subst hR
  refine AWp.exit ?_
  repeat (first | refine AWp.seq ?_ | refine AWp.block ?_)
  apply AWp.reg [] []
  · conv => lhs; simp [Tm.row, Tm.rows_eq, Cs.rows_eq, q1]
  · (repeat' apply And.intro) <;> first | omega | assumption | trivial | (intros; subst_vars; rfl) | (intro i r h; rcases i with _ | i <;> simp at h; subst h; rfl) | (simp [inI, maxLen]; done) | (simp [inI, maxLen]; omega)
  refine AWp.ret ?_
  try dsimp only [thenQ, blockQ]
  apply endQ.ret
  · rfl
  · conv => lhs; simp [resAV, Tryd.results21]
  rfl

theorem StN_all : ∀ N, StN N
  | 0 => fun t h => by obtain ⟨tk, tn, ta, tb, tvs, txs, tcs⟩ := t; simp only [Tm.sz] at h; omega
  | N + 1 => StN_step N (StN_all N)
def RtN (N : Nat) : Prop := ∀ t : Tm, t.sz ≤ N → t.Ok → PSpec Tryd.prog 22 [tmAV t] (fun _ => .d (.int t.stp)) none
set_option maxRecDepth 20000 in
set_option maxHeartbeats 16000000 in
theorem RtN_step (N : Nat) (ih : RtN N) : RtN (N + 1) := by
  intro t hsz hO
  obtain ⟨R, hR⟩ : ∃ R, R = t.stp := ⟨_, rfl⟩
  rw [← hR]
  obtain ⟨tk, tn, ta, tb, tvs, txs, tcs⟩ := t
  have hxO : ∀ x ∈ txs, x.Ok := fun x hx => Tm.Oks_iff.1 hO.2.2.1 x hx
  have hcO : ∀ x ∈ tcs, x.Ok := fun x hx => Cs.Oks_iff.1 hO.2.2.2 x hx
  obtain ⟨o1, o2, o3, o4, o5⟩ := hO.vars
  rw [Tm.stp] at hR
  simp only [Tm.sz] at hsz
  refine PSpec.of Tryd.func22 rfl rfl rfl (Nat.le_of_ble_eq_true rfl) ?_
  show AWp _ _ (endQ _ Tryd.f22 _ _ _) (startAS 37 _)
  repeat (first | refine AWp.seq ?_ | refine AWp.block ?_)
  apply AWp.reg [] []
  · conv => lhs; simp [Tm.row, Tm.rows_eq, Cs.rows_eq]
  · (repeat' apply And.intro) <;> first | omega | assumption | trivial | (intros; subst_vars; rfl) | (intro i r h; rcases i with _ | i <;> simp at h; subst h; rfl) | (simp [inI, maxLen]; done) | (simp [inI, maxLen]; omega)
  repeat (first | refine AWp.seq ?_ | refine AWp.block ?_)
  apply AWp.reg [] []
  · conv => lhs; simp [Tm.row, Tm.rows_eq, Cs.rows_eq]
  · (repeat' apply And.intro) <;> first | omega | assumption | trivial | (intros; subst_vars; rfl) | (intro i r h; rcases i with _ | i <;> simp at h; subst h; rfl) | (simp [inI, maxLen]; done) | (simp [inI, maxLen]; omega)
  by_cases q1 : 7 < tk
  · repeat (first | refine AWp.seq ?_ | refine AWp.block ?_)
    apply AWp.reg [] []
    · conv => lhs; simp [Tm.row, Tm.rows_eq, Cs.rows_eq, q1]
    · (repeat' apply And.intro) <;> first | omega | assumption | trivial | (intros; subst_vars; rfl) | (intro i r h; rcases i with _ | i <;> simp at h; subst h; rfl) | (simp [inI, maxLen]; done) | (simp [inI, maxLen]; omega)
    repeat (first | refine AWp.seq ?_ | refine AWp.block ?_)
    refine AWp.cond rfl (fun hc => ?_) (fun hc => ?_)
    rotate_left
    · cases hc
    repeat (first | refine AWp.seq ?_ | refine AWp.block ?_)
    apply AWp.reg [] []
    · conv => lhs; simp [Tm.row, Tm.rows_eq, Cs.rows_eq, q1]
    · (repeat' apply And.intro) <;> first | omega | assumption | trivial | (intros; subst_vars; rfl) | (intro i r h; rcases i with _ | i <;> simp at h; subst h; rfl) | (simp [inI, maxLen]; done) | (simp [inI, maxLen]; omega)
    rw [if_pos (by omega)] at hR
    repeat (first | refine AWp.seq ?_ | refine AWp.block ?_)
    apply AWp.reg [] []
    · conv => lhs; simp [Tm.row, Tm.rows_eq, Cs.rows_eq, q1]
    · (repeat' apply And.intro) <;> first | omega | assumption | trivial | (intros; subst_vars; rfl) | (intro i r h; rcases i with _ | i <;> simp at h; subst h; rfl) | (simp [inI, maxLen]; done) | (simp [inI, maxLen]; omega)
    repeat (first | refine AWp.seq ?_ | refine AWp.block ?_)
    refine AWp.loop (σ := fun u : {u : Nat × Int // u.1 ≤ txs.length ∧ u.2 = Tm.stpL 1 (txs.take u.1)} => ⟨37, [(1, .ptr 1 0), (3, .d (.int u.1.2)), (12, .d (.sl (txs.map Tm.row))), (13, .d (.int (txs.length : Int))), (14, .d (.int (u.1.1 : Int)))], [(1, some (.blk 32 [.d (.int tk), .d (.int tn), .d (.str ta), .d (.str tb), .d (strsD tvs), .d (.sl (txs.map Tm.row)), .d (.sl (tcs.map Cs.row))]))]⟩)
      (μ := fun u => txs.length - u.1.1) ⟨(0, 1), ⟨Nat.zero_le _, by simp [Tm.stpL]⟩⟩ (Le.sub (by simp) (by simp)) (fun ⟨(i, n), ⟨hi5, hw⟩⟩ => ?_)
    dsimp only at hi5 hw ⊢
    repeat (first | refine AWp.seq ?_ | refine AWp.block ?_)
    apply AWp.reg [] []
    · conv => lhs; simp [Tm.row, Tm.rows_eq, Cs.rows_eq, q1]
    · (repeat' apply And.intro) <;> first | omega | assumption | trivial | (intros; subst_vars; rfl) | (intro i r h; rcases i with _ | i <;> simp at h; subst h; rfl) | (simp [inI, maxLen]; done) | (simp [inI, maxLen]; omega)
    repeat (first | refine AWp.seq ?_ | refine AWp.block ?_)
    refine AWp.cond rfl (fun hc => ?_) (fun hc => ?_)
    · have hi1 : i < txs.length := by have := of_decide_eq_true hc; omega
      clear hc
      have h1y : txs[i]? = some txs[i] := List.getElem?_eq_getElem hi1
      have hmy : txs[i] ∈ txs := List.getElem_mem hi1
      have hdy : txs.drop i = txs[i] :: txs.drop (i + 1) := List.drop_eq_getElem_cons hi1
      generalize txs[i] = y at h1y hmy hdy
      have hx := ih y (by have := Tm.szs_mem hmy; omega) (hxO y hmy)
      have hsn : Tm.stpL 1 (txs.take (i + 1)) = wr (n + y.stp) := by rw [List.take_add_one, h1y]; show Tm.stpL 1 (_ ++ [y]) = _; rw [Tm.stpL_snoc, ← hw]
      generalize y.stp = s at hx hsn
      obtain ⟨yk, yn, ya, yb, yvs, yxs, ycs⟩ := y
      refine AWp.skip ?_
      repeat (first | refine AWp.seq ?_ | refine AWp.block ?_)
      apply AWp.reg [] []
      · conv => lhs; simp [Tm.row, Tm.rows_eq, Cs.rows_eq, h1y, q1]
      · (repeat' apply And.intro) <;> first | omega | assumption | trivial | (intros; subst_vars; rfl) | (intro i r h; rcases i with _ | i <;> simp at h; subst h; rfl) | (simp [inI, maxLen]; done) | (simp [inI, maxLen]; omega)
      repeat (first | refine AWp.seq ?_ | refine AWp.block ?_)
      apply AWp.reg [3] [.p (fun _ => .d (.int s)) none]
      · conv => lhs; simp [Tm.row, Tm.rows_eq, Cs.rows_eq, h1y, q1]
      · (repeat' apply And.intro) <;> first | omega | assumption | trivial | (intros; subst_vars; rfl) | (intro i r h; rcases i with _ | i <;> simp at h; subst h; rfl) | (simp [inI, maxLen]; done) | (simp [inI, maxLen]; omega)
      repeat (first | refine AWp.seq ?_ | refine AWp.block ?_)
      apply AWp.reg [] []
      · conv => lhs; simp [Tm.row, Tm.rows_eq, Cs.rows_eq, h1y, q1]
      · (repeat' apply And.intro) <;> first | omega | assumption | trivial | (intros; subst_vars; rfl) | (intro i r h; rcases i with _ | i <;> simp at h; subst h; rfl) | (simp [inI, maxLen]; done) | (simp [inI, maxLen]; omega)
      refine ⟨⟨(i + 1, wr (n + s)), hi1, hsn.symm⟩, by simp; omega, ?_⟩
      dsimp only
      exact Le.sub (by simp) (by simp)
    have hi1 : i = txs.length := by have := of_decide_eq_false hc; omega
    subst hi1
    clear hc
    rw [List.take_length] at hw
    rw [← hw] at hR
    clear hw
    refine AWp.exit ?_
    repeat (first | refine AWp.seq ?_ | refine AWp.block ?_)
    apply AWp.reg [] []
    · conv => lhs; simp [Tm.row, Tm.rows_eq, Cs.rows_eq, q1]
    · (repeat' apply And.intro) <;> first | omega | assumption | trivial | (intros; subst_vars; rfl) | (intro i r h; rcases i with _ | i <;> simp at h; subst h; rfl) | (simp [inI, maxLen]; done) | (simp [inI, maxLen]; omega)
    repeat (first | refine AWp.seq ?_ | refine AWp.block ?_)
    refine AWp.loop (σ := fun u : {u : Nat × Int // u.1 ≤ tcs.length ∧ u.2 = Cs.stpL n (tcs.take u.1)} => ⟨37, [(3, .d (.int u.1.2)), (24, .d (.sl (tcs.map Cs.row))), (25, .d (.int (tcs.length : Int))), (26, .d (.int (u.1.1 : Int)))], []⟩)
      (μ := fun u => tcs.length - u.1.1) ⟨(0, n), ⟨Nat.zero_le _, by simp [Cs.stpL]⟩⟩ (Le.sub (by simp) (by simp)) (fun ⟨(i, m), ⟨hi10, hw2⟩⟩ => ?_)
    dsimp only at hi10 hw2 ⊢
    repeat (first | refine AWp.seq ?_ | refine AWp.block ?_)
    apply AWp.reg [] []
    · conv => lhs; simp [Tm.row, Tm.rows_eq, Cs.rows_eq, q1]
    · (repeat' apply And.intro) <;> first | omega | assumption | trivial | (intros; subst_vars; rfl) | (intro i r h; rcases i with _ | i <;> simp at h; subst h; rfl) | (simp [inI, maxLen]; done) | (simp [inI, maxLen]; omega)
    repeat (first | refine AWp.seq ?_ | refine AWp.block ?_)
    refine AWp.cond rfl (fun hc => ?_) (fun hc => ?_)
    · have hi1 : i < tcs.length := by have := of_decide_eq_true hc; omega
      clear hc
      have h1d : tcs[i]? = some tcs[i] := List.getElem?_eq_getElem hi1
      have hmd : tcs[i] ∈ tcs := List.getElem_mem hi1
      have hdd : tcs.drop i = tcs[i] :: tcs.drop (i + 1) := List.drop_eq_getElem_cons hi1
      generalize tcs[i] = d at h1d hmd hdd
      have hsz2 := Cs.szs_mem hmd
      have hsn : Cs.stpL n (tcs.take (i + 1)) = wr (m + d.stp) := by rw [List.take_add_one, h1d]; show Cs.stpL n (_ ++ [d]) = _; rw [Cs.stpL_snoc, ← hw2]
      obtain ⟨dt, dws, y⟩ := d
      have hx := ih y (by simp only [Cs.sz] at hsz2; omega) (hcO _ hmd).2.2
      rw [Cs.stp] at hsn
      generalize y.stp = s at hx hsn
      obtain ⟨yk, yn, ya, yb, yvs, yxs, ycs⟩ := y
      refine AWp.skip ?_
      repeat (first | refine AWp.seq ?_ | refine AWp.block ?_)
      apply AWp.reg [] []
      · conv => lhs; simp [Tm.row, Tm.rows_eq, Cs.rows_eq, h1d, Cs.row, q1]
      · (repeat' apply And.intro) <;> first | omega | assumption | trivial | (intros; subst_vars; rfl) | (intro i r h; rcases i with _ | i <;> simp at h; subst h; rfl) | (simp [inI, maxLen]; done) | (simp [inI, maxLen]; omega)
      repeat (first | refine AWp.seq ?_ | refine AWp.block ?_)
      apply AWp.reg [4] [.p (fun _ => .d (.int s)) none]
      · conv => lhs; simp [Tm.row, Tm.rows_eq, Cs.rows_eq, h1d, Cs.row, q1]
      · (repeat' apply And.intro) <;> first | omega | assumption | trivial | (intros; subst_vars; rfl) | (intro i r h; rcases i with _ | i <;> simp at h; subst h; rfl) | (simp [inI, maxLen]; done) | (simp [inI, maxLen]; omega)
      repeat (first | refine AWp.seq ?_ | refine AWp.block ?_)
      apply AWp.reg [] []
      · conv => lhs; simp [Tm.row, Tm.rows_eq, Cs.rows_eq, h1d, Cs.row, q1]
      · (repeat' apply And.intro) <;> first | omega | assumption | trivial | (intros; subst_vars; rfl) | (intro i r h; rcases i with _ | i <;> simp at h; subst h; rfl) | (simp [inI, maxLen]; done) | (simp [inI, maxLen]; omega)
      refine ⟨⟨(i + 1, wr (m + s)), hi1, hsn.symm⟩, by simp; omega, ?_⟩
      dsimp only
      exact Le.sub (by simp) (by simp)
    have hi1 : i = tcs.length := by have := of_decide_eq_false hc; omega
    subst hi1
    clear hc
    rw [List.take_length] at hw2
    rw [← hw2] at hR
    subst hR
    refine AWp.exit ?_
    repeat (first | refine AWp.seq ?_ | refine AWp.block ?_)
    apply AWp.reg [] []
    · conv => lhs; simp [Tm.row, Tm.rows_eq, Cs.rows_eq, q1]
    · (repeat' apply And.intro) <;> first | omega | assumption | trivial | (intros; subst_vars; rfl) | (intro i r h; rcases i with _ | i <;> simp at h; subst h; rfl) | (simp [inI, maxLen]; done) | (simp [inI, maxLen]; omega)
    refine AWp.ret ?_
    try dsimp only [thenQ, blockQ]
    apply endQ.ret
    · rfl
    · conv => lhs; simp [resAV, Tryd.results22]
    rfl
  repeat (first | refine AWp.seq ?_ | refine AWp.block ?_)
  apply AWp.reg [] []
  · conv => lhs; simp [Tm.row, Tm.rows_eq, Cs.rows_eq, q1]
  · (repeat' apply And.intro) <;> first | omega | assumption | trivial | (intros; subst_vars; rfl) | (intro i r h; rcases i with _ | i <;> simp at h; subst h; rfl) | (simp [inI, maxLen]; done) | (simp [inI, maxLen]; omega)
  repeat (first | refine AWp.seq ?_ | refine AWp.block ?_)
  refine AWp.cond rfl (fun hc => ?_) (fun hc => ?_)
  · cases hc
  refine AWp.skip ?_
  rw [if_neg (by omega)] at hR
  repeat (first | refine AWp.seq ?_ | refine AWp.block ?_)
  apply AWp.reg [] []
  · conv => lhs; simp [Tm.row, Tm.rows_eq, Cs.rows_eq, q1]
  · (repeat' apply And.intro) <;> first | omega | assumption | trivial | (intros; subst_vars; rfl) | (intro i r h; rcases i with _ | i <;> simp at h; subst h; rfl) | (simp [inI, maxLen]; done) | (simp [inI, maxLen]; omega)
  repeat (first | refine AWp.seq ?_ | refine AWp.block ?_)
  refine AWp.loop (σ := fun u : {u : Nat × Int // u.1 ≤ txs.length ∧ u.2 = Tm.stpL 0 (txs.take u.1)} => ⟨37, [(1, .ptr 1 0), (3, .d (.int u.1.2)), (12, .d (.sl (txs.map Tm.row))), (13, .d (.int (txs.length : Int))), (14, .d (.int (u.1.1 : Int)))], [(1, some (.blk 32 [.d (.int tk), .d (.int tn), .d (.str ta), .d (.str tb), .d (strsD tvs), .d (.sl (txs.map Tm.row)), .d (.sl (tcs.map Cs.row))]))]⟩)
    (μ := fun u => txs.length - u.1.1) ⟨(0, 0), ⟨Nat.zero_le _, by simp [Tm.stpL]⟩⟩ (Le.sub (by simp) (by simp)) (fun ⟨(i, n), ⟨hi5, hw⟩⟩ => ?_)
  dsimp only at hi5 hw ⊢
  repeat (first | refine AWp.seq ?_ | refine AWp.block ?_)
  apply AWp.reg [] []
  · conv => lhs; simp [Tm.row, Tm.rows_eq, Cs.rows_eq, q1]
  · (repeat' apply And.intro) <;> first | omega | assumption | trivial | (intros; subst_vars; rfl) | (intro i r h; rcases i with _ | i <;> simp at h; subst h; rfl) | (simp [inI, maxLen]; done) | (simp [inI, maxLen]; omega)
  repeat (first | refine AWp.seq ?_ | refine AWp.block ?_)
  refine AWp.cond rfl (fun hc => ?_) (fun hc => ?_)
  · have hi1 : i < txs.length := by have := of_decide_eq_true hc; omega
    clear hc
    have h1y : txs[i]? = some txs[i] := List.getElem?_eq_getElem hi1
    have hmy : txs[i] ∈ txs := List.getElem_mem hi1
    have hdy : txs.drop i = txs[i] :: txs.drop (i + 1) := List.drop_eq_getElem_cons hi1
    generalize txs[i] = y at h1y hmy hdy
    have hx := ih y (by have := Tm.szs_mem hmy; omega) (hxO y hmy)
    have hsn : Tm.stpL 0 (txs.take (i + 1)) = wr (n + y.stp) := by rw [List.take_add_one, h1y]; show Tm.stpL 0 (_ ++ [y]) = _; rw [Tm.stpL_snoc, ← hw]
    generalize y.stp = s at hx hsn
    obtain ⟨yk, yn, ya, yb, yvs, yxs, ycs⟩ := y
    refine AWp.skip ?_
    repeat (first | refine AWp.seq ?_ | refine AWp.block ?_)
    apply AWp.reg [] []
    · conv => lhs; simp [Tm.row, Tm.rows_eq, Cs.rows_eq, h1y, q1]
    · (repeat' apply And.intro) <;> first | omega | assumption | trivial | (intros; subst_vars; rfl) | (intro i r h; rcases i with _ | i <;> simp at h; subst h; rfl) | (simp [inI, maxLen]; done) | (simp [inI, maxLen]; omega)
    repeat (first | refine AWp.seq ?_ | refine AWp.block ?_)
    apply AWp.reg [3] [.p (fun _ => .d (.int s)) none]
    · conv => lhs; simp [Tm.row, Tm.rows_eq, Cs.rows_eq, h1y, q1]
    · (repeat' apply And.intro) <;> first | omega | assumption | trivial | (intros; subst_vars; rfl) | (intro i r h; rcases i with _ | i <;> simp at h; subst h; rfl) | (simp [inI, maxLen]; done) | (simp [inI, maxLen]; omega)
    repeat (first | refine AWp.seq ?_ | refine AWp.block ?_)
    apply AWp.reg [] []
    · conv => lhs; simp [Tm.row, Tm.rows_eq, Cs.rows_eq, h1y, q1]
    · (repeat' apply And.intro) <;> first | omega | assumption | trivial | (intros; subst_vars; rfl) | (intro i r h; rcases i with _ | i <;> simp at h; subst h; rfl) | (simp [inI, maxLen]; done) | (simp [inI, maxLen]; omega)
    refine ⟨⟨(i + 1, wr (n + s)), hi1, hsn.symm⟩, by simp; omega, ?_⟩
    dsimp only
    exact Le.sub (by simp) (by simp)
  have hi1 : i = txs.length := by have := of_decide_eq_false hc; omega
  subst hi1
  clear hc
  rw [List.take_length] at hw
  rw [← hw] at hR
  clear hw
  refine AWp.exit ?_
  repeat (first | refine AWp.seq ?_ | refine AWp.block ?_)
  apply AWp.reg [] []
  · conv => lhs; simp [Tm.row, Tm.rows_eq, Cs.rows_eq, q1]
  · (repeat' apply And.intro) <;> first | omega | assumption | trivial | (intros; subst_vars; rfl) | (intro i r h; rcases i with _ | i <;> simp at h; subst h; rfl) | (simp [inI, maxLen]; done) | (simp [inI, maxLen]; omega)
  repeat (first | refine AWp.seq ?_ | refine AWp.block ?_)
  refine AWp.loop (σ := fun u : {u : Nat × Int // u.1 ≤ tcs.length ∧ u.2 = Cs.stpL n (tcs.take u.1)} => ⟨37, [(3, .d (.int u.1.2)), (24, .d (.sl (tcs.map Cs.row))), (25, .d (.int (tcs.length : Int))), (26, .d (.int (u.1.1 : Int)))], []⟩)
    (μ := fun u => tcs.length - u.1.1) ⟨(0, n), ⟨Nat.zero_le _, by simp [Cs.stpL]⟩⟩ (Le.sub (by simp) (by simp)) (fun ⟨(i, m), ⟨hi10, hw2⟩⟩ => ?_)
  dsimp only at hi10 hw2 ⊢
  repeat (first | refine AWp.seq ?_ | refine AWp.block ?_)
  apply AWp.reg [] []
  · conv => lhs; simp [Tm.row, Tm.rows_eq, Cs.rows_eq, q1]
  · (repeat' apply And.intro) <;> first | omega | assumption | trivial | (intros; subst_vars; rfl) | (intro i r h; rcases i with _ | i <;> simp at h; subst h; rfl) | (simp [inI, maxLen]; done) | (simp [inI, maxLen]; omega)
  repeat (first | refine AWp.seq ?_ | refine AWp.block ?_)
  refine AWp.cond rfl (fun hc => ?_) (fun hc => ?_)
  · have hi1 : i < tcs.length := by have := of_decide_eq_true hc; omega
    clear hc
    have h1d : tcs[i]? = some tcs[i] := List.getElem?_eq_getElem hi1
    have hmd : tcs[i] ∈ tcs := List.getElem_mem hi1
    have hdd : tcs.drop i = tcs[i] :: tcs.drop (i + 1) := List.drop_eq_getElem_cons hi1
    generalize tcs[i] = d at h1d hmd hdd
    have hsz2 := Cs.szs_mem hmd
    have hsn : Cs.stpL n (tcs.take (i + 1)) = wr (m + d.stp) := by rw [List.take_add_one, h1d]; show Cs.stpL n (_ ++ [d]) = _; rw [Cs.stpL_snoc, ← hw2]
    obtain ⟨dt, dws, y⟩ := d
    have hx := ih y (by simp only [Cs.sz] at hsz2; omega) (hcO _ hmd).2.2
    rw [Cs.stp] at hsn
    generalize y.stp = s at hx hsn
    obtain ⟨yk, yn, ya, yb, yvs, yxs, ycs⟩ := y
    refine AWp.skip ?_
    repeat (first | refine AWp.seq ?_ | refine AWp.block ?_)
    apply AWp.reg [] []
    · conv => lhs; simp [Tm.row, Tm.rows_eq, Cs.rows_eq, h1d, Cs.row, q1]
    · (repeat' apply And.intro) <;> first | omega | assumption | trivial | (intros; subst_vars; rfl) | (intro i r h; rcases i with _ | i <;> simp at h; subst h; rfl) | (simp [inI, maxLen]; done) | (simp [inI, maxLen]; omega)
    repeat (first | refine AWp.seq ?_ | refine AWp.block ?_)
    apply AWp.reg [4] [.p (fun _ => .d (.int s)) none]
    · conv => lhs; simp [Tm.row, Tm.rows_eq, Cs.rows_eq, h1d, Cs.row, q1]
    · (repeat' apply And.intro) <;> first | omega | assumption | trivial | (intros; subst_vars; rfl) | (intro i r h; rcases i with _ | i <;> simp at h; subst h; rfl) | (simp [inI, maxLen]; done) | (simp [inI, maxLen]; omega)
    repeat (first | refine AWp.seq ?_ | refine AWp.block ?_)
    apply AWp.reg [] []
    · conv => lhs; simp [Tm.row, Tm.rows_eq, Cs.rows_eq, h1d, Cs.row, q1]
    · (repeat' apply And.intro) <;> first | omega | assumption | trivial | (intros; subst_vars; rfl) | (intro i r h; rcases i with _ | i <;> simp at h; subst h; rfl) | (simp [inI, maxLen]; done) | (simp [inI, maxLen]; omega)
    refine ⟨⟨(i + 1, wr (m + s)), hi1, hsn.symm⟩, by simp; omega, ?_⟩
    dsimp only
    exact Le.sub (by simp) (by simp)
  have hi1 : i = tcs.length := by have := of_decide_eq_false hc; omega
  subst hi1
  clear hc
  rw [List.take_length] at hw2
  rw [← hw2] at hR
  subst hR
  refine AWp.exit ?_
  repeat (first | refine AWp.seq ?_ | refine AWp.block ?_)
  apply AWp.reg [] []
  · conv => lhs; simp [Tm.row, Tm.rows_eq, Cs.rows_eq, q1]
  · (repeat' apply And.intro) <;> first | omega | assumption | trivial | (intros; subst_vars; rfl) | (intro i r h; rcases i with _ | i <;> simp at h; subst h; rfl) | (simp [inI, maxLen]; done) | (simp [inI, maxLen]; omega)
  refine AWp.ret ?_
  try dsimp only [thenQ, blockQ]
  apply endQ.ret
  · rfl
  · conv => lhs; simp [resAV, Tryd.results22]
  rfl

theorem RtN_all : ∀ N, RtN N
  | 0 => fun t h => by obtain ⟨tk, tn, ta, tb, tvs, txs, tcs⟩ := t; simp only [Tm.sz] at h; omega
  | N + 1 => RtN_step N (RtN_all N)
end Go.Proofs.YtialccgjbanmcaaDoor
