import Derived.Test.YtapiiklnnkkdlaaDoorPlainQ
import Derived.Test.YtapiiklnnkkdlaaDoorPlainA
import Derived.RangeFuncNested
import Derived.RangeFuncWrites
import Derived.RangeFuncBound
import Derived.RangeFuncCalls
import Derived.RangeFuncLeaves
import Derived.RangeFuncBox
import Derived.Shelf.Abstract
import Derived.WalkKit
import Derived.OwnWalkIn
import Derived.TacticsInMore
import Derived.LoopNIn
import Derived.LoopIn
import Derived.Test.YtapiiklnnkkdlaaDoorFreeD
/- plain.Is; xclaw5.is. Printed by a small program. -/
namespace Go.Proofs.YtapiiklnnkkdlaaDoor
open Go.RowKit
attribute [local simp] runD mkRc ldOf stOf stOk ldArg noAny dstOk guardOk opEff opEff0 effOp pureOp callOp zEff evA constAV scalAV Value.oneCell' frGet memGet startAS frOf isGoCall idIn AS.after nextR opnIds objIds AV.ids idsL AObj.ids frNo memNo opnAny isAny mkVal rdCells wrCells fldAddr idxAddr srcRows litRows toD1 toDs setAt sliceAV optI partAV bldAV fillAV binAV binI AV.cells callEff calleeOf frKill memKill AV.kill AObj.kill AV.has AV.hasL Op.operands Call.operands keepF keepM viewIds cChk renOf moGet moWs moQ cEff moLike moHave AV.ren renL AObj.ren AObj.like kept startC moMem AV.frz frz1 frzL frSub memSub frzs AS.frz frFrz memFrz AObj.frz takeMap takeLen bleF Nat.ble_eq memAny objAny mapOp D.keyOk rowAV valRow extOp wrapOp phO
set_option linter.unusedVariables false
set_option linter.unusedSimpArgs false
def IsN (N : Nat) : Prop := ∀ t : Tm, t.Rt N → PSpec Tryd.prog 65 [tmAV t] (fun _ => .d (.bool t.isP)) none
set_option maxRecDepth 20000 in
set_option maxHeartbeats 16000000 in
theorem isP_step (N : Nat) (ih : IsN N) : IsN (N + 1) := by
  intro t hRt
  obtain ⟨R, hR⟩ : ∃ R, R = t.isP := ⟨_, rfl⟩
  rw [← hR]
  obtain ⟨tk, tn, ta, tb, tvs, txs, tcs⟩ := t
  obtain ⟨hkk, hmany, h6, hxR, hcR⟩ := hRt
  refine PSpec.of Tryd.func65 rfl rfl rfl (Nat.le_of_ble_eq_true rfl) ?_
  show AWp _ _ (endQ _ Tryd.f65 _ _ _) (startAS 52 _)
  refine AWp.rg [] [] ?_ (hr := by conv => lhs; simp [Tm.row, Tm.rows_eq, Cs.rows_eq])
  refine AWp.rg [] [] ?_ (hr := by conv => lhs; simp [Tm.row, Tm.rows_eq, Cs.rows_eq])
  by_cases q1 : tk = 3
  · refine AWp.rg [] [] ?_ (hr := by conv => lhs; simp [Tm.row, Tm.rows_eq, Cs.rows_eq, q1])
    refine AWp.cy ?_
    refine AWp.skip ?_
    refine AWp.cy ?_
    refine AWp.rg [] [] ?_ (hr := by conv => lhs; simp [Tm.row, Tm.rows_eq, Cs.rows_eq, q1])
    repeat (first | refine AWp.seq ?_ | refine AWp.block ?_)
    refine AWp.loop (σ := fun u : {u : Nat // u ≤ txs.length ∧ Tm.isL tk txs = Tm.isL tk (txs.drop u)} => ⟨52, [(1, .ptr 1 0), (17, .d (.sl (txs.map Tm.row))), (18, .d (.int (txs.length : Int))), (19, .d (.int (u.1 : Int)))], [(1, some (.blk 34 [.d (.int 3), .d (.int tn), .d (.str ta), .d (.str tb), .d (strsD tvs), .d (.sl (txs.map Tm.row)), .d (.sl (tcs.map Cs.row))]))]⟩)
      (μ := fun u => txs.length - u.1) ⟨0, ⟨Nat.zero_le _, by simp⟩⟩ (Le.sub (by simp) (by simp)) (fun ⟨i, ⟨hi7, hw⟩⟩ => ?_)
    dsimp only
    refine AWp.rg [] [] ?_ (hr := by conv => lhs; simp [Tm.row, Tm.rows_eq, Cs.rows_eq, q1])
    repeat (first | refine AWp.seq ?_ | refine AWp.block ?_)
    refine AWp.cond rfl (fun hc => ?_) (fun hc => ?_)
    · have hi1 : i < txs.length := by have := of_decide_eq_true hc; omega
      clear hc
      have h1y : txs[i]? = some txs[i] := List.getElem?_eq_getElem hi1
      have hmy : txs[i] ∈ txs := List.getElem_mem hi1
      have hdy : txs.drop i = txs[i] :: txs.drop (i + 1) := List.drop_eq_getElem_cons hi1
      generalize txs[i] = y at h1y hmy hdy
      rw [hdy, Tm.isL] at hw
      obtain ⟨yk, yn, ya, yb, yvs, yxs, ycs⟩ := y
      rw [Tm.tk] at hw
      refine AWp.skip ?_
      refine AWp.rg [] [] ?_ (hr := by conv => lhs; simp [Tm.row, Tm.rows_eq, Cs.rows_eq, h1y, q1])
      by_cases q2 : yk = 1
      · refine AWp.rg [] [] ?_ (hr := by conv => lhs; simp [Tm.row, Tm.rows_eq, Cs.rows_eq, h1y, q1, q2])
        refine AWp.cn ?_
        refine AWp.skip ?_
        refine AWp.rg [] [] ?_ (hr := by conv => lhs; simp [Tm.row, Tm.rows_eq, Cs.rows_eq, h1y, q1, q2])
        refine ⟨⟨i + 1, hi1, by rw [hw, if_neg (by omega), q2]; simp⟩, by simp; omega, ?_⟩
        dsimp only
        exact Le.sub (by simp) (by simp)
      refine AWp.rg [] [] ?_ (hr := by conv => lhs; simp [Tm.row, Tm.rows_eq, Cs.rows_eq, h1y, q1, q2])
      refine AWp.cy ?_
      obtain rfl : R = false := by rw [hR, Tm.isP, hw, if_neg (by omega), decide_eq_false q2]; rfl
      refine AWp.rg [] [] ?_ (hr := by conv => lhs; simp [Tm.row, Tm.rows_eq, Cs.rows_eq, h1y, q1, q2])
      refine AWp.ret ?_
      try dsimp only [thenQ, blockQ]
      apply endQ.ret
      · rfl
      · conv => lhs; simp [resAV, Tryd.results65]
      rfl
    have hi1 : i = txs.length := by have := of_decide_eq_false hc; omega
    subst hi1
    clear hc
    rw [List.drop_length, Tm.isL] at hw
    have hA := hw
    refine AWp.exit ?_
    refine AWp.rg [] [] ?_ (hr := by conv => lhs; simp [Tm.row, Tm.rows_eq, Cs.rows_eq, q1])
    repeat (first | refine AWp.seq ?_ | refine AWp.block ?_)
    refine AWp.loop (σ := fun u : {u : Nat // u ≤ tcs.length ∧ Cs.isL tcs = Cs.isL (tcs.drop u)} => ⟨52, [(41, .d (.sl (tcs.map Cs.row))), (42, .d (.int (tcs.length : Int))), (43, .d (.int (u.1 : Int)))], []⟩)
      (μ := fun u => tcs.length - u.1) ⟨0, ⟨Nat.zero_le _, by simp⟩⟩ (Le.sub (by simp) (by simp)) (fun ⟨i, ⟨hi20, hw2⟩⟩ => ?_)
    dsimp only
    refine AWp.rg [] [] ?_ (hr := by conv => lhs; simp [Tm.row, Tm.rows_eq, Cs.rows_eq, q1])
    repeat (first | refine AWp.seq ?_ | refine AWp.block ?_)
    refine AWp.cond rfl (fun hc => ?_) (fun hc => ?_)
    · have hi1 : i < tcs.length := by have := of_decide_eq_true hc; omega
      clear hc
      have h1d : tcs[i]? = some tcs[i] := List.getElem?_eq_getElem hi1
      have hmd : tcs[i] ∈ tcs := List.getElem_mem hi1
      have hdd : tcs.drop i = tcs[i] :: tcs.drop (i + 1) := List.drop_eq_getElem_cons hi1
      generalize tcs[i] = d at h1d hmd hdd
      rw [hdd, Cs.isL] at hw2
      have hyR := (hcR d hmd).2
      obtain ⟨dt, dws, y⟩ := d
      rw [Cs.isP] at hw2
      have hx := ih y hyR
      generalize y.isP = q at hx hw2
      obtain ⟨dk, dn, da, db, dvs, dxs, dcs⟩ := y
      refine AWp.skip ?_
      refine AWp.rg [] [] ?_ (hr := by conv => lhs; simp [Tm.row, Tm.rows_eq, Cs.rows_eq, h1d, Cs.row, q1])
      cases q with
      | true =>
        refine AWp.rg [] [.p (fun _ => .d (.bool true)) none] ?_ (hr := by conv => lhs; simp [Tm.row, Tm.rows_eq, Cs.rows_eq, h1d, Cs.row, q1])
        refine AWp.cn ?_
        refine AWp.skip ?_
        refine AWp.rg [] [] ?_ (hr := by conv => lhs; simp [Tm.row, Tm.rows_eq, Cs.rows_eq, h1d, Cs.row, q1])
        refine ⟨⟨i + 1, hi1, by rw [hw2]; rfl⟩, by simp; omega, ?_⟩
        dsimp only
        exact Le.sub (by simp) (by simp)
      | false =>
        refine AWp.rg [] [.p (fun _ => .d (.bool false)) none] ?_ (hr := by conv => lhs; simp [Tm.row, Tm.rows_eq, Cs.rows_eq, h1d, Cs.row, q1])
        refine AWp.cy ?_
        obtain rfl : R = false := by rw [hR, Tm.isP, hw2, Bool.false_and, Bool.and_false]
        refine AWp.rg [] [] ?_ (hr := by conv => lhs; simp [Tm.row, Tm.rows_eq, Cs.rows_eq, h1d, Cs.row, q1])
        refine AWp.ret ?_
        try dsimp only [thenQ, blockQ]
        apply endQ.ret
        · rfl
        · conv => lhs; simp [resAV, Tryd.results65]
        rfl
    have hi1 : i = tcs.length := by have := of_decide_eq_false hc; omega
    subst hi1
    clear hc
    rw [List.drop_length, Cs.isL] at hw2
    obtain rfl : R = true := by rw [hR, Tm.isP, hA, hw2]; rfl
    refine AWp.exit ?_
    refine AWp.rg [] [] ?_ (hr := by conv => lhs; simp [Tm.row, Tm.rows_eq, Cs.rows_eq, q1])
    refine AWp.ret ?_
    try dsimp only [thenQ, blockQ]
    apply endQ.ret
    · rfl
    · conv => lhs; simp [resAV, Tryd.results65]
    rfl
  refine AWp.rg [] [] ?_ (hr := by conv => lhs; simp [Tm.row, Tm.rows_eq, Cs.rows_eq, q1])
  refine AWp.cn ?_
  by_cases q3 : tk = 4
  · refine AWp.rg [] [] ?_ (hr := by conv => lhs; simp [Tm.row, Tm.rows_eq, Cs.rows_eq, q1, q3])
    refine AWp.cy ?_
    refine AWp.skip ?_
    refine AWp.cy ?_
    refine AWp.rg [] [] ?_ (hr := by conv => lhs; simp [Tm.row, Tm.rows_eq, Cs.rows_eq, q1, q3])
    repeat (first | refine AWp.seq ?_ | refine AWp.block ?_)
    refine AWp.loop (σ := fun u : {u : Nat // u ≤ txs.length ∧ Tm.isL tk txs = Tm.isL tk (txs.drop u)} => ⟨52, [(1, .ptr 1 0), (17, .d (.sl (txs.map Tm.row))), (18, .d (.int (txs.length : Int))), (19, .d (.int (u.1 : Int)))], [(1, some (.blk 34 [.d (.int 4), .d (.int tn), .d (.str ta), .d (.str tb), .d (strsD tvs), .d (.sl (txs.map Tm.row)), .d (.sl (tcs.map Cs.row))]))]⟩)
      (μ := fun u => txs.length - u.1) ⟨0, ⟨Nat.zero_le _, by simp⟩⟩ (Le.sub (by simp) (by simp)) (fun ⟨i, ⟨hi7, hw⟩⟩ => ?_)
    dsimp only
    refine AWp.rg [] [] ?_ (hr := by conv => lhs; simp [Tm.row, Tm.rows_eq, Cs.rows_eq, q1, q3])
    repeat (first | refine AWp.seq ?_ | refine AWp.block ?_)
    refine AWp.cond rfl (fun hc => ?_) (fun hc => ?_)
    · have hi1 : i < txs.length := by have := of_decide_eq_true hc; omega
      clear hc
      have h1y : txs[i]? = some txs[i] := List.getElem?_eq_getElem hi1
      have hmy : txs[i] ∈ txs := List.getElem_mem hi1
      have hdy : txs.drop i = txs[i] :: txs.drop (i + 1) := List.drop_eq_getElem_cons hi1
      generalize txs[i] = y at h1y hmy hdy
      rw [hdy, Tm.isL] at hw
      obtain ⟨yk, yn, ya, yb, yvs, yxs, ycs⟩ := y
      rw [Tm.tk] at hw
      refine AWp.skip ?_
      refine AWp.rg [] [] ?_ (hr := by conv => lhs; simp [Tm.row, Tm.rows_eq, Cs.rows_eq, h1y, q1, q3])
      by_cases q4 : yk = 1
      · refine AWp.rg [] [] ?_ (hr := by conv => lhs; simp [Tm.row, Tm.rows_eq, Cs.rows_eq, h1y, q1, q3, q4])
        refine AWp.cn ?_
        refine AWp.skip ?_
        refine AWp.rg [] [] ?_ (hr := by conv => lhs; simp [Tm.row, Tm.rows_eq, Cs.rows_eq, h1y, q1, q3, q4])
        refine ⟨⟨i + 1, hi1, by rw [hw, if_neg (by omega), q4]; simp⟩, by simp; omega, ?_⟩
        dsimp only
        exact Le.sub (by simp) (by simp)
      refine AWp.rg [] [] ?_ (hr := by conv => lhs; simp [Tm.row, Tm.rows_eq, Cs.rows_eq, h1y, q1, q3, q4])
      refine AWp.cy ?_
      obtain rfl : R = false := by rw [hR, Tm.isP, hw, if_neg (by omega), decide_eq_false q4]; rfl
      refine AWp.rg [] [] ?_ (hr := by conv => lhs; simp [Tm.row, Tm.rows_eq, Cs.rows_eq, h1y, q1, q3, q4])
      refine AWp.ret ?_
      try dsimp only [thenQ, blockQ]
      apply endQ.ret
      · rfl
      · conv => lhs; simp [resAV, Tryd.results65]
      rfl
    have hi1 : i = txs.length := by have := of_decide_eq_false hc; omega
    subst hi1
    clear hc
    rw [List.drop_length, Tm.isL] at hw
    have hA := hw
    refine AWp.exit ?_
    refine AWp.rg [] [] ?_ (hr := by conv => lhs; simp [Tm.row, Tm.rows_eq, Cs.rows_eq, q1, q3])
    repeat (first | refine AWp.seq ?_ | refine AWp.block ?_)
    refine AWp.loop (σ := fun u : {u : Nat // u ≤ tcs.length ∧ Cs.isL tcs = Cs.isL (tcs.drop u)} => ⟨52, [(41, .d (.sl (tcs.map Cs.row))), (42, .d (.int (tcs.length : Int))), (43, .d (.int (u.1 : Int)))], []⟩)
      (μ := fun u => tcs.length - u.1) ⟨0, ⟨Nat.zero_le _, by simp⟩⟩ (Le.sub (by simp) (by simp)) (fun ⟨i, ⟨hi20, hw2⟩⟩ => ?_)
    dsimp only
    refine AWp.rg [] [] ?_ (hr := by conv => lhs; simp [Tm.row, Tm.rows_eq, Cs.rows_eq, q1, q3])
    repeat (first | refine AWp.seq ?_ | refine AWp.block ?_)
    refine AWp.cond rfl (fun hc => ?_) (fun hc => ?_)
    · have hi1 : i < tcs.length := by have := of_decide_eq_true hc; omega
      clear hc
      have h1d : tcs[i]? = some tcs[i] := List.getElem?_eq_getElem hi1
      have hmd : tcs[i] ∈ tcs := List.getElem_mem hi1
      have hdd : tcs.drop i = tcs[i] :: tcs.drop (i + 1) := List.drop_eq_getElem_cons hi1
      generalize tcs[i] = d at h1d hmd hdd
      rw [hdd, Cs.isL] at hw2
      have hyR := (hcR d hmd).2
      obtain ⟨dt, dws, y⟩ := d
      rw [Cs.isP] at hw2
      have hx := ih y hyR
      generalize y.isP = q at hx hw2
      obtain ⟨dk, dn, da, db, dvs, dxs, dcs⟩ := y
      refine AWp.skip ?_
      refine AWp.rg [] [] ?_ (hr := by conv => lhs; simp [Tm.row, Tm.rows_eq, Cs.rows_eq, h1d, Cs.row, q1, q3])
      cases q with
      | true =>
        refine AWp.rg [] [.p (fun _ => .d (.bool true)) none] ?_ (hr := by conv => lhs; simp [Tm.row, Tm.rows_eq, Cs.rows_eq, h1d, Cs.row, q1, q3])
        refine AWp.cn ?_
        refine AWp.skip ?_
        refine AWp.rg [] [] ?_ (hr := by conv => lhs; simp [Tm.row, Tm.rows_eq, Cs.rows_eq, h1d, Cs.row, q1, q3])
        refine ⟨⟨i + 1, hi1, by rw [hw2]; rfl⟩, by simp; omega, ?_⟩
        dsimp only
        exact Le.sub (by simp) (by simp)
      | false =>
        refine AWp.rg [] [.p (fun _ => .d (.bool false)) none] ?_ (hr := by conv => lhs; simp [Tm.row, Tm.rows_eq, Cs.rows_eq, h1d, Cs.row, q1, q3])
        refine AWp.cy ?_
        obtain rfl : R = false := by rw [hR, Tm.isP, hw2, Bool.false_and, Bool.and_false]
        refine AWp.rg [] [] ?_ (hr := by conv => lhs; simp [Tm.row, Tm.rows_eq, Cs.rows_eq, h1d, Cs.row, q1, q3])
        refine AWp.ret ?_
        try dsimp only [thenQ, blockQ]
        apply endQ.ret
        · rfl
        · conv => lhs; simp [resAV, Tryd.results65]
        rfl
    have hi1 : i = tcs.length := by have := of_decide_eq_false hc; omega
    subst hi1
    clear hc
    rw [List.drop_length, Cs.isL] at hw2
    obtain rfl : R = true := by rw [hR, Tm.isP, hA, hw2]; rfl
    refine AWp.exit ?_
    refine AWp.rg [] [] ?_ (hr := by conv => lhs; simp [Tm.row, Tm.rows_eq, Cs.rows_eq, q1, q3])
    refine AWp.ret ?_
    try dsimp only [thenQ, blockQ]
    apply endQ.ret
    · rfl
    · conv => lhs; simp [resAV, Tryd.results65]
    rfl
  refine AWp.rg [] [] ?_ (hr := by conv => lhs; simp [Tm.row, Tm.rows_eq, Cs.rows_eq, q1, q3])
  refine AWp.cn ?_
  by_cases q5 : tk = 5
  · refine AWp.rg [] [] ?_ (hr := by conv => lhs; simp [Tm.row, Tm.rows_eq, Cs.rows_eq, q1, q3, q5])
    refine AWp.cy ?_
    refine AWp.skip ?_
    refine AWp.cy ?_
    refine AWp.rg [] [] ?_ (hr := by conv => lhs; simp [Tm.row, Tm.rows_eq, Cs.rows_eq, q1, q3, q5])
    repeat (first | refine AWp.seq ?_ | refine AWp.block ?_)
    refine AWp.loop (σ := fun u : {u : Nat // u ≤ txs.length ∧ Tm.isL tk txs = Tm.isL tk (txs.drop u)} => ⟨52, [(1, .ptr 1 0), (17, .d (.sl (txs.map Tm.row))), (18, .d (.int (txs.length : Int))), (19, .d (.int (u.1 : Int)))], [(1, some (.blk 34 [.d (.int 5), .d (.int tn), .d (.str ta), .d (.str tb), .d (strsD tvs), .d (.sl (txs.map Tm.row)), .d (.sl (tcs.map Cs.row))]))]⟩)
      (μ := fun u => txs.length - u.1) ⟨0, ⟨Nat.zero_le _, by simp⟩⟩ (Le.sub (by simp) (by simp)) (fun ⟨i, ⟨hi7, hw⟩⟩ => ?_)
    dsimp only
    refine AWp.rg [] [] ?_ (hr := by conv => lhs; simp [Tm.row, Tm.rows_eq, Cs.rows_eq, q1, q3, q5])
    repeat (first | refine AWp.seq ?_ | refine AWp.block ?_)
    refine AWp.cond rfl (fun hc => ?_) (fun hc => ?_)
    · have hi1 : i < txs.length := by have := of_decide_eq_true hc; omega
      clear hc
      have h1y : txs[i]? = some txs[i] := List.getElem?_eq_getElem hi1
      have hmy : txs[i] ∈ txs := List.getElem_mem hi1
      have hdy : txs.drop i = txs[i] :: txs.drop (i + 1) := List.drop_eq_getElem_cons hi1
      generalize txs[i] = y at h1y hmy hdy
      rw [hdy, Tm.isL] at hw
      obtain ⟨yk, yn, ya, yb, yvs, yxs, ycs⟩ := y
      rw [Tm.tk] at hw
      refine AWp.skip ?_
      refine AWp.rg [] [] ?_ (hr := by conv => lhs; simp [Tm.row, Tm.rows_eq, Cs.rows_eq, h1y, q1, q3, q5])
      by_cases q6 : yk = 1
      · refine AWp.rg [] [] ?_ (hr := by conv => lhs; simp [Tm.row, Tm.rows_eq, Cs.rows_eq, h1y, q1, q3, q5, q6])
        refine AWp.cn ?_
        refine AWp.skip ?_
        refine AWp.rg [] [] ?_ (hr := by conv => lhs; simp [Tm.row, Tm.rows_eq, Cs.rows_eq, h1y, q1, q3, q5, q6])
        refine ⟨⟨i + 1, hi1, by rw [hw, if_neg (by omega), q6]; simp⟩, by simp; omega, ?_⟩
        dsimp only
        exact Le.sub (by simp) (by simp)
      refine AWp.rg [] [] ?_ (hr := by conv => lhs; simp [Tm.row, Tm.rows_eq, Cs.rows_eq, h1y, q1, q3, q5, q6])
      refine AWp.cy ?_
      obtain rfl : R = false := by rw [hR, Tm.isP, hw, if_neg (by omega), decide_eq_false q6]; rfl
      refine AWp.rg [] [] ?_ (hr := by conv => lhs; simp [Tm.row, Tm.rows_eq, Cs.rows_eq, h1y, q1, q3, q5, q6])
      refine AWp.ret ?_
      try dsimp only [thenQ, blockQ]
      apply endQ.ret
      · rfl
      · conv => lhs; simp [resAV, Tryd.results65]
      rfl
    have hi1 : i = txs.length := by have := of_decide_eq_false hc; omega
    subst hi1
    clear hc
    rw [List.drop_length, Tm.isL] at hw
    have hA := hw
    refine AWp.exit ?_
    refine AWp.rg [] [] ?_ (hr := by conv => lhs; simp [Tm.row, Tm.rows_eq, Cs.rows_eq, q1, q3, q5])
    repeat (first | refine AWp.seq ?_ | refine AWp.block ?_)
    refine AWp.loop (σ := fun u : {u : Nat // u ≤ tcs.length ∧ Cs.isL tcs = Cs.isL (tcs.drop u)} => ⟨52, [(41, .d (.sl (tcs.map Cs.row))), (42, .d (.int (tcs.length : Int))), (43, .d (.int (u.1 : Int)))], []⟩)
      (μ := fun u => tcs.length - u.1) ⟨0, ⟨Nat.zero_le _, by simp⟩⟩ (Le.sub (by simp) (by simp)) (fun ⟨i, ⟨hi20, hw2⟩⟩ => ?_)
    dsimp only
    refine AWp.rg [] [] ?_ (hr := by conv => lhs; simp [Tm.row, Tm.rows_eq, Cs.rows_eq, q1, q3, q5])
    repeat (first | refine AWp.seq ?_ | refine AWp.block ?_)
    refine AWp.cond rfl (fun hc => ?_) (fun hc => ?_)
    · have hi1 : i < tcs.length := by have := of_decide_eq_true hc; omega
      clear hc
      have h1d : tcs[i]? = some tcs[i] := List.getElem?_eq_getElem hi1
      have hmd : tcs[i] ∈ tcs := List.getElem_mem hi1
      have hdd : tcs.drop i = tcs[i] :: tcs.drop (i + 1) := List.drop_eq_getElem_cons hi1
      generalize tcs[i] = d at h1d hmd hdd
      rw [hdd, Cs.isL] at hw2
      have hyR := (hcR d hmd).2
      obtain ⟨dt, dws, y⟩ := d
      rw [Cs.isP] at hw2
      have hx := ih y hyR
      generalize y.isP = q at hx hw2
      obtain ⟨dk, dn, da, db, dvs, dxs, dcs⟩ := y
      refine AWp.skip ?_
      refine AWp.rg [] [] ?_ (hr := by conv => lhs; simp [Tm.row, Tm.rows_eq, Cs.rows_eq, h1d, Cs.row, q1, q3, q5])
      cases q with
      | true =>
        refine AWp.rg [] [.p (fun _ => .d (.bool true)) none] ?_ (hr := by conv => lhs; simp [Tm.row, Tm.rows_eq, Cs.rows_eq, h1d, Cs.row, q1, q3, q5])
        refine AWp.cn ?_
        refine AWp.skip ?_
        refine AWp.rg [] [] ?_ (hr := by conv => lhs; simp [Tm.row, Tm.rows_eq, Cs.rows_eq, h1d, Cs.row, q1, q3, q5])
        refine ⟨⟨i + 1, hi1, by rw [hw2]; rfl⟩, by simp; omega, ?_⟩
        dsimp only
        exact Le.sub (by simp) (by simp)
      | false =>
        refine AWp.rg [] [.p (fun _ => .d (.bool false)) none] ?_ (hr := by conv => lhs; simp [Tm.row, Tm.rows_eq, Cs.rows_eq, h1d, Cs.row, q1, q3, q5])
        refine AWp.cy ?_
        obtain rfl : R = false := by rw [hR, Tm.isP, hw2, Bool.false_and, Bool.and_false]
        refine AWp.rg [] [] ?_ (hr := by conv => lhs; simp [Tm.row, Tm.rows_eq, Cs.rows_eq, h1d, Cs.row, q1, q3, q5])
        refine AWp.ret ?_
        try dsimp only [thenQ, blockQ]
        apply endQ.ret
        · rfl
        · conv => lhs; simp [resAV, Tryd.results65]
        rfl
    have hi1 : i = tcs.length := by have := of_decide_eq_false hc; omega
    subst hi1
    clear hc
    rw [List.drop_length, Cs.isL] at hw2
    obtain rfl : R = true := by rw [hR, Tm.isP, hA, hw2]; rfl
    refine AWp.exit ?_
    refine AWp.rg [] [] ?_ (hr := by conv => lhs; simp [Tm.row, Tm.rows_eq, Cs.rows_eq, q1, q3, q5])
    refine AWp.ret ?_
    try dsimp only [thenQ, blockQ]
    apply endQ.ret
    · rfl
    · conv => lhs; simp [resAV, Tryd.results65]
    rfl
  refine AWp.rg [] [] ?_ (hr := by conv => lhs; simp [Tm.row, Tm.rows_eq, Cs.rows_eq, q1, q3, q5])
  refine AWp.cn ?_
  by_cases q7 : tk = 7
  · refine AWp.rg [] [] ?_ (hr := by conv => lhs; simp [Tm.row, Tm.rows_eq, Cs.rows_eq, q1, q3, q5, q7])
    refine AWp.cy ?_
    refine AWp.rg [] [] ?_ (hr := by conv => lhs; simp [Tm.row, Tm.rows_eq, Cs.rows_eq, q1, q3, q5, q7])
    repeat (first | refine AWp.seq ?_ | refine AWp.block ?_)
    refine AWp.loop (σ := fun u : {u : Nat // u ≤ txs.length ∧ Tm.isL tk txs = Tm.isL tk (txs.drop u)} => ⟨52, [(1, .ptr 1 0), (17, .d (.sl (txs.map Tm.row))), (18, .d (.int (txs.length : Int))), (19, .d (.int (u.1 : Int)))], [(1, some (.blk 34 [.d (.int 7), .d (.int tn), .d (.str ta), .d (.str tb), .d (strsD tvs), .d (.sl (txs.map Tm.row)), .d (.sl (tcs.map Cs.row))]))]⟩)
      (μ := fun u => txs.length - u.1) ⟨0, ⟨Nat.zero_le _, by simp⟩⟩ (Le.sub (by simp) (by simp)) (fun ⟨i, ⟨hi7, hw⟩⟩ => ?_)
    dsimp only
    refine AWp.rg [] [] ?_ (hr := by conv => lhs; simp [Tm.row, Tm.rows_eq, Cs.rows_eq, q1, q3, q5, q7])
    repeat (first | refine AWp.seq ?_ | refine AWp.block ?_)
    refine AWp.cond rfl (fun hc => ?_) (fun hc => ?_)
    · have hi1 : i < txs.length := by have := of_decide_eq_true hc; omega
      clear hc
      have h1y : txs[i]? = some txs[i] := List.getElem?_eq_getElem hi1
      have hmy : txs[i] ∈ txs := List.getElem_mem hi1
      have hdy : txs.drop i = txs[i] :: txs.drop (i + 1) := List.drop_eq_getElem_cons hi1
      generalize txs[i] = y at h1y hmy hdy
      rw [hdy, Tm.isL] at hw
      obtain ⟨yk, yn, ya, yb, yvs, yxs, ycs⟩ := y
      rw [Tm.tk] at hw
      refine AWp.skip ?_
      refine AWp.rg [] [] ?_ (hr := by conv => lhs; simp [Tm.row, Tm.rows_eq, Cs.rows_eq, h1y, q1, q3, q5, q7])
      by_cases q8 : yk = 1
      · refine AWp.rg [] [] ?_ (hr := by conv => lhs; simp [Tm.row, Tm.rows_eq, Cs.rows_eq, h1y, q1, q3, q5, q7, q8])
        refine AWp.cn ?_
        refine AWp.skip ?_
        refine AWp.rg [] [] ?_ (hr := by conv => lhs; simp [Tm.row, Tm.rows_eq, Cs.rows_eq, h1y, q1, q3, q5, q7, q8])
        refine ⟨⟨i + 1, hi1, by rw [hw, if_neg (by omega), q8]; simp⟩, by simp; omega, ?_⟩
        dsimp only
        exact Le.sub (by simp) (by simp)
      refine AWp.rg [] [] ?_ (hr := by conv => lhs; simp [Tm.row, Tm.rows_eq, Cs.rows_eq, h1y, q1, q3, q5, q7, q8])
      refine AWp.cy ?_
      obtain rfl : R = false := by rw [hR, Tm.isP, hw, if_neg (by omega), decide_eq_false q8]; rfl
      refine AWp.rg [] [] ?_ (hr := by conv => lhs; simp [Tm.row, Tm.rows_eq, Cs.rows_eq, h1y, q1, q3, q5, q7, q8])
      refine AWp.ret ?_
      try dsimp only [thenQ, blockQ]
      apply endQ.ret
      · rfl
      · conv => lhs; simp [resAV, Tryd.results65]
      rfl
    have hi1 : i = txs.length := by have := of_decide_eq_false hc; omega
    subst hi1
    clear hc
    rw [List.drop_length, Tm.isL] at hw
    have hA := hw
    refine AWp.exit ?_
    refine AWp.rg [] [] ?_ (hr := by conv => lhs; simp [Tm.row, Tm.rows_eq, Cs.rows_eq, q1, q3, q5, q7])
    repeat (first | refine AWp.seq ?_ | refine AWp.block ?_)
    refine AWp.loop (σ := fun u : {u : Nat // u ≤ tcs.length ∧ Cs.isL tcs = Cs.isL (tcs.drop u)} => ⟨52, [(41, .d (.sl (tcs.map Cs.row))), (42, .d (.int (tcs.length : Int))), (43, .d (.int (u.1 : Int)))], []⟩)
      (μ := fun u => tcs.length - u.1) ⟨0, ⟨Nat.zero_le _, by simp⟩⟩ (Le.sub (by simp) (by simp)) (fun ⟨i, ⟨hi20, hw2⟩⟩ => ?_)
    dsimp only
    refine AWp.rg [] [] ?_ (hr := by conv => lhs; simp [Tm.row, Tm.rows_eq, Cs.rows_eq, q1, q3, q5, q7])
    repeat (first | refine AWp.seq ?_ | refine AWp.block ?_)
    refine AWp.cond rfl (fun hc => ?_) (fun hc => ?_)
    · have hi1 : i < tcs.length := by have := of_decide_eq_true hc; omega
      clear hc
      have h1d : tcs[i]? = some tcs[i] := List.getElem?_eq_getElem hi1
      have hmd : tcs[i] ∈ tcs := List.getElem_mem hi1
      have hdd : tcs.drop i = tcs[i] :: tcs.drop (i + 1) := List.drop_eq_getElem_cons hi1
      generalize tcs[i] = d at h1d hmd hdd
      rw [hdd, Cs.isL] at hw2
      have hyR := (hcR d hmd).2
      obtain ⟨dt, dws, y⟩ := d
      rw [Cs.isP] at hw2
      have hx := ih y hyR
      generalize y.isP = q at hx hw2
      obtain ⟨dk, dn, da, db, dvs, dxs, dcs⟩ := y
      refine AWp.skip ?_
      refine AWp.rg [] [] ?_ (hr := by conv => lhs; simp [Tm.row, Tm.rows_eq, Cs.rows_eq, h1d, Cs.row, q1, q3, q5, q7])
      cases q with
      | true =>
        refine AWp.rg [] [.p (fun _ => .d (.bool true)) none] ?_ (hr := by conv => lhs; simp [Tm.row, Tm.rows_eq, Cs.rows_eq, h1d, Cs.row, q1, q3, q5, q7])
        refine AWp.cn ?_
        refine AWp.skip ?_
        refine AWp.rg [] [] ?_ (hr := by conv => lhs; simp [Tm.row, Tm.rows_eq, Cs.rows_eq, h1d, Cs.row, q1, q3, q5, q7])
        refine ⟨⟨i + 1, hi1, by rw [hw2]; rfl⟩, by simp; omega, ?_⟩
        dsimp only
        exact Le.sub (by simp) (by simp)
      | false =>
        refine AWp.rg [] [.p (fun _ => .d (.bool false)) none] ?_ (hr := by conv => lhs; simp [Tm.row, Tm.rows_eq, Cs.rows_eq, h1d, Cs.row, q1, q3, q5, q7])
        refine AWp.cy ?_
        obtain rfl : R = false := by rw [hR, Tm.isP, hw2, Bool.false_and, Bool.and_false]
        refine AWp.rg [] [] ?_ (hr := by conv => lhs; simp [Tm.row, Tm.rows_eq, Cs.rows_eq, h1d, Cs.row, q1, q3, q5, q7])
        refine AWp.ret ?_
        try dsimp only [thenQ, blockQ]
        apply endQ.ret
        · rfl
        · conv => lhs; simp [resAV, Tryd.results65]
        rfl
    have hi1 : i = tcs.length := by have := of_decide_eq_false hc; omega
    subst hi1
    clear hc
    rw [List.drop_length, Cs.isL] at hw2
    obtain rfl : R = true := by rw [hR, Tm.isP, hA, hw2]; rfl
    refine AWp.exit ?_
    refine AWp.rg [] [] ?_ (hr := by conv => lhs; simp [Tm.row, Tm.rows_eq, Cs.rows_eq, q1, q3, q5, q7])
    refine AWp.ret ?_
    try dsimp only [thenQ, blockQ]
    apply endQ.ret
    · rfl
    · conv => lhs; simp [resAV, Tryd.results65]
    rfl
  refine AWp.rg [] [] ?_ (hr := by conv => lhs; simp [Tm.row, Tm.rows_eq, Cs.rows_eq, q1, q3, q5, q7])
  refine AWp.cn ?_
  by_cases q9 : tk = 6
  · refine AWp.rg [] [] ?_ (hr := by conv => lhs; simp [Tm.row, Tm.rows_eq, Cs.rows_eq, q1, q3, q5, q7, q9])
    refine AWp.cy ?_
    refine AWp.rg [] [] ?_ (hr := by conv => lhs; simp [Tm.row, Tm.rows_eq, Cs.rows_eq, q1, q3, q5, q7, q9])
    repeat (first | refine AWp.seq ?_ | refine AWp.block ?_)
    refine AWp.loop (σ := fun u : {u : Nat // u ≤ txs.length ∧ Tm.isL tk txs = Tm.isL tk (txs.drop u)} => ⟨52, [(1, .ptr 1 0), (30, .d (.sl (txs.map Tm.row))), (31, .d (.int (txs.length : Int))), (32, .d (.int (u.1 : Int)))], [(1, some (.blk 34 [.d (.int 6), .d (.int tn), .d (.str ta), .d (.str tb), .d (strsD tvs), .d (.sl (txs.map Tm.row)), .d (.sl (tcs.map Cs.row))]))]⟩)
      (μ := fun u => txs.length - u.1) ⟨0, ⟨Nat.zero_le _, by simp⟩⟩ (Le.sub (by simp) (by simp)) (fun ⟨i, ⟨hi14, hw⟩⟩ => ?_)
    dsimp only
    refine AWp.rg [] [] ?_ (hr := by conv => lhs; simp [Tm.row, Tm.rows_eq, Cs.rows_eq, q1, q3, q5, q7, q9])
    repeat (first | refine AWp.seq ?_ | refine AWp.block ?_)
    refine AWp.cond rfl (fun hc => ?_) (fun hc => ?_)
    · have hi1 : i < txs.length := by have := of_decide_eq_true hc; omega
      clear hc
      have h1y : txs[i]? = some txs[i] := List.getElem?_eq_getElem hi1
      have hmy : txs[i] ∈ txs := List.getElem_mem hi1
      have hdy : txs.drop i = txs[i] :: txs.drop (i + 1) := List.drop_eq_getElem_cons hi1
      generalize txs[i] = y at h1y hmy hdy
      rw [hdy, Tm.isL] at hw
      have hx := ih y (hxR y hmy)
      generalize y.isP = q at hx hw
      obtain ⟨yk, yn, ya, yb, yvs, yxs, ycs⟩ := y
      refine AWp.skip ?_
      refine AWp.rg [] [] ?_ (hr := by conv => lhs; simp [Tm.row, Tm.rows_eq, Cs.rows_eq, h1y, q1, q3, q5, q7, q9])
      cases q with
      | true =>
        refine AWp.rg [] [.p (fun _ => .d (.bool true)) none] ?_ (hr := by conv => lhs; simp [Tm.row, Tm.rows_eq, Cs.rows_eq, h1y, q1, q3, q5, q7, q9])
        refine AWp.cn ?_
        refine AWp.skip ?_
        refine AWp.rg [] [] ?_ (hr := by conv => lhs; simp [Tm.row, Tm.rows_eq, Cs.rows_eq, h1y, q1, q3, q5, q7, q9])
        refine ⟨⟨i + 1, hi1, by rw [hw, if_pos q9]; rfl⟩, by simp; omega, ?_⟩
        dsimp only
        exact Le.sub (by simp) (by simp)
      | false =>
        refine AWp.rg [] [.p (fun _ => .d (.bool false)) none] ?_ (hr := by conv => lhs; simp [Tm.row, Tm.rows_eq, Cs.rows_eq, h1y, q1, q3, q5, q7, q9])
        refine AWp.cy ?_
        obtain rfl : R = false := by rw [hR, Tm.isP, hw, if_pos q9]; rfl
        refine AWp.rg [] [] ?_ (hr := by conv => lhs; simp [Tm.row, Tm.rows_eq, Cs.rows_eq, h1y, q1, q3, q5, q7, q9])
        refine AWp.ret ?_
        try dsimp only [thenQ, blockQ]
        apply endQ.ret
        · rfl
        · conv => lhs; simp [resAV, Tryd.results65]
        rfl
    have hi1 : i = txs.length := by have := of_decide_eq_false hc; omega
    subst hi1
    clear hc
    rw [List.drop_length, Tm.isL] at hw
    have hA := hw
    refine AWp.exit ?_
    refine AWp.rg [] [] ?_ (hr := by conv => lhs; simp [Tm.row, Tm.rows_eq, Cs.rows_eq, q1, q3, q5, q7, q9])
    repeat (first | refine AWp.seq ?_ | refine AWp.block ?_)
    refine AWp.loop (σ := fun u : {u : Nat // u ≤ tcs.length ∧ Cs.isL tcs = Cs.isL (tcs.drop u)} => ⟨52, [(41, .d (.sl (tcs.map Cs.row))), (42, .d (.int (tcs.length : Int))), (43, .d (.int (u.1 : Int)))], []⟩)
      (μ := fun u => tcs.length - u.1) ⟨0, ⟨Nat.zero_le _, by simp⟩⟩ (Le.sub (by simp) (by simp)) (fun ⟨i, ⟨hi20, hw2⟩⟩ => ?_)
    dsimp only
    refine AWp.rg [] [] ?_ (hr := by conv => lhs; simp [Tm.row, Tm.rows_eq, Cs.rows_eq, q1, q3, q5, q7, q9])
    repeat (first | refine AWp.seq ?_ | refine AWp.block ?_)
    refine AWp.cond rfl (fun hc => ?_) (fun hc => ?_)
    · have hi1 : i < tcs.length := by have := of_decide_eq_true hc; omega
      clear hc
      have h1d : tcs[i]? = some tcs[i] := List.getElem?_eq_getElem hi1
      have hmd : tcs[i] ∈ tcs := List.getElem_mem hi1
      have hdd : tcs.drop i = tcs[i] :: tcs.drop (i + 1) := List.drop_eq_getElem_cons hi1
      generalize tcs[i] = d at h1d hmd hdd
      rw [hdd, Cs.isL] at hw2
      have hyR := (hcR d hmd).2
      obtain ⟨dt, dws, y⟩ := d
      rw [Cs.isP] at hw2
      have hx := ih y hyR
      generalize y.isP = q at hx hw2
      obtain ⟨dk, dn, da, db, dvs, dxs, dcs⟩ := y
      refine AWp.skip ?_
      refine AWp.rg [] [] ?_ (hr := by conv => lhs; simp [Tm.row, Tm.rows_eq, Cs.rows_eq, h1d, Cs.row, q1, q3, q5, q7, q9])
      cases q with
      | true =>
        refine AWp.rg [] [.p (fun _ => .d (.bool true)) none] ?_ (hr := by conv => lhs; simp [Tm.row, Tm.rows_eq, Cs.rows_eq, h1d, Cs.row, q1, q3, q5, q7, q9])
        refine AWp.cn ?_
        refine AWp.skip ?_
        refine AWp.rg [] [] ?_ (hr := by conv => lhs; simp [Tm.row, Tm.rows_eq, Cs.rows_eq, h1d, Cs.row, q1, q3, q5, q7, q9])
        refine ⟨⟨i + 1, hi1, by rw [hw2]; rfl⟩, by simp; omega, ?_⟩
        dsimp only
        exact Le.sub (by simp) (by simp)
      | false =>
        refine AWp.rg [] [.p (fun _ => .d (.bool false)) none] ?_ (hr := by conv => lhs; simp [Tm.row, Tm.rows_eq, Cs.rows_eq, h1d, Cs.row, q1, q3, q5, q7, q9])
        refine AWp.cy ?_
        obtain rfl : R = false := by rw [hR, Tm.isP, hw2, Bool.false_and, Bool.and_false]
        refine AWp.rg [] [] ?_ (hr := by conv => lhs; simp [Tm.row, Tm.rows_eq, Cs.rows_eq, h1d, Cs.row, q1, q3, q5, q7, q9])
        refine AWp.ret ?_
        try dsimp only [thenQ, blockQ]
        apply endQ.ret
        · rfl
        · conv => lhs; simp [resAV, Tryd.results65]
        rfl
    have hi1 : i = tcs.length := by have := of_decide_eq_false hc; omega
    subst hi1
    clear hc
    rw [List.drop_length, Cs.isL] at hw2
    obtain rfl : R = true := by rw [hR, Tm.isP, hA, hw2]; rfl
    refine AWp.exit ?_
    refine AWp.rg [] [] ?_ (hr := by conv => lhs; simp [Tm.row, Tm.rows_eq, Cs.rows_eq, q1, q3, q5, q7, q9])
    refine AWp.ret ?_
    try dsimp only [thenQ, blockQ]
    apply endQ.ret
    · rfl
    · conv => lhs; simp [resAV, Tryd.results65]
    rfl
  refine AWp.rg [] [] ?_ (hr := by conv => lhs; simp [Tm.row, Tm.rows_eq, Cs.rows_eq, q1, q3, q5, q7, q9])
  refine AWp.cn ?_
  refine AWp.skip ?_
  have hA : Tm.isL tk txs = true := by
    have h12 : tk = 1 ∨ tk = 2 := by omega
    have : txs = [] := by
      unfold manyB at hmany
      rcases h12 with rfl | rfl <;> simp at hmany <;> exact hmany.1
    rw [this, Tm.isL]
  refine AWp.rg [] [] ?_ (hr := by conv => lhs; simp [Tm.row, Tm.rows_eq, Cs.rows_eq, q1, q3, q5, q7, q9])
  repeat (first | refine AWp.seq ?_ | refine AWp.block ?_)
  refine AWp.loop (σ := fun u : {u : Nat // u ≤ tcs.length ∧ Cs.isL tcs = Cs.isL (tcs.drop u)} => ⟨52, [(41, .d (.sl (tcs.map Cs.row))), (42, .d (.int (tcs.length : Int))), (43, .d (.int (u.1 : Int)))], []⟩)
    (μ := fun u => tcs.length - u.1) ⟨0, ⟨Nat.zero_le _, by simp⟩⟩ (Le.sub (by simp) (by simp)) (fun ⟨i, ⟨hi20, hw2⟩⟩ => ?_)
  dsimp only
  refine AWp.rg [] [] ?_ (hr := by conv => lhs; simp [Tm.row, Tm.rows_eq, Cs.rows_eq, q1, q3, q5, q7, q9])
  repeat (first | refine AWp.seq ?_ | refine AWp.block ?_)
  refine AWp.cond rfl (fun hc => ?_) (fun hc => ?_)
  · have hi1 : i < tcs.length := by have := of_decide_eq_true hc; omega
    clear hc
    have h1d : tcs[i]? = some tcs[i] := List.getElem?_eq_getElem hi1
    have hmd : tcs[i] ∈ tcs := List.getElem_mem hi1
    have hdd : tcs.drop i = tcs[i] :: tcs.drop (i + 1) := List.drop_eq_getElem_cons hi1
    generalize tcs[i] = d at h1d hmd hdd
    rw [hdd, Cs.isL] at hw2
    have hyR := (hcR d hmd).2
    obtain ⟨dt, dws, y⟩ := d
    rw [Cs.isP] at hw2
    have hx := ih y hyR
    generalize y.isP = q at hx hw2
    obtain ⟨dk, dn, da, db, dvs, dxs, dcs⟩ := y
    refine AWp.skip ?_
    refine AWp.rg [] [] ?_ (hr := by conv => lhs; simp [Tm.row, Tm.rows_eq, Cs.rows_eq, h1d, Cs.row, q1, q3, q5, q7, q9])
    cases q with
    | true =>
      refine AWp.rg [] [.p (fun _ => .d (.bool true)) none] ?_ (hr := by conv => lhs; simp [Tm.row, Tm.rows_eq, Cs.rows_eq, h1d, Cs.row, q1, q3, q5, q7, q9])
      refine AWp.cn ?_
      refine AWp.skip ?_
      refine AWp.rg [] [] ?_ (hr := by conv => lhs; simp [Tm.row, Tm.rows_eq, Cs.rows_eq, h1d, Cs.row, q1, q3, q5, q7, q9])
      refine ⟨⟨i + 1, hi1, by rw [hw2]; rfl⟩, by simp; omega, ?_⟩
      dsimp only
      exact Le.sub (by simp) (by simp)
    | false =>
      refine AWp.rg [] [.p (fun _ => .d (.bool false)) none] ?_ (hr := by conv => lhs; simp [Tm.row, Tm.rows_eq, Cs.rows_eq, h1d, Cs.row, q1, q3, q5, q7, q9])
      refine AWp.cy ?_
      obtain rfl : R = false := by rw [hR, Tm.isP, hw2, Bool.false_and, Bool.and_false]
      refine AWp.rg [] [] ?_ (hr := by conv => lhs; simp [Tm.row, Tm.rows_eq, Cs.rows_eq, h1d, Cs.row, q1, q3, q5, q7, q9])
      refine AWp.ret ?_
      try dsimp only [thenQ, blockQ]
      apply endQ.ret
      · rfl
      · conv => lhs; simp [resAV, Tryd.results65]
      rfl
  have hi1 : i = tcs.length := by have := of_decide_eq_false hc; omega
  subst hi1
  clear hc
  rw [List.drop_length, Cs.isL] at hw2
  obtain rfl : R = true := by rw [hR, Tm.isP, hA, hw2]; rfl
  refine AWp.exit ?_
  refine AWp.rg [] [] ?_ (hr := by conv => lhs; simp [Tm.row, Tm.rows_eq, Cs.rows_eq, q1, q3, q5, q7, q9])
  refine AWp.ret ?_
  try dsimp only [thenQ, blockQ]
  apply endQ.ret
  · rfl
  · conv => lhs; simp [resAV, Tryd.results65]
  rfl
theorem isP_all : ∀ N, IsN N
  | 0 => fun _ h => h.elim
  | N + 1 => isP_step N (isP_all N)
def IsQ (N : Nat) : Prop := ∀ t : Tm, t.Rt N → PSpec Tryd.prog 49 [tmAV t] (fun _ => .d (.bool t.isP)) none
set_option maxRecDepth 20000 in
set_option maxHeartbeats 16000000 in
theorem isQ_step (N : Nat) (ih : IsQ N) : IsQ (N + 1) := by
  intro t hRt
  obtain ⟨R, hR⟩ : ∃ R, R = t.isP := ⟨_, rfl⟩
  rw [← hR]
  obtain ⟨tk, tn, ta, tb, tvs, txs, tcs⟩ := t
  obtain ⟨hkk, hmany, h6, hxR, hcR⟩ := hRt
  refine PSpec.of Tryd.func49 rfl rfl rfl (Nat.le_of_ble_eq_true rfl) ?_
  show AWp _ _ (endQ _ Tryd.f49 _ _ _) (startAS 51 _)
  refine AWp.rg [] [] ?_ (hr := by conv => lhs; simp [Tm.row, Tm.rows_eq, Cs.rows_eq])
  refine AWp.rg [] [] ?_ (hr := by conv => lhs; simp [Tm.row, Tm.rows_eq, Cs.rows_eq])
  refine AWp.rg [] [] ?_ (hr := by conv => lhs; simp [Tm.row, Tm.rows_eq, Cs.rows_eq])
  repeat (first | refine AWp.seq ?_ | refine AWp.block ?_)
  refine AWp.loop (σ := fun u : {u : Nat × Bool // u.1 ≤ txs.length ∧ Tm.isL tk txs = (u.2 && Tm.isL tk (txs.drop u.1))} => ⟨51, [(1, .ptr 1 0), (3, .d (.bool u.1.2)), (9, .d (.sl (txs.map Tm.row))), (10, .d (.int (txs.length : Int))), (11, .d (.int (u.1.1 : Int)))], [(1, some (.blk 34 [.d (.int tk), .d (.int tn), .d (.str ta), .d (.str tb), .d (strsD tvs), .d (.sl (txs.map Tm.row)), .d (.sl (tcs.map Cs.row))]))]⟩)
    (μ := fun u => txs.length - u.1.1) ⟨(0, true), ⟨Nat.zero_le _, by simp⟩⟩ (Le.sub (by simp) (by simp)) (fun ⟨(i, ok), ⟨hi3, hw⟩⟩ => ?_)
  dsimp only at hi3 hw ⊢
  refine AWp.rg [] [] ?_ (hr := by conv => lhs; simp [Tm.row, Tm.rows_eq, Cs.rows_eq])
  repeat (first | refine AWp.seq ?_ | refine AWp.block ?_)
  refine AWp.cond rfl (fun hc => ?_) (fun hc => ?_)
  · have hi1 : i < txs.length := by have := of_decide_eq_true hc; omega
    clear hc
    have h1y : txs[i]? = some txs[i] := List.getElem?_eq_getElem hi1
    have hmy : txs[i] ∈ txs := List.getElem_mem hi1
    have hdy : txs.drop i = txs[i] :: txs.drop (i + 1) := List.drop_eq_getElem_cons hi1
    generalize txs[i] = y at h1y hmy hdy
    rw [hdy, Tm.isL] at hw
    have hx := ih y (hxR y hmy)
    generalize y.isP = q at hx hw
    obtain ⟨yk, yn, ya, yb, yvs, yxs, ycs⟩ := y
    rw [Tm.tk] at hw
    refine AWp.skip ?_
    refine AWp.rg [] [] ?_ (hr := by conv => lhs; simp [Tm.row, Tm.rows_eq, Cs.rows_eq, h1y])
    cases ok with
    | true =>
      by_cases q1 : tk = 6
      · cases q with
        | true =>
          refine AWp.rg [] [.p (fun _ => .d (.bool true)) none] ?_ (hr := by conv => lhs; simp [Tm.row, Tm.rows_eq, Cs.rows_eq, h1y, q1])
          refine AWp.rg [] [] ?_ (hr := by conv => lhs; simp [Tm.row, Tm.rows_eq, Cs.rows_eq, h1y, q1])
          refine ⟨⟨(i + 1, true), hi1, by rw [hw]; first | (simp; done) | (rw [if_pos (by assumption)]; simp; done) | (simp [q1]; done)⟩, by simp; omega, ?_⟩
          dsimp only
          exact Le.sub (by simp [q1]) (by simp [q1])
        | false =>
          refine AWp.rg [] [.p (fun _ => .d (.bool false)) none] ?_ (hr := by conv => lhs; simp [Tm.row, Tm.rows_eq, Cs.rows_eq, h1y, q1])
          refine AWp.rg [] [] ?_ (hr := by conv => lhs; simp [Tm.row, Tm.rows_eq, Cs.rows_eq, h1y, q1])
          refine ⟨⟨(i + 1, false), hi1, by rw [hw]; first | (simp; done) | (rw [if_pos (by assumption)]; simp; done) | (simp [q1]; done)⟩, by simp; omega, ?_⟩
          dsimp only
          exact Le.sub (by simp [q1]) (by simp [q1])
      refine AWp.rg [] [] ?_ (hr := by conv => lhs; simp [Tm.row, Tm.rows_eq, Cs.rows_eq, h1y, q1])
      refine AWp.rg [] [] ?_ (hr := by conv => lhs; simp [Tm.row, Tm.rows_eq, Cs.rows_eq, h1y, q1])
      refine ⟨⟨(i + 1, (decide (yk = 1))), hi1, by rw [hw]; first | (simp; done) | (rw [if_pos (by assumption)]; simp; done) | (simp [q1]; done)⟩, by simp; omega, ?_⟩
      dsimp only
      exact Le.sub (by simp) (by simp)
    | false =>
      by_cases q2 : tk = 6
      · refine AWp.rg [] [] ?_ (hr := by conv => lhs; simp [Tm.row, Tm.rows_eq, Cs.rows_eq, h1y, q2])
        refine AWp.rg [] [] ?_ (hr := by conv => lhs; simp [Tm.row, Tm.rows_eq, Cs.rows_eq, h1y, q2])
        refine ⟨⟨(i + 1, false), hi1, by rw [hw]; first | (simp; done) | (rw [if_pos (by assumption)]; simp; done) | (simp [q2]; done)⟩, by simp; omega, ?_⟩
        dsimp only
        exact Le.sub (by simp [q2]) (by simp [q2])
      refine AWp.rg [] [] ?_ (hr := by conv => lhs; simp [Tm.row, Tm.rows_eq, Cs.rows_eq, h1y, q2])
      refine AWp.rg [] [] ?_ (hr := by conv => lhs; simp [Tm.row, Tm.rows_eq, Cs.rows_eq, h1y, q2])
      refine ⟨⟨(i + 1, false), hi1, by rw [hw]; first | (simp; done) | (rw [if_pos (by assumption)]; simp; done) | (simp [q2]; done)⟩, by simp; omega, ?_⟩
      dsimp only
      exact Le.sub (by simp) (by simp)
  have hi1 : i = txs.length := by have := of_decide_eq_false hc; omega
  subst hi1
  clear hc
  rw [List.drop_length, Tm.isL, Bool.and_true] at hw
  refine AWp.exit ?_
  refine AWp.rg [] [] ?_ (hr := by conv => lhs; simp [Tm.row, Tm.rows_eq, Cs.rows_eq])
  repeat (first | refine AWp.seq ?_ | refine AWp.block ?_)
  refine AWp.loop (σ := fun u : {u : Nat × Bool // u.1 ≤ tcs.length ∧ (ok && Cs.isL tcs) = (u.2 && Cs.isL (tcs.drop u.1))} => ⟨51, [(3, .d (.bool u.1.2)), (37, .d (.sl (tcs.map Cs.row))), (38, .d (.int (tcs.length : Int))), (39, .d (.int (u.1.1 : Int)))], []⟩)
    (μ := fun u => tcs.length - u.1.1) ⟨(0, ok), ⟨Nat.zero_le _, by simp⟩⟩ (Le.sub (by simp) (by simp)) (fun ⟨(i, ok2), ⟨hi8, hw2⟩⟩ => ?_)
  dsimp only at hi8 hw2 ⊢
  refine AWp.rg [] [] ?_ (hr := by conv => lhs; simp [Tm.row, Tm.rows_eq, Cs.rows_eq])
  repeat (first | refine AWp.seq ?_ | refine AWp.block ?_)
  refine AWp.cond rfl (fun hc => ?_) (fun hc => ?_)
  · have hi1 : i < tcs.length := by have := of_decide_eq_true hc; omega
    clear hc
    have h1d : tcs[i]? = some tcs[i] := List.getElem?_eq_getElem hi1
    have hmd : tcs[i] ∈ tcs := List.getElem_mem hi1
    have hdd : tcs.drop i = tcs[i] :: tcs.drop (i + 1) := List.drop_eq_getElem_cons hi1
    generalize tcs[i] = d at h1d hmd hdd
    rw [hdd, Cs.isL] at hw2
    have hyR := (hcR d hmd).2
    obtain ⟨dt, dws, y⟩ := d
    rw [Cs.isP] at hw2
    have hx := ih y hyR
    generalize y.isP = q at hx hw2
    obtain ⟨dk, dn, da, db, dvs, dxs, dcs⟩ := y
    refine AWp.skip ?_
    refine AWp.rg [] [] ?_ (hr := by conv => lhs; simp [Tm.row, Tm.rows_eq, Cs.rows_eq, h1d, Cs.row])
    cases ok2 with
    | true =>
      refine AWp.rg [] [.p (fun _ => .d (.bool q)) none] ?_ (hr := by conv => lhs; simp [Tm.row, Tm.rows_eq, Cs.rows_eq, h1d, Cs.row])
      refine AWp.rg [] [] ?_ (hr := by conv => lhs; simp [Tm.row, Tm.rows_eq, Cs.rows_eq, h1d, Cs.row])
      refine ⟨⟨(i + 1, q), hi1, by rw [hw2]; simp⟩, by simp; omega, ?_⟩
      dsimp only
      exact Le.sub (by simp) (by simp)
    | false =>
      refine AWp.rg [] [] ?_ (hr := by conv => lhs; simp [Tm.row, Tm.rows_eq, Cs.rows_eq, h1d, Cs.row])
      refine AWp.rg [] [] ?_ (hr := by conv => lhs; simp [Tm.row, Tm.rows_eq, Cs.rows_eq, h1d, Cs.row])
      refine ⟨⟨(i + 1, false), hi1, by rw [hw2]; simp⟩, by simp; omega, ?_⟩
      dsimp only
      exact Le.sub (by simp) (by simp)
  have hi1 : i = tcs.length := by have := of_decide_eq_false hc; omega
  subst hi1
  clear hc
  rw [List.drop_length, Cs.isL, Bool.and_true] at hw2
  obtain rfl : R = ok2 := by rw [hR, Tm.isP, hw, hw2]
  refine AWp.exit ?_
  refine AWp.rg [] [] ?_ (hr := by conv => lhs; simp [Tm.row, Tm.rows_eq, Cs.rows_eq])
  refine AWp.ret ?_
  try dsimp only [thenQ, blockQ]
  apply endQ.ret
  · rfl
  · conv => lhs; simp [resAV, Tryd.results49]
  rfl
theorem isQ_all : ∀ N, IsQ N
  | 0 => fun _ h => h.elim
  | N + 1 => isQ_step N (isQ_all N)
end Go.Proofs.YtapiiklnnkkdlaaDoor

namespace Go.Proofs.YtapiiklnnkkdlaaDoor
open Go.RowKit
set_option linter.unusedVariables false
set_option linter.unusedSimpArgs false
def IdP (ps : Ps) : Prop := ∀ p ∈ ps, p.1 = p.2
theorem nowP_id {ps : Ps} (h : IdP ps) (s : ByteArray) : nowP ps s = s := by
  unfold nowP
  induction ps with
  | nil => rfl
  | cons p r ih =>
    have h1 := h p (List.mem_cons_self ..)
    simp only [List.foldl_cons]
    have h2 : (if p.1 = s then p.2 else s) = s := by
      split
      · rename_i e; rw [← h1, e]
      · rfl
    rw [h2]
    exact ih fun q hq => h q (List.mem_cons_of_mem _ hq)
theorem IdP.append {ps qs : Ps} (h : IdP ps) (h2 : IdP qs) : IdP (ps ++ qs) := fun p hp => (List.mem_append.1 hp).elim (h p) (h2 p)
theorem IdP.zip (l : List ByteArray) : IdP (l.zip l) := by
  induction l with
  | nil => intro p hp; cases hp
  | cons x r ih =>
    intro p hp
    rw [List.zip_cons_cons] at hp
    rcases List.mem_cons.1 hp with rfl | hp
    · rfl
    · exact ih p hp
theorem freshL_twice : ∀ (l : List ByteArray) (c e : Int), freshL (freshL l e) c = freshL l c
  | [], _, _ => rfl
  | _ :: r, c, e => by simp only [freshL, freshL_twice r]
theorem freshC_twice : ∀ (l : List ByteArray) (c e : Int), freshC (freshL l e) c = freshC l c
  | [], _, _ => rfl
  | _ :: r, c, e => by simp only [freshL, freshC, freshC_twice r]
theorem rt_let {d : Nat} {k n : Int} {a b : ByteArray} {vs : List ByteArray} {xs : List Tm} {cs : List Cs} (h : (Tm.mk k n a b vs xs cs).Rt (d + 1)) (hk : k = 6) : ∃ x y, xs = [x, y] ∧ cs = [] := by
  obtain ⟨_, hm, _⟩ := h
  subst hk
  unfold manyB at hm
  simp at hm
  obtain ⟨h2, rfl⟩ := hm
  rcases xs with _ | ⟨x, _ | ⟨y, _ | ⟨z, l⟩⟩⟩
  · cases h2
  · cases h2
  · exact ⟨x, y, rfl, rfl⟩
  · simp at h2
theorem rns_no {k : Int} (hk : k ≠ 6) (a : ByteArray) (ps : Ps) : ∀ (l : List Tm) (i : Nat) (nm : ByteArray) (c : Int), (Tm.rns k a ps i l nm c).2.1 = nm
  | [], _, _, _ => rfl
  | x :: r, i, nm, c => by
    rw [Tm.rns, if_neg fun h => hk h.1]
    exact rns_no hk a ps r _ _ _
theorem rn_rn : ∀ (d : Nat) (t : Tm) (ps qs : Ps) (c : Int), t.Rt d → IdP qs → (t.rn ps c).1.rn qs c = ((t.rn ps c).1, (t.rn ps c).2) := by
  intro d
  induction d with
  | zero => intro t _ _ _ h; exact h.elim
  | succ d ih =>
  intro t ps qs c hR hq
  obtain ⟨k, n, a, b, vs, xs, cs⟩ := t
  have hR' := hR
  obtain ⟨_, _, _, hx, hc⟩ := hR'
  rw [Tm.rn]
  by_cases hk1 : k = 1
  · rw [if_pos hk1]
    dsimp only
    rw [Tm.rn, if_pos hk1, nowP_id hq]
  rw [if_neg hk1]
  dsimp only
  rw [Tm.rn, if_neg hk1]
  by_cases hk6 : k = 6
  · obtain ⟨x, y, rfl, rfl⟩ := rt_let hR hk6
    subst hk6
    have h1 := ih x ps qs c (hx x (by simp)) hq
    have h2 := ih y (ps ++ [(a, vNm (wr ((x.rn ps c).2 + 1)))]) (qs ++ [(vNm (wr ((x.rn ps c).2 + 1)), vNm (wr ((x.rn ps c).2 + 1)))]) (wr ((x.rn ps c).2 + 1)) (hx y (by simp)) (hq.append fun p hp => by rw [List.mem_singleton.1 hp])
    simp [Tm.rns, Cs.rnL, h1, h2]
  · have hL : ∀ (ys : List Tm) (i : Nat) (nm nm' a' : ByteArray) (c : Int), (∀ y ∈ ys, y ∈ xs) → Tm.rns k a' qs i (Tm.rns k a ps i ys nm c).1 nm' c = ((Tm.rns k a ps i ys nm c).1, nm', (Tm.rns k a ps i ys nm c).2.2) := by
      intro ys
      induction ys with
      | nil => intro i nm nm' a' c _; rfl
      | cons y r ih2 =>
        intro i nm nm' a' c hm
        have h1 := ih y ps qs c (hx y (hm y (List.mem_cons_self ..))) hq
        have h2 := ih2 (i + 1) nm nm' a' (y.rn ps c).2 fun z hz => hm z (List.mem_cons_of_mem _ hz)
        rw [Tm.rns, if_neg fun h => hk6 h.1]
        dsimp only
        rw [Tm.rns, if_neg fun h => hk6 h.1, h1]
        dsimp only
        rw [h2]
    have hC : ∀ (ys : List Cs) (c : Int), (∀ y ∈ ys, y ∈ cs) → Cs.rnL (Cs.rnL ys ps c).1 qs c = ((Cs.rnL ys ps c).1, (Cs.rnL ys ps c).2) := by
      intro ys
      induction ys with
      | nil => intro c _; rfl
      | cons y r ih2 =>
        intro c hm
        have hy := hm y (List.mem_cons_self ..)
        obtain ⟨t, ws, y⟩ := y
        have h1 := ih y (ps ++ ws.zip (freshL ws c)) (qs ++ (freshL ws c).zip (freshL ws c)) (freshC ws c) (hc _ hy).2 (hq.append (IdP.zip _))
        have h2 := ih2 (y.rn (ps ++ ws.zip (freshL ws c)) (freshC ws c)).2 fun z hz => hm z (List.mem_cons_of_mem _ hz)
        rw [Cs.rnL, Cs.rn]
        dsimp only
        rw [Cs.rnL, Cs.rn, freshL_twice, freshC_twice, h1]
        dsimp only
        rw [h2]
    rw [hL xs 0 a _ _ c fun y hy => hy]
    dsimp only
    rw [hC cs _ fun y hy => hy]
theorem Fn.rn_rn (f : Fn) (hr : f.body.Rt 25) : f.rn.rn = f.rn := by
  have h := Go.Proofs.YtapiiklnnkkdlaaDoor.rn_rn 25 f.body (f.params.zip (freshL f.params 0)) ((freshL f.params 0).zip (freshL f.params 0)) (freshC f.params 0) hr (IdP.zip _)
  unfold Fn.rn
  dsimp only
  rw [freshL_twice, freshC_twice, h]
mutual
def Tm.bd : Tm → List ByteArray
  | .mk k _ a _ _ xs cs => (if k = 6 then [a] else []) ++ (Tm.bdL xs ++ Cs.bdL cs)
def Tm.bdL : List Tm → List ByteArray
  | [] => []
  | x :: r => x.bd ++ Tm.bdL r
def Cs.bdL : List Cs → List ByteArray
  | [] => []
  | c :: r => c.bd ++ Cs.bdL r
def Cs.bd : Cs → List ByteArray
  | .mk _ ws y => ws ++ y.bd
end
def seqV (c : Int) (n : Nat) : List ByteArray := (List.range n).map fun (i : Nat) => vNm (c + 1 + (i : Int))
theorem seqV_add (c : Int) (m n : Nat) : seqV c (m + n) = seqV c m ++ seqV (c + m) n := by
  unfold seqV
  rw [List.range_add, List.map_append, List.map_map]
  congr 1
  refine List.map_congr_left fun i _ => ?_
  show vNm _ = vNm _
  congr 1
  push_cast
  omega
theorem seqV_one (c : Int) : seqV c 1 = [vNm (c + 1)] := by simp [seqV]
theorem wr_of {c : Int} (h : 0 ≤ c) (h2 : c < 9223372036854775807) : wr c = c := wr_id ⟨by omega, by omega⟩
theorem freshL_seq : ∀ (l : List ByteArray) (c : Int), 0 ≤ c → c + l.length < 9223372036854775807 → freshL l c = seqV c l.length ∧ freshC l c = c + l.length
  | [], c, _, _ => ⟨rfl, by simp [freshC]⟩
  | x :: r, c, h, h2 => by
    rw [List.length_cons] at h2
    have hw : wr (c + 1) = c + 1 := wr_of (by omega) (by omega)
    obtain ⟨h3, h4⟩ := freshL_seq r (c + 1) (by omega) (by omega)
    refine ⟨?_, ?_⟩
    · rw [freshL, hw, h3, List.length_cons, Nat.add_comm r.length 1, seqV_add, seqV_one]
      rfl
    · rw [freshC, hw, h4, List.length_cons]; omega
theorem bd_rn : ∀ (d : Nat) (t : Tm) (ps : Ps) (c : Int), t.Rt d → 0 ≤ c → c + t.bd.length < 9223372036854775807 → (t.rn ps c).1.bd.Perm (seqV c t.bd.length) ∧ (t.rn ps c).2 = c + t.bd.length := by
  intro d
  induction d with
  | zero => intro t _ _ h; exact h.elim
  | succ d ih =>
  intro t ps c hR h0 hb
  obtain ⟨k, n, a, b, vs, xs, cs⟩ := t
  have hR' := hR
  obtain ⟨hk, hmany, _, hx, hc⟩ := hR'
  rw [Tm.rn]
  by_cases hk1 : k = 1
  · subst hk1
    unfold manyB at hmany
    simp at hmany
    obtain ⟨rfl, rfl⟩ := hmany
    rw [if_pos rfl]
    exact ⟨by simp [Tm.bd, Tm.bdL, Cs.bdL, seqV], by simp [Tm.bd, Tm.bdL, Cs.bdL]⟩
  rw [if_neg hk1]
  by_cases hk6 : k = 6
  · obtain ⟨x, y, rfl, rfl⟩ := rt_let hR hk6
    subst hk6
    have hl : (Tm.mk 6 n a b vs [x, y] []).bd.length = x.bd.length + (1 + y.bd.length) := by simp [Tm.bd, Tm.bdL, Cs.bdL]; omega
    rw [hl] at hb ⊢
    obtain ⟨h1, h2⟩ := ih x ps c (hx x (by simp)) h0 (by push_cast at hb ⊢; omega)
    have hw : wr (c + x.bd.length + 1) = c + x.bd.length + 1 := wr_of (by omega) (by push_cast at hb; omega)
    obtain ⟨h3, h4⟩ := ih y (ps ++ [(a, vNm (c + x.bd.length + 1))]) (c + x.bd.length + 1) (hx y (by simp)) (by omega) (by push_cast at hb ⊢; omega)
    refine ⟨?_, ?_⟩
    · simp [Tm.rns, Cs.rnL, Tm.bd, Tm.bdL, Cs.bdL, h2, hw]
      rw [seqV_add, seqV_add, seqV_one, show c + (x.bd.length : Int) + ((1 : Nat) : Int) = c + x.bd.length + 1 from by omega]
      refine List.Perm.trans ?_ ((List.perm_middle (a := vNm (c + x.bd.length + 1)) (l₁ := seqV c x.bd.length) (l₂ := seqV (c + x.bd.length + 1) y.bd.length)).symm)
      exact List.Perm.cons _ (h1.append h3)
    · simp [Tm.rns, Cs.rnL, h2, hw, h4]; omega
  · have hL : ∀ (ys : List Tm) (i : Nat) (nm : ByteArray) (c : Int), (∀ y ∈ ys, y ∈ xs) → 0 ≤ c → c + (Tm.bdL ys).length < 9223372036854775807 → (Tm.bdL (Tm.rns k a ps i ys nm c).1).Perm (seqV c (Tm.bdL ys).length) ∧ (Tm.rns k a ps i ys nm c).2.2 = c + (Tm.bdL ys).length := by
      intro ys
      induction ys with
      | nil => intro i nm c _ _ _; exact ⟨by simp [Tm.rns, Tm.bdL, seqV], by simp [Tm.rns, Tm.bdL]⟩
      | cons y r ih2 =>
        intro i nm c hm h0 hb
        rw [Tm.bdL, List.length_append] at hb ⊢
        obtain ⟨h1, h2⟩ := ih y ps c (hx y (hm y (List.mem_cons_self ..))) h0 (by push_cast at hb; omega)
        obtain ⟨h3, h4⟩ := ih2 (i + 1) nm (c + y.bd.length) (fun z hz => hm z (List.mem_cons_of_mem _ hz)) (by omega) (by push_cast at hb; omega)
        rw [Tm.rns, if_neg fun h => hk6 h.1, h2]
        dsimp only
        rw [Tm.bdL, seqV_add]
        exact ⟨h1.append h3, by rw [h4]; push_cast; omega⟩
    have hC : ∀ (ys : List Cs) (c : Int), (∀ y ∈ ys, y ∈ cs) → 0 ≤ c → c + (Cs.bdL ys).length < 9223372036854775807 → (Cs.bdL (Cs.rnL ys ps c).1).Perm (seqV c (Cs.bdL ys).length) ∧ (Cs.rnL ys ps c).2 = c + (Cs.bdL ys).length := by
      intro ys
      induction ys with
      | nil => intro c _ _ _; exact ⟨by simp [Cs.rnL, Cs.bdL, seqV], by simp [Cs.rnL, Cs.bdL]⟩
      | cons y r ih2 =>
        intro c hm h0 hb
        have hy := hm y (List.mem_cons_self ..)
        obtain ⟨t, ws, y⟩ := y
        rw [Cs.bdL, Cs.bd, List.length_append, List.length_append] at hb ⊢
        obtain ⟨e1, e2⟩ := freshL_seq ws c h0 (by push_cast at hb; omega)
        obtain ⟨h1, h2⟩ := ih y (ps ++ ws.zip (freshL ws c)) (c + ws.length) (hc _ hy).2 (by omega) (by push_cast at hb; omega)
        obtain ⟨h3, h4⟩ := ih2 (c + ws.length + y.bd.length) (fun z hz => hm z (List.mem_cons_of_mem _ hz)) (by omega) (by push_cast at hb; omega)
        rw [Cs.rnL, Cs.rn, e2, h2]
        dsimp only
        rw [Cs.bdL, Cs.bd, seqV_add, seqV_add, show c + ((ws.length + y.bd.length : Nat) : Int) = c + ws.length + y.bd.length from by push_cast; omega, e1]
        exact ⟨((List.Perm.refl _).append (by rw [← e1]; exact h1)).append h3, by rw [h4]; push_cast; omega⟩
    have hl : (Tm.mk k n a b vs xs cs).bd.length = (Tm.bdL xs).length + (Cs.bdL cs).length := by simp [Tm.bd, hk6]
    rw [hl] at hb ⊢
    obtain ⟨h1, h2⟩ := hL xs 0 a c (fun _ h => h) h0 (by push_cast at hb; omega)
    obtain ⟨h3, h4⟩ := hC cs (c + (Tm.bdL xs).length) (fun _ h => h) (by omega) (by push_cast at hb; omega)
    rw [h2]
    dsimp only
    rw [Tm.bd, if_neg hk6, List.nil_append, seqV_add]
    exact ⟨h1.append h3, by rw [h4]; push_cast; omega⟩
def decVal (l : List UInt8) : Nat := l.foldl (fun a c => a * 10 + (c.toNat - 48)) 0
theorem decVal_digits (u : Nat) : decVal (Lib.decDigits u) = u := by
  induction u using Nat.strongRecOn with
  | _ u ih =>
    by_cases h : u < 10
    · rw [Lib.decDigits, dif_pos h]
      have h1 : (UInt8.ofNat (48 + u)).toNat = 48 + u := by rw [UInt8.toNat_ofNat']; omega
      simp only [decVal, List.foldl_cons, List.foldl_nil, h1]
      omega
    · rw [Lib.decDigits, dif_neg h]
      have h1 : (UInt8.ofNat (48 + u % 10)).toNat = 48 + u % 10 := by rw [UInt8.toNat_ofNat']; omega
      have h2 := ih (u / 10) (by omega)
      unfold decVal at h2 ⊢
      rw [List.foldl_append, h2, List.foldl_cons, List.foldl_nil, h1]
      omega
theorem itoaB_inj {a b : Int} (ha : 0 ≤ a) (hb : 0 ≤ b) (h : itoaB a = itoaB b) : a = b := by
  unfold itoaB Lib.itoa at h
  rw [if_neg (by omega), if_neg (by omega)] at h
  injection h with h
  have h1 : Lib.decDigits a.toNat = Lib.decDigits b.toNat := by
    have := congrArg Array.toList h
    simpa using this
  have h2 := congrArg decVal h1
  rw [decVal_digits, decVal_digits] at h2
  omega
theorem append_left_inj {p a b : ByteArray} (h : p ++ a = p ++ b) : a = b := by
  have h1 := congrArg (fun x : ByteArray => x.data.toList) h
  simp only [ByteArray.data_append, Array.toList_append] at h1
  have h2 := List.append_cancel_left h1
  obtain ⟨a⟩ := a
  obtain ⟨b⟩ := b
  congr 1
  exact Array.toList_inj.1 h2
theorem vNm_inj {a b : Int} (ha : 0 ≤ a) (hb : 0 ≤ b) (h : vNm a = vNm b) : a = b := itoaB_inj ha hb (append_left_inj h)
theorem seqV_nodup {c : Int} (hc : 0 ≤ c) (n : Nat) : (seqV c n).Nodup := by
  unfold seqV
  rw [List.nodup_iff_pairwise_ne, List.pairwise_map]
  refine List.Pairwise.imp ?_ List.nodup_range
  intro a b hab e
  have := vNm_inj (by omega) (by omega) e
  omega
def Fn.bd (f : Fn) : List ByteArray := f.params ++ f.body.bd
end Go.Proofs.YtapiiklnnkkdlaaDoor

namespace Go.Proofs.YtapiiklnnkkdlaaDoor
open Go.RowKit Go.Shelf
set_option linter.unusedVariables false
set_option linter.unusedSimpArgs false
attribute [local go_sem] Oper.semAt_some
def KpB (n₀ Bs : Nat) (A B : World) : Prop := Below n₀ A B ∧ B.cell? ⟨Bs, 0, none⟩ = A.cell? ⟨Bs, 0, none⟩
theorem KpB.refl (n₀ Bs : Nat) (A : World) : KpB n₀ Bs A A := ⟨Below.refl _ _, rfl⟩
theorem KpB.trans {n₀ Bs : Nat} {A B C : World} (h : KpB n₀ Bs A B) (k : KpB n₀ Bs B C) : KpB n₀ Bs A C := ⟨h.1.trans k.1, k.2.trans h.2⟩

attribute [local go_sem] Oper.semAt_some
def cnt (k : Int) : List ByteArray → Tm → Tm
  | [], t => t
  | s :: r, t => .mk k 0 s .empty [] [cnt k r t] []
def cntF (k : Int) (t : Tm) (pre : List (Int × ByteArray)) : Tm := pre.foldl (fun t x => .mk k 0 x.2 .empty [] [t] []) t
def BInv (k : Int) (t : Tm) (ok : Nat → Prop) (n0 : Nat) (z : Array Value) (pre : List (Int × ByteArray)) (W : World) : Prop :=
  n0 + 3 ≤ W.heap.size ∧ ∃ (S : Nat → Prop) (c0 c1 c2 c3 c4 c5 c6 : Value), (∀ b, S b → n0 + 3 ≤ b ∧ ∃ cs t fr, W.heap[b]? = some (.cells cs t fr)) ∧ Blk W n0 34 #[c0, c1, c2, c3, c4, c5, c6] ∧ Blk W (n0 + 1) 34 z ∧
    ((∀ p ∈ pre, p.2.size ≤ maxLen) → RepRow W (fun b => ok b ∨ S b) (cntF k t pre).row [c0, c1, c2, c3, c4, c5, c6])
theorem blk_kept {W W' : World} {row : Option Nat} {b : Nat} {o : Obj} (ho : o.isCells = true) (h : W.heap[b]? = some o) (hg : W.grownBy W' row) (hr : ∀ r, row = some r → ∃ o : Obj, W.heap[r]? = some o ∧ o.isCells = false) : W'.heap[b]? = some o := by
  refine (hg.block b (Array.getElem?_eq_some_iff.1 h).1 fun e => ?_).trans h
  obtain ⟨o', h1, h2⟩ := hr b e.symm
  rw [h] at h1
  cases h1
  rw [ho] at h2
  cases h2
theorem BInv.own (k : Int) (t : Tm) (ok : Nat → Prop) (n0 B : Nat) (z : Array Value) (hB : n0 ≤ B) (hok : ∀ b, ok b → b < n0) : OwnFrom B (BInv k t ok n0 z) := by
  rintro pre W W' row ⟨hsz, S, c0, c1, c2, c3, c4, c5, c6, hS, hb3, hb4, hrow⟩ hg hr
  have hr' : ∀ r, row = some r → ∃ o : Obj, W.heap[r]? = some o ∧ o.isCells = false := fun r e => (hr r e).2
  refine ⟨Nat.le_trans hsz hg.size, S, c0, c1, c2, c3, c4, c5, c6, fun b hb => ?_, blk_kept rfl hb3 hg hr', blk_kept rfl hb4 hg hr', fun hpre => ⟨(hrow hpre).1, fun j d v hd hv => ((hrow hpre).2 j d v hd hv).keep fun p hp => World.cell?_heap ?_⟩⟩
  · obtain ⟨h1, cs, t, fr, h2⟩ := hS b hb
    exact ⟨h1, cs, t, fr, blk_kept rfl h2 hg hr'⟩
  · rcases hp with hp | hp
    · have := hok _ hp
      have hlt : p.block < W.heap.size := by have := hb3.lt; omega
      refine hg.block _ hlt fun e => ?_
      have := (hr _ e.symm).1
      omega
    · obtain ⟨h1, cs, t, fr, h2⟩ := hS _ hp
      exact (blk_kept rfl h2 hg hr').trans h2.symm
section
variable {F : Fence} {nF : Nat} {P : Program}
end
end Go.Proofs.YtapiiklnnkkdlaaDoor
