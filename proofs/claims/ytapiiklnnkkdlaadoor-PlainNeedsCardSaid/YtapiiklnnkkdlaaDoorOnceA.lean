import Derived.Test.YtapiiklnnkkdlaaDoorNameY
import Derived.Test.YtapiiklnnkkdlaaDoorOpen
/- xclaw4.NamesOnce and its function. Printed by a small program. -/
namespace Go.Proofs.YtapiiklnnkkdlaaDoor
open Go.RowKit
attribute [local simp] runD mkRc ldOf stOf stOk ldArg noAny dstOk guardOk opEff opEff0 effOp pureOp callOp zEff evA constAV scalAV Value.oneCell' frGet memGet startAS frOf isGoCall idIn AS.after nextR opnIds objIds AV.ids idsL AObj.ids frNo memNo opnAny isAny mkVal rdCells wrCells fldAddr idxAddr srcRows litRows toD1 toDs setAt sliceAV optI partAV bldAV fillAV binAV binI AV.cells callEff calleeOf frKill memKill AV.kill AObj.kill AV.has AV.hasL Op.operands Call.operands keepF keepM viewIds cChk renOf moGet moWs moQ cEff moLike moHave AV.ren renL AObj.ren AObj.like kept startC moMem AV.frz frz1 frzL frSub memSub frzs AS.frz frFrz memFrz AObj.frz takeMap takeLen bleF Nat.ble_eq memAny objAny mapOp D.keyOk rowAV valRow extOp wrapOp phO
set_option linter.unusedVariables false
set_option linter.unusedSimpArgs false
abbrev loObj : AObj := .blk 38 [.clo 22 [.ptr 1000 0, .ptr 1001 0]]
def LookN (N : Nat) : Prop := ∀ t : Tm, t.Rt N → ∀ l : List ByteArray, l.length + t.bd.length ≤ 1048576 →
  CSpec Tryd.prog 22 [tmAV t, .ptr 1000 0, .ptr 1001 0] [(500, .arr 9 1 (l.map strR)), (1000, .blk 30 [.arr 500 0 l.length]), (1001, loObj)] (.tuple []) [(500, .arr 9 1 ((l ++ t.bd).map strR)), (1000, .blk 30 [.arr 500 0 ((l ++ t.bd).length)]), (1001, loObj)]
set_option maxRecDepth 20000 in
set_option maxHeartbeats 16000000 in
theorem look_step (N : Nat) (ih : LookN N) : LookN (N + 1) := by
  intro t hRt l hlen
  obtain ⟨R, hR⟩ : ∃ R, R = l ++ t.bd := ⟨_, rfl⟩
  have hRl : R.length ≤ 1048576 := by rw [hR, List.length_append]; exact hlen
  rw [← hR]
  clear hlen
  obtain ⟨tk, tn, ta, tb, tvs, txs, tcs⟩ := t
  rw [Tm.bd] at hR
  obtain ⟨_, _, h6, hxr, hcr⟩ := hRt
  refine CSpec.of Tryd.func22 rfl rfl (Nat.le_of_ble_eq_true rfl) ?_
  show AWp _ _ (endC _ Tryd.f22 _ _) (startC 43 _ _)
  refine AWp.rg [] [] ?_ (hr := by conv => lhs; simp [loObj, Tm.row, Tm.rows_eq, Cs.rows_eq])
  by_cases q1 : tk = 6
  · refine AWp.rg [] [] ?_ (hr := by conv => lhs; simp [loObj, Tm.row, Tm.rows_eq, Cs.rows_eq, q1])
    refine AWp.cy ?_
    rw [if_pos q1] at hR
    obtain ⟨q, hq⟩ : ∃ q, q = l ++ [ta] := ⟨_, rfl⟩
    have hmq : List.map strR l ++ [[D.str ta]] = List.map strR q := by rw [hq]; simp
    have hql : l.length + 1 = q.length := by rw [hq]; simp
    have hR : R = q ++ (Tm.bdL txs ++ Cs.bdL tcs) := by rw [hR, hq]; simp
    have hqb := congrArg List.length hR
    simp only [List.length_append] at hqb
    refine AWp.rg [3] [] ?_ (hr := by conv => lhs; simp [loObj, Tm.row, Tm.rows_eq, Cs.rows_eq, hmq, hql, q1])
    refine AWp.rg [] [] ?_ (hr := by conv => lhs; simp [loObj, Tm.row, Tm.rows_eq, Cs.rows_eq, q1])
    repeat (first | refine AWp.seq ?_ | refine AWp.block ?_)
    refine AWp.loop (σ := fun u : {u : Nat × List ByteArray // u.1 ≤ txs.length ∧ R = u.2 ++ (Tm.bdL (txs.drop u.1) ++ Cs.bdL tcs)} => ⟨43, [(1, .ptr 1000 0), (2, .ptr 1001 0), (3, .ptr 3 0), (17, .d (.sl (txs.map Tm.row))), (18, .d (.int (txs.length : Int))), (19, .d (.int (u.1.1 : Int)))], [(3, some (.blk 34 [.d (.int 6), .d (.int tn), .d (.str ta), .d (.str tb), .d (strsD tvs), .d (.sl (txs.map Tm.row)), .d (.sl (tcs.map Cs.row))])), (500, some (.arr 9 1 (u.1.2.map strR))), (1000, some (.blk 30 [.arr 500 0 u.1.2.length])), (1001, some (.blk 38 [.clo 22 [.ptr 1000 0, .ptr 1001 0]]))]⟩)
      (μ := fun u => txs.length - u.1.1) ⟨(0, q), ⟨Nat.zero_le _, by rw [List.drop_zero]; exact hR⟩⟩ (Le.sub (by simp) (by simp)) (fun ⟨(i, b), ⟨hi4, hw⟩⟩ => ?_)
    dsimp only at hi4 hw ⊢
    refine AWp.rg [] [] ?_ (hr := by conv => lhs; simp [loObj, Tm.row, Tm.rows_eq, Cs.rows_eq, q1])
    repeat (first | refine AWp.seq ?_ | refine AWp.block ?_)
    refine AWp.cond rfl (fun hc => ?_) (fun hc => ?_)
    · have hi1 : i < txs.length := by have := of_decide_eq_true hc; omega
      clear hc
      have h1y : txs[i]? = some txs[i] := List.getElem?_eq_getElem hi1
      have hmy : txs[i] ∈ txs := List.getElem_mem hi1
      have hdy : txs.drop i = txs[i] :: txs.drop (i + 1) := List.drop_eq_getElem_cons hi1
      generalize txs[i] = y at h1y hmy hdy
      rw [hdy, Tm.bdL] at hw
      have hlw := congrArg List.length hw
      simp only [List.length_append] at hlw
      have hx := ih y (hxr y hmy) b (by omega)
      obtain ⟨b2, hb2⟩ : ∃ z, z = b ++ y.bd := ⟨_, rfl⟩
      rw [← hb2] at hx
      have hw2 : R = b2 ++ (Tm.bdL (txs.drop (i + 1)) ++ Cs.bdL tcs) := by rw [hw, hb2]; simp only [List.append_assoc]
      obtain ⟨yk, yn, ya, yb, yvs, yxs, ycs⟩ := y
      dsimp only [tmAV] at hx
      refine AWp.skip ?_
      refine AWp.rg [] [] ?_ (hr := by conv => lhs; simp [loObj, Tm.row, Tm.rows_eq, Cs.rows_eq, h1y, q1])
      refine AWp.rg [] [.c [] [.agg [.d (.int yk), .d (.int yn), .d (.str ya), .d (.str yb), .d (strsD yvs), .d (.sl (yxs.map Tm.row)), .d (.sl (ycs.map Cs.row))], .ptr 1000 0, .ptr 1001 0] [(500, .arr 9 1 (b.map strR)), (1000, .blk 30 [.arr 500 0 b.length]), (1001, .blk 38 [.clo 22 [.ptr 1000 0, .ptr 1001 0]])] (.tuple []) [(500, .arr 9 1 (b2.map strR)), (1000, .blk 30 [.arr 500 0 b2.length]), (1001, .blk 38 [.clo 22 [.ptr 1000 0, .ptr 1001 0]])]] ?_ (hr := by conv => lhs; simp [loObj, Tm.row, Tm.rows_eq, Cs.rows_eq, h1y, q1])
      refine AWp.rg [] [] ?_ (hr := by conv => lhs; simp [loObj, Tm.row, Tm.rows_eq, Cs.rows_eq, h1y, q1])
      refine ⟨⟨(i + 1, b2), hi1, hw2⟩, by simp; omega, ?_⟩
      dsimp only
      exact Le.sub (by simp) (by simp)
    have hi1 : i = txs.length := by have := of_decide_eq_false hc; omega
    subst hi1
    clear hc
    rw [List.drop_length, Tm.bdL, List.nil_append] at hw
    refine AWp.exit ?_
    refine AWp.rg [] [] ?_ (hr := by conv => lhs; simp [loObj, Tm.row, Tm.rows_eq, Cs.rows_eq, q1])
    repeat (first | refine AWp.seq ?_ | refine AWp.block ?_)
    refine AWp.loop (σ := fun u : {u : Nat × List ByteArray // u.1 ≤ tcs.length ∧ R = u.2 ++ Cs.bdL (tcs.drop u.1)} => ⟨43, [(1, .ptr 1000 0), (2, .ptr 1001 0), (28, .d (.sl (tcs.map Cs.row))), (29, .d (.int (tcs.length : Int))), (30, .d (.int (u.1.1 : Int)))], [(500, some (.arr 9 1 (u.1.2.map strR))), (1000, some (.blk 30 [.arr 500 0 u.1.2.length])), (1001, some (.blk 38 [.clo 22 [.ptr 1000 0, .ptr 1001 0]]))]⟩)
      (μ := fun u => tcs.length - u.1.1) ⟨(0, b), ⟨Nat.zero_le _, by rw [List.drop_zero]; exact hw⟩⟩ (Le.sub (by simp) (by simp)) (fun ⟨(j, d), ⟨hi9, hw⟩⟩ => ?_)
    dsimp only at hi9 hw ⊢
    refine AWp.rg [] [] ?_ (hr := by conv => lhs; simp [loObj, Tm.row, Tm.rows_eq, Cs.rows_eq, q1])
    repeat (first | refine AWp.seq ?_ | refine AWp.block ?_)
    refine AWp.cond rfl (fun hc => ?_) (fun hc => ?_)
    · have hi1 : j < tcs.length := by have := of_decide_eq_true hc; omega
      clear hc
      have h1c : tcs[j]? = some tcs[j] := List.getElem?_eq_getElem hi1
      have hmc : tcs[j] ∈ tcs := List.getElem_mem hi1
      have hdc : tcs.drop j = tcs[j] :: tcs.drop (j + 1) := List.drop_eq_getElem_cons hi1
      generalize tcs[j] = c at h1c hmc hdc
      rw [hdc, Cs.bdL] at hw
      have hcs := (hcr c hmc).2
      obtain ⟨ct, cvs, cy⟩ := c
      rw [Cs.bd] at hw
      change cy.Rt N at hcs
      have hlw := congrArg List.length hw
      simp only [List.length_append] at hlw
      obtain ⟨u, hu⟩ : ∃ z, z = d ++ cvs := ⟨_, rfl⟩
      have hmu : List.map strR d ++ List.map strR cvs = List.map strR u := by rw [hu]; simp
      have hul : d.length + cvs.length = u.length := by rw [hu]; simp
      have hx := ih cy hcs u (by omega)
      obtain ⟨b2, hb2⟩ : ∃ z, z = u ++ cy.bd := ⟨_, rfl⟩
      rw [← hb2] at hx
      have hw2 : R = b2 ++ Cs.bdL (tcs.drop (j + 1)) := by rw [hw, hb2, hu]; simp only [List.append_assoc]
      obtain ⟨yk, yn, ya, yb, yvs, yxs, ycs⟩ := cy
      dsimp only [tmAV] at hx
      refine AWp.skip ?_
      refine AWp.rg [] [] ?_ (hr := by conv => lhs; simp [loObj, Tm.row, Tm.rows_eq, Cs.rows_eq, h1c, Cs.row, q1])
      refine AWp.rg [] [] ?_ (hr := by conv => lhs; simp [loObj, Tm.row, Tm.rows_eq, Cs.rows_eq, h1c, Cs.row, hmu, hul, q1])
      refine AWp.rg [] [.c [] [.agg [.d (.int yk), .d (.int yn), .d (.str ya), .d (.str yb), .d (strsD yvs), .d (.sl (yxs.map Tm.row)), .d (.sl (ycs.map Cs.row))], .ptr 1000 0, .ptr 1001 0] [(500, .arr 9 1 (u.map strR)), (1000, .blk 30 [.arr 500 0 u.length]), (1001, .blk 38 [.clo 22 [.ptr 1000 0, .ptr 1001 0]])] (.tuple []) [(500, .arr 9 1 (b2.map strR)), (1000, .blk 30 [.arr 500 0 b2.length]), (1001, .blk 38 [.clo 22 [.ptr 1000 0, .ptr 1001 0]])]] ?_ (hr := by conv => lhs; simp [loObj, Tm.row, Tm.rows_eq, Cs.rows_eq, h1c, Cs.row, q1])
      refine AWp.rg [] [] ?_ (hr := by conv => lhs; simp [loObj, Tm.row, Tm.rows_eq, Cs.rows_eq, h1c, Cs.row, q1])
      refine ⟨⟨(j + 1, b2), hi1, hw2⟩, by simp; omega, ?_⟩
      dsimp only
      exact Le.sub (by simp) (by simp)
    have hi1 : j = tcs.length := by have := of_decide_eq_false hc; omega
    subst hi1
    clear hc
    rw [List.drop_length, Cs.bdL, List.append_nil] at hw
    refine AWp.exit ?_
    rw [hw]
    try dsimp only [thenQ, blockQ]
    apply endC.normal
    · rfl
    · conv => lhs; simp [resAV, Tryd.results22]
    · rfl
    · simp [moEnd, memGet, loObj]
  refine AWp.rg [] [] ?_ (hr := by conv => lhs; simp [loObj, Tm.row, Tm.rows_eq, Cs.rows_eq, q1])
  refine AWp.cn ?_
  refine AWp.skip ?_
  rw [if_neg q1, List.nil_append] at hR
  refine AWp.rg [] [] ?_ (hr := by conv => lhs; simp [loObj, Tm.row, Tm.rows_eq, Cs.rows_eq, q1])
  repeat (first | refine AWp.seq ?_ | refine AWp.block ?_)
  refine AWp.loop (σ := fun u : {u : Nat × List ByteArray // u.1 ≤ txs.length ∧ R = u.2 ++ (Tm.bdL (txs.drop u.1) ++ Cs.bdL tcs)} => ⟨43, [(1, .ptr 1000 0), (2, .ptr 1001 0), (3, .ptr 3 0), (17, .d (.sl (txs.map Tm.row))), (18, .d (.int (txs.length : Int))), (19, .d (.int (u.1.1 : Int)))], [(3, some (.blk 34 [.d (.int tk), .d (.int tn), .d (.str ta), .d (.str tb), .d (strsD tvs), .d (.sl (txs.map Tm.row)), .d (.sl (tcs.map Cs.row))])), (500, some (.arr 9 1 (u.1.2.map strR))), (1000, some (.blk 30 [.arr 500 0 u.1.2.length])), (1001, some (.blk 38 [.clo 22 [.ptr 1000 0, .ptr 1001 0]]))]⟩)
    (μ := fun u => txs.length - u.1.1) ⟨(0, l), ⟨Nat.zero_le _, by rw [List.drop_zero]; exact hR⟩⟩ (Le.sub (by simp) (by simp)) (fun ⟨(i, b), ⟨hi4, hw⟩⟩ => ?_)
  dsimp only at hi4 hw ⊢
  refine AWp.rg [] [] ?_ (hr := by conv => lhs; simp [loObj, Tm.row, Tm.rows_eq, Cs.rows_eq, q1])
  repeat (first | refine AWp.seq ?_ | refine AWp.block ?_)
  refine AWp.cond rfl (fun hc => ?_) (fun hc => ?_)
  · have hi1 : i < txs.length := by have := of_decide_eq_true hc; omega
    clear hc
    have h1y : txs[i]? = some txs[i] := List.getElem?_eq_getElem hi1
    have hmy : txs[i] ∈ txs := List.getElem_mem hi1
    have hdy : txs.drop i = txs[i] :: txs.drop (i + 1) := List.drop_eq_getElem_cons hi1
    generalize txs[i] = y at h1y hmy hdy
    rw [hdy, Tm.bdL] at hw
    have hlw := congrArg List.length hw
    simp only [List.length_append] at hlw
    have hx := ih y (hxr y hmy) b (by omega)
    obtain ⟨b2, hb2⟩ : ∃ z, z = b ++ y.bd := ⟨_, rfl⟩
    rw [← hb2] at hx
    have hw2 : R = b2 ++ (Tm.bdL (txs.drop (i + 1)) ++ Cs.bdL tcs) := by rw [hw, hb2]; simp only [List.append_assoc]
    obtain ⟨yk, yn, ya, yb, yvs, yxs, ycs⟩ := y
    dsimp only [tmAV] at hx
    refine AWp.skip ?_
    refine AWp.rg [] [] ?_ (hr := by conv => lhs; simp [loObj, Tm.row, Tm.rows_eq, Cs.rows_eq, h1y, q1])
    refine AWp.rg [] [.c [] [.agg [.d (.int yk), .d (.int yn), .d (.str ya), .d (.str yb), .d (strsD yvs), .d (.sl (yxs.map Tm.row)), .d (.sl (ycs.map Cs.row))], .ptr 1000 0, .ptr 1001 0] [(500, .arr 9 1 (b.map strR)), (1000, .blk 30 [.arr 500 0 b.length]), (1001, .blk 38 [.clo 22 [.ptr 1000 0, .ptr 1001 0]])] (.tuple []) [(500, .arr 9 1 (b2.map strR)), (1000, .blk 30 [.arr 500 0 b2.length]), (1001, .blk 38 [.clo 22 [.ptr 1000 0, .ptr 1001 0]])]] ?_ (hr := by conv => lhs; simp [loObj, Tm.row, Tm.rows_eq, Cs.rows_eq, h1y, q1])
    refine AWp.rg [] [] ?_ (hr := by conv => lhs; simp [loObj, Tm.row, Tm.rows_eq, Cs.rows_eq, h1y, q1])
    refine ⟨⟨(i + 1, b2), hi1, hw2⟩, by simp; omega, ?_⟩
    dsimp only
    exact Le.sub (by simp) (by simp)
  have hi1 : i = txs.length := by have := of_decide_eq_false hc; omega
  subst hi1
  clear hc
  rw [List.drop_length, Tm.bdL, List.nil_append] at hw
  refine AWp.exit ?_
  refine AWp.rg [] [] ?_ (hr := by conv => lhs; simp [loObj, Tm.row, Tm.rows_eq, Cs.rows_eq, q1])
  repeat (first | refine AWp.seq ?_ | refine AWp.block ?_)
  refine AWp.loop (σ := fun u : {u : Nat × List ByteArray // u.1 ≤ tcs.length ∧ R = u.2 ++ Cs.bdL (tcs.drop u.1)} => ⟨43, [(1, .ptr 1000 0), (2, .ptr 1001 0), (28, .d (.sl (tcs.map Cs.row))), (29, .d (.int (tcs.length : Int))), (30, .d (.int (u.1.1 : Int)))], [(500, some (.arr 9 1 (u.1.2.map strR))), (1000, some (.blk 30 [.arr 500 0 u.1.2.length])), (1001, some (.blk 38 [.clo 22 [.ptr 1000 0, .ptr 1001 0]]))]⟩)
    (μ := fun u => tcs.length - u.1.1) ⟨(0, b), ⟨Nat.zero_le _, by rw [List.drop_zero]; exact hw⟩⟩ (Le.sub (by simp) (by simp)) (fun ⟨(j, d), ⟨hi9, hw⟩⟩ => ?_)
  dsimp only at hi9 hw ⊢
  refine AWp.rg [] [] ?_ (hr := by conv => lhs; simp [loObj, Tm.row, Tm.rows_eq, Cs.rows_eq, q1])
  repeat (first | refine AWp.seq ?_ | refine AWp.block ?_)
  refine AWp.cond rfl (fun hc => ?_) (fun hc => ?_)
  · have hi1 : j < tcs.length := by have := of_decide_eq_true hc; omega
    clear hc
    have h1c : tcs[j]? = some tcs[j] := List.getElem?_eq_getElem hi1
    have hmc : tcs[j] ∈ tcs := List.getElem_mem hi1
    have hdc : tcs.drop j = tcs[j] :: tcs.drop (j + 1) := List.drop_eq_getElem_cons hi1
    generalize tcs[j] = c at h1c hmc hdc
    rw [hdc, Cs.bdL] at hw
    have hcs := (hcr c hmc).2
    obtain ⟨ct, cvs, cy⟩ := c
    rw [Cs.bd] at hw
    change cy.Rt N at hcs
    have hlw := congrArg List.length hw
    simp only [List.length_append] at hlw
    obtain ⟨u, hu⟩ : ∃ z, z = d ++ cvs := ⟨_, rfl⟩
    have hmu : List.map strR d ++ List.map strR cvs = List.map strR u := by rw [hu]; simp
    have hul : d.length + cvs.length = u.length := by rw [hu]; simp
    have hx := ih cy hcs u (by omega)
    obtain ⟨b2, hb2⟩ : ∃ z, z = u ++ cy.bd := ⟨_, rfl⟩
    rw [← hb2] at hx
    have hw2 : R = b2 ++ Cs.bdL (tcs.drop (j + 1)) := by rw [hw, hb2, hu]; simp only [List.append_assoc]
    obtain ⟨yk, yn, ya, yb, yvs, yxs, ycs⟩ := cy
    dsimp only [tmAV] at hx
    refine AWp.skip ?_
    refine AWp.rg [] [] ?_ (hr := by conv => lhs; simp [loObj, Tm.row, Tm.rows_eq, Cs.rows_eq, h1c, Cs.row, q1])
    refine AWp.rg [] [] ?_ (hr := by conv => lhs; simp [loObj, Tm.row, Tm.rows_eq, Cs.rows_eq, h1c, Cs.row, hmu, hul, q1])
    refine AWp.rg [] [.c [] [.agg [.d (.int yk), .d (.int yn), .d (.str ya), .d (.str yb), .d (strsD yvs), .d (.sl (yxs.map Tm.row)), .d (.sl (ycs.map Cs.row))], .ptr 1000 0, .ptr 1001 0] [(500, .arr 9 1 (u.map strR)), (1000, .blk 30 [.arr 500 0 u.length]), (1001, .blk 38 [.clo 22 [.ptr 1000 0, .ptr 1001 0]])] (.tuple []) [(500, .arr 9 1 (b2.map strR)), (1000, .blk 30 [.arr 500 0 b2.length]), (1001, .blk 38 [.clo 22 [.ptr 1000 0, .ptr 1001 0]])]] ?_ (hr := by conv => lhs; simp [loObj, Tm.row, Tm.rows_eq, Cs.rows_eq, h1c, Cs.row, q1])
    refine AWp.rg [] [] ?_ (hr := by conv => lhs; simp [loObj, Tm.row, Tm.rows_eq, Cs.rows_eq, h1c, Cs.row, q1])
    refine ⟨⟨(j + 1, b2), hi1, hw2⟩, by simp; omega, ?_⟩
    dsimp only
    exact Le.sub (by simp) (by simp)
  have hi1 : j = tcs.length := by have := of_decide_eq_false hc; omega
  subst hi1
  clear hc
  rw [List.drop_length, Cs.bdL, List.append_nil] at hw
  refine AWp.exit ?_
  rw [hw]
  try dsimp only [thenQ, blockQ]
  apply endC.normal
  · rfl
  · conv => lhs; simp [resAV, Tryd.results22]
  · rfl
  · simp [moEnd, memGet, loObj]
theorem look_all : ∀ N, LookN N
  | 0 => fun _ h => h.elim
  | N + 1 => look_step N (look_all N)
end Go.Proofs.YtapiiklnnkkdlaaDoor

namespace Go.Proofs.YtapiiklnnkkdlaaDoor
open Go.RowKit
set_option linter.unusedVariables false
set_option linter.unusedSimpArgs false
structure EntS (l : List (D × List D)) : Prop where
  form : ∀ p ∈ l, ∃ (s : ByteArray) (r : List D), p = (.str s, r)
  nodup : l.Pairwise fun p q => D.keq p.1 q.1 = false
theorem keq_str (a b : ByteArray) : D.keq (.str a) (.str b) = decide (a = b) := rfl
theorem EntS.nil : EntS [] := ⟨(fun p hp => by cases hp), List.Pairwise.nil⟩
theorem EntS.put {l : List (D × List D)} (h : EntS l) (s : ByteArray) (r : List D) : EntS (D.aput (.str s) r l) := by
  refine ⟨fun p hp => ?_, D.aput_nodup _ _ h.nodup⟩
  rcases List.mem_cons.1 hp with rfl | hp
  · exact ⟨s, r, rfl⟩
  · exact h.form p (List.mem_filter.1 hp).1
theorem EntS.del {l : List (D × List D)} (h : EntS l) (s : ByteArray) : EntS (D.adel (.str s) l) := ⟨fun p hp => h.form p (List.mem_filter.1 hp).1, D.adel_nodup _ h.nodup⟩
theorem EntS.mem {l : List (D × List D)} (h : EntS l) {s : ByteArray} {r : List D} : (D.str s, r) ∈ l ↔ D.aget (.str s) l = some r := by
  constructor
  · intro hm
    obtain ⟨j, hj⟩ := List.mem_iff_getElem?.1 hm
    exact D.aget_some (ks := true) rfl h.nodup hj
  · exact fun hg => D.aget_mem hg
theorem aput_same {s : ByteArray} {r : List D} {l : List (D × List D)} : D.aget (.str s) (D.aput (.str s) r l) = some r := D.aput_get _ (ks := true) rfl _ _
theorem aput_other {s t : ByteArray} (h : ¬ t = s) {r : List D} {l : List (D × List D)} : D.aget (.str s) (D.aput (.str t) r l) = D.aget (.str s) l := D.aput_get_ne (by rw [keq_str]; exact decide_eq_false h) _ _
theorem EntS.nd {l : List (D × List D)} (h : EntS l) : l.Nodup := by
  refine h.nodup.imp_of_mem fun {a b} ha hb hk e => ?_
  subst e
  obtain ⟨s, r, rfl⟩ := h.form a ha
  rw [keq_str] at hk
  simp at hk
theorem EntS.perm {l l' : List (D × List D)} (h : EntS l) (h' : EntS l') (hg : ∀ s, D.aget (.str s) l = D.aget (.str s) l') : l.Perm l' := by
  refine (List.perm_ext_iff_of_nodup h.nd h'.nd).2 fun p => ⟨fun hp => ?_, fun hp => ?_⟩
  · obtain ⟨s, r, rfl⟩ := h.form p hp
    exact h'.mem.2 (by rw [← hg s]; exact h.mem.1 hp)
  · obtain ⟨s, r, rfl⟩ := h'.form p hp
    exact h.mem.2 (by rw [hg s]; exact h'.mem.1 hp)
theorem EntS.of_perm {l l' : List (D × List D)} (h : EntS l) (hp : l.Perm l') : EntS l' := ⟨fun p hm => h.form p (hp.mem_iff.2 hm), (hp.pairwise_iff fun {a b} hab => by rw [D.keq_symm]; exact hab).1 h.nodup⟩
theorem aget_perm {l l' : List (D × List D)} (h : EntS l) (hp : l.Perm l') (s : ByteArray) : D.aget (.str s) l = D.aget (.str s) l' := by
  cases hg : D.aget (.str s) l' with
  | some r => exact h.mem.1 (hp.mem_iff.2 ((h.of_perm hp).mem.2 hg))
  | none =>
    cases hg2 : D.aget (.str s) l with
    | none => rfl
    | some r =>
      have := (h.of_perm hp).mem.1 (hp.mem_iff.1 (h.mem.2 hg2))
      rw [hg] at this
      cases this
structure Mid (bents : List (Nat × D × List D)) (O0 : List (D × List D)) (seen : List Nat) (O : List (D × List D)) : Prop where
  ents : EntS O
  get : ∀ s r, D.aget (.str s) O = some r ↔ (∃ k, (k, D.str s, r) ∈ bents ∧ k ∈ seen) ∨ ((¬ ∃ k r', (k, D.str s, r') ∈ bents ∧ k ∈ seen) ∧ D.aget (.str s) O0 = some r)
theorem births_one {bents : List (Nat × D × List D)} {l : List (D × List D)} (hp : (bents.map (·.2)).Perm l) (hl : EntS l) {k k' : Nat} {s : ByteArray} {r r' : List D} (h : (k, D.str s, r) ∈ bents) (h' : (k', D.str s, r') ∈ bents) : r = r' := by
  have e : ∀ {k r}, (k, D.str s, r) ∈ bents → D.aget (.str s) l = some r := fun {k r} hm => hl.mem.1 (hp.mem_iff.1 (List.mem_map.2 ⟨_, hm, rfl⟩))
  have := e h
  rw [e h'] at this
  exact (Option.some.inj this).symm
theorem Mid.step {bents : List (Nat × D × List D)} {l O0 : List (D × List D)} {seen : List Nat} {O : List (D × List D)} (h : Mid bents O0 seen O) (hp : (bents.map (·.2)).Perm l) (hl : EntS l) (hn : (bents.map (·.1)).Nodup) {k : Nat} {t : ByteArray} {row : List D} (hm : (k, D.str t, row) ∈ bents) : Mid bents O0 (seen ++ [k]) (D.aput (.str t) row O) := by
  refine ⟨h.ents.put t row, fun s r => ?_⟩
  by_cases e : t = s
  · subst e
    rw [aput_same]
    constructor
    · rintro ⟨rfl⟩
      exact .inl ⟨k, hm, by simp⟩
    · rintro (⟨k', h1, _⟩ | ⟨h1, _⟩)
      · rw [births_one hp hl hm h1]
      · exact absurd ⟨k, row, hm, by simp⟩ h1
  · rw [aput_other e, h.get s r]
    have hk : ∀ {k' r'}, (k', D.str s, r') ∈ bents → k' ∈ seen ++ [k] → (bents.map (·.1)).Nodup → k' ∈ seen := fun {k' r'} h1 h2 hn => by
      rcases List.mem_append.1 h2 with h2 | h2
      · exact h2
      · exfalso
        rw [List.mem_singleton.1 h2] at h1
        obtain ⟨i, hi⟩ := List.mem_iff_getElem?.1 h1
        obtain ⟨j, hj⟩ := List.mem_iff_getElem?.1 hm
        have e1 : (bents.map (·.1))[i]? = some k := by rw [List.getElem?_map, hi]; rfl
        have e2 : (bents.map (·.1))[j]? = some k := by rw [List.getElem?_map, hj]; rfl
        have hij : i = j := (List.getElem?_inj (List.getElem?_eq_some_iff.1 e1).1 hn).1 (e1.trans e2.symm)
        subst hij
        rw [hi] at hj
        simp only [Option.some.injEq, Prod.mk.injEq, D.str.injEq] at hj
        exact e hj.2.1.symm
    constructor
    · rintro (⟨k', h1, h2⟩ | ⟨h1, h2⟩)
      · exact .inl ⟨k', h1, by simp [h2]⟩
      · exact .inr ⟨fun ⟨k', r', h3, h4⟩ => h1 ⟨k', r', h3, hk h3 h4 hn⟩, h2⟩
    · rintro (⟨k', h1, h2⟩ | ⟨h1, h2⟩)
      · exact .inl ⟨k', h1, hk h1 h2 hn⟩
      · exact .inr ⟨fun ⟨k', r', h3, h4⟩ => h1 ⟨k', r', h3, by simp [h4]⟩, h2⟩
theorem Mid.over {bents : List (Nat × D × List D)} {l O0 : List (D × List D)} {seen : List Nat} {O : List (D × List D)} (h : Mid bents O0 seen O) (hp : (bents.map (·.2)).Perm l) (hl : EntS l) (ha : ∀ p ∈ bents, p.1 ∈ seen) (s : ByteArray) : D.aget (.str s) O = (D.aget (.str s) l).or (D.aget (.str s) O0) := by
  have hb : ∀ r, (∃ k, (k, D.str s, r) ∈ bents ∧ k ∈ seen) ↔ D.aget (.str s) l = some r := fun r => by
    rw [← hl.mem, ← hp.mem_iff, List.mem_map]
    constructor
    · rintro ⟨k, h1, _⟩; exact ⟨_, h1, rfl⟩
    · rintro ⟨⟨k, q⟩, h1, h2⟩
      dsimp only at h2
      subst h2
      exact ⟨k, h1, ha _ h1⟩
  apply Option.ext
  intro r
  rw [h.get s r, hb r]
  cases hg : D.aget (.str s) l with
  | some r' =>
    simp only [Option.some_or]
    constructor
    · rintro (h1 | ⟨h1, _⟩)
      · exact h1
      · exfalso
        obtain ⟨k, h2, h3⟩ := (hb r').2 hg
        exact h1 ⟨k, r', h2, h3⟩
    · exact fun h1 => .inl h1
  | none =>
    simp only [Option.none_or]
    constructor
    · rintro (h1 | ⟨_, h1⟩)
      · cases h1
      · exact h1
    · refine fun h1 => .inr ⟨fun ⟨k, r', h2, h3⟩ => ?_, h1⟩
      have := (hb r').1 ⟨k, h2, h3⟩
      rw [hg] at this
      cases this
end Go.Proofs.YtapiiklnnkkdlaaDoor

namespace Go.Proofs.YtapiiklnnkkdlaaDoor
open Go.RowKit
attribute [local simp] runD mkRc ldOf stOf stOk ldArg noAny dstOk guardOk opEff opEff0 effOp pureOp callOp zEff evA constAV scalAV Value.oneCell' frGet memGet startAS frOf isGoCall idIn AS.after nextR opnIds objIds AV.ids idsL AObj.ids frNo memNo opnAny isAny mkVal rdCells wrCells fldAddr idxAddr srcRows litRows toD1 toDs setAt sliceAV optI partAV bldAV fillAV binAV binI AV.cells callEff calleeOf frKill memKill AV.kill AObj.kill AV.has AV.hasL Op.operands Call.operands keepF keepM viewIds cChk renOf moGet moWs moQ cEff moLike moHave AV.ren renL AObj.ren AObj.like kept startC moMem AV.frz frz1 frzL frSub memSub frzs AS.frz frFrz memFrz AObj.frz takeMap takeLen bleF Nat.ble_eq memAny objAny mapOp D.keyOk rowAV valRow extOp wrapOp phO
set_option linter.unusedVariables false
set_option linter.unusedSimpArgs false
def sawD : List ByteArray → List (D × List D)
  | [] => []
  | x :: r => D.aput (.str x) [.bool true] (sawD r)
@[simp] theorem sawD_nil : sawD [] = [] := rfl
theorem saw_get : ∀ (l : List ByteArray) (s : ByteArray), ¬ s ∈ l → D.aget (.str s) (sawD l) = none
  | [], _, _ => rfl
  | x :: r, s, h => by
    rw [sawD, aput_other (fun e => h (by rw [e]; exact List.mem_cons_self ..))]
    exact saw_get r s fun hm => h (List.mem_cons_of_mem _ hm)
theorem take_notin {l : List ByteArray} {j : Nat} {s : ByteArray} (h : l.Nodup) (h1 : l[j]? = some s) : ¬ s ∈ l.take j := fun hm => by
  obtain ⟨i, hi, he⟩ := List.mem_iff_getElem.1 hm
  obtain ⟨hj, hs⟩ := List.getElem?_eq_some_iff.1 h1
  rw [List.length_take] at hi
  have := List.pairwise_iff_getElem.1 h i j (by omega) hj (by omega)
  rw [List.getElem_take] at he
  exact this (he.trans hs.symm)
theorem rn_rn_map {l : List Fn} (hl : FnsOk l) (h : checkE l = 0) : (l.map Fn.rn).map Fn.rn = l.map Fn.rn := by
  rw [List.map_map]
  exact List.map_congr_left fun x hx => x.rn_rn (right_all hl h x hx).2.1
theorem rn_nodup {l : List Fn} (hl : FnsOk l) (h : checkE l = 0) : ∀ f ∈ l.map Fn.rn, f.bd.Nodup ∧ f.bd.length ≤ 1048576 ∧ f.body.Rt 25 := fun f hf => by
  obtain ⟨x, hx, rfl⟩ := List.mem_map.1 hf
  have hr := (right_all hl h x hx).2.1
  have hR := (check_zero h).2.2.2 x hx
  have hb := bd_le 25 x.body hr
  have hb2 := bd_le 25 x.rn.body (x.rn_rt hr)
  have h1 := hR.sz
  have h2 := (hR.rn hr).sz
  have h3 := hR.params
  have h4 := (hR.rn hr).params
  exact ⟨x.rn_bd hr (by unfold Fn.bd; rw [List.length_append]; omega), by unfold Fn.bd; rw [List.length_append]; omega, x.rn_rt hr⟩
set_option maxRecDepth 20000 in
set_option maxHeartbeats 16000000 in
theorem sp_NamesOnce (l : List Fn) (hl : FnsOk l) : PSpec Tryd.prog 4 [fnsAV l] (fun _ => .d (.bool true)) none := by
  have hal := sp_alive4
  have hkl := sp_refCheck l hl
  obtain ⟨cl, hcl⟩ : ∃ c, c = checkE l := ⟨_, rfl⟩
  rw [← hcl] at hkl
  refine PSpec.of Tryd.func4 rfl rfl rfl (Nat.le_of_ble_eq_true rfl) ?_
  show AWp _ _ (endQ _ Tryd.f4 _ _ _) (startAS 56 _)
  refine AWp.rg [] [] ?_ (hr := by conv => lhs; simp [Fn.row, Tm.row, Tm.rows_eq, Cs.rows_eq, Tryd.underlying4])
  refine AWp.rg [] [.p (fun _ => .d (.bool true)) none] ?_ (hr := by conv => lhs; simp [Fn.row, Tm.row, Tm.rows_eq, Cs.rows_eq, Tryd.underlying4])
  refine AWp.cn ?_
  refine AWp.skip ?_
  by_cases q1 : cl = 0
  · have q1t := eq_true q1
    refine AWp.rg [] [.p (fun _ => .d (.int cl)) none] ?_ (hr := by conv => lhs; simp [Fn.row, Tm.row, Tm.rows_eq, Cs.rows_eq, Tryd.underlying4, q1t])
    refine AWp.cn ?_
    refine AWp.skip ?_
    have hc0 : checkE l = 0 := hcl.symm.trans q1
    have hall := sp_All l hl.len (right_all hl hc0)
    have hmO := rn_fns hl hc0
    have hc1 := check_rn hl hc0
    have hall2 := sp_All (l.map Fn.rn) hmO.len (right_all hmO hc1)
    rw [rn_rn_map hl hc0] at hall2
    have hsf := sp_SameFns (l.map Fn.rn) (l.map Fn.rn) hmO.len hmO.fn
    rw [eqB_self] at hsf
    have hml : (l.map Fn.rn).length = l.length := List.length_map ..
    have hll := hl.len
    have hnd := rn_nodup hl hc0
    generalize l.map Fn.rn = m at *
    refine AWp.rg [] [.p (fun _ => .d (.sl (m.map Fn.row))) none] ?_ (hr := by conv => lhs; simp [Fn.row, Tm.row, Tm.rows_eq, Cs.rows_eq, Tryd.underlying4, q1t])
    by_cases q2 : (m.length : Int) = (l.length : Int)
    · have q2t := eq_true q2
      refine AWp.rg [] [] ?_ (hr := by conv => lhs; simp [Fn.row, Tm.row, Tm.rows_eq, Cs.rows_eq, Tryd.underlying4, q1t, q2t])
      refine AWp.cn ?_
      refine AWp.skip ?_
      refine AWp.rg [] [] ?_ (hr := by conv => lhs; simp [Fn.row, Tm.row, Tm.rows_eq, Cs.rows_eq, Tryd.underlying4, q1t, q2t])
      repeat (first | refine AWp.seq ?_ | refine AWp.block ?_)
      refine AWp.loop (σ := fun u : {u : Nat // u ≤ m.length} => ⟨56, [(3, .d (.sl (m.map Fn.row))), (23, .d (.sl (m.map Fn.row))), (24, .d (.int (m.length : Int))), (25, .d (.int (u.1 : Int)))], []⟩)
        (μ := fun u => m.length - u.1) ⟨0, Nat.zero_le _⟩ (Le.sub (by simp) (by simp)) (fun ⟨i, hi9⟩ => ?_)
      dsimp only
      refine AWp.rg [] [] ?_ (hr := by conv => lhs; simp [Fn.row, Tm.row, Tm.rows_eq, Cs.rows_eq, Tryd.underlying4, q1t, q2t])
      repeat (first | refine AWp.seq ?_ | refine AWp.block ?_)
      refine AWp.cond rfl (fun hc => ?_) (fun hc => ?_)
      · have hi1 : i < m.length := by have := of_decide_eq_true hc; omega
        clear hc
        have h1f : m[i]? = some m[i] := List.getElem?_eq_getElem hi1
        have hmf : m[i] ∈ m := List.getElem_mem hi1
        have hdf : m.drop i = m[i] :: m.drop (i + 1) := List.drop_eq_getElem_cons hi1
        generalize m[i] = f at h1f hmf hdf
        obtain ⟨hBn, hBl, hrt⟩ := hnd f hmf
        rw [Fn.bd] at hBn hBl
        have hlk := look_all 25 f.body hrt f.params (by rw [← List.length_append]; exact hBl)
        obtain ⟨B, hB⟩ : ∃ B, B = f.params ++ f.body.bd := ⟨_, rfl⟩
        rw [← hB] at hBn hBl hlk
        have hpl : f.params.length ≤ 1048576 := by rw [hB, List.length_append] at hBl; omega
        clear hrt hB
        obtain ⟨fg, fps, ⟨fk, fn, fa, fb, fvs, fxs, fcs⟩⟩ := f
        dsimp only [tmAV] at hlk hpl
        refine AWp.skip ?_
        refine AWp.rg [] [] ?_ (hr := by conv => lhs; simp [Fn.row, Tm.row, Tm.rows_eq, Cs.rows_eq, Tryd.underlying4, h1f, q1t, q2t])
        refine AWp.rg [] [] ?_ (hr := by conv => lhs; simp [Fn.row, Tm.row, Tm.rows_eq, Cs.rows_eq, Tryd.underlying4, h1f, q1t, q2t])
        refine AWp.rg [] [] ?_ (hr := by conv => lhs; simp [Fn.row, Tm.row, Tm.rows_eq, Cs.rows_eq, Tryd.underlying4, h1f, q1t, q2t])
        refine AWp.rg [] [] ?_ (hr := by conv => lhs; simp [Fn.row, Tm.row, Tm.rows_eq, Cs.rows_eq, Tryd.underlying4, h1f, q1t, q2t])
        refine AWp.rg [] [] ?_ (hr := by conv => lhs; simp [Fn.row, Tm.row, Tm.rows_eq, Cs.rows_eq, Tryd.underlying4, h1f, q1t, q2t])
        refine AWp.rg [] [.c [(500, 30), (1000, 7), (1001, 8)] [.agg [.d (.int fk), .d (.int fn), .d (.str fa), .d (.str fb), .d (strsD fvs), .d (.sl (fxs.map Tm.row)), .d (.sl (fcs.map Cs.row))], .ptr 1000 0, .ptr 1001 0] [(500, .arr 9 1 (fps.map strR)), (1000, .blk 30 [.arr 500 0 fps.length]), (1001, .blk 38 [.clo 22 [.ptr 1000 0, .ptr 1001 0]])] (.tuple []) [(500, .arr 9 1 (B.map strR)), (1000, .blk 30 [.arr 500 0 B.length]), (1001, .blk 38 [.clo 22 [.ptr 1000 0, .ptr 1001 0]])]] ?_ (hr := by conv => lhs; simp [Fn.row, Tm.row, Tm.rows_eq, Cs.rows_eq, Tryd.underlying4, h1f, q1t, q2t])
        apply AWp.frzs [30]
        · conv => lhs; simp
        refine AWp.rg [] [] ?_ (hr := by conv => lhs; simp [Fn.row, Tm.row, Tm.rows_eq, Cs.rows_eq, Tryd.underlying4, h1f, q1t, q2t])
        repeat (first | refine AWp.seq ?_ | refine AWp.block ?_)
        refine AWp.loop (σ := fun u : {u : Nat × List ByteArray // u.1 ≤ B.length ∧ ∀ x ∈ u.2, x ∈ B.take u.1} => ⟨56, [(3, .d (.sl (m.map Fn.row))), (6, .mp 29), (23, .d (.sl (m.map Fn.row))), (24, .d (.int (m.length : Int))), (25, .d (.int (i : Int))), (39, .d (strsD B)), (40, .d (.int (B.length : Int))), (41, .d (.int (u.1.1 : Int)))], [(29, some (.map true false 1 (sawD u.1.2)))]⟩)
          (μ := fun u => B.length - u.1.1) ⟨(0, []), ⟨Nat.zero_le _, by simp⟩⟩ (Le.sub (by simp) (by simp)) (fun ⟨(j, hs), ⟨hi17, hw⟩⟩ => ?_)
        dsimp only at hi17 hw ⊢
        refine AWp.rg [] [] ?_ (hr := by conv => lhs; simp [Fn.row, Tm.row, Tm.rows_eq, Cs.rows_eq, Tryd.underlying4, h1f, q1t, q2t])
        repeat (first | refine AWp.seq ?_ | refine AWp.block ?_)
        refine AWp.cond rfl (fun hc => ?_) (fun hc => ?_)
        · have hi1 : j < B.length := by have := of_decide_eq_true hc; omega
          clear hc
          have h1s : B[j]? = some B[j] := List.getElem?_eq_getElem hi1
          have hms : B[j] ∈ B := List.getElem_mem hi1
          have hds : B.drop j = B[j] :: B.drop (j + 1) := List.drop_eq_getElem_cons hi1
          generalize B[j] = s at h1s hms hds
          have hag := saw_get hs s (fun h => take_notin hBn h1s (hw s h))
          have hput : D.aput (.str s) [.bool true] (sawD hs) = sawD (s :: hs) := rfl
          have hw2 : ∀ x ∈ s :: hs, x ∈ B.take (j + 1) := fun x hx => by
            rw [List.take_add_one, h1s]
            rcases List.mem_cons.1 hx with rfl | hx
            · simp
            · exact List.mem_append_left _ (hw x hx)
          refine AWp.skip ?_
          refine AWp.rg [] [] ?_ (hr := by conv => lhs; simp [Fn.row, Tm.row, Tm.rows_eq, Cs.rows_eq, Tryd.underlying4, h1f, h1s, q1t, q2t])
          refine AWp.rg [] [] ?_ (hr := by conv => lhs; simp [Fn.row, Tm.row, Tm.rows_eq, Cs.rows_eq, Tryd.underlying4, h1f, h1s, hag, q1t, q2t])
          refine AWp.cn ?_
          refine AWp.skip ?_
          refine AWp.rg [] [] ?_ (hr := by conv => lhs; simp [Fn.row, Tm.row, Tm.rows_eq, Cs.rows_eq, Tryd.underlying4, h1f, h1s, hput, q1t, q2t])
          refine AWp.rg [] [] ?_ (hr := by conv => lhs; simp [Fn.row, Tm.row, Tm.rows_eq, Cs.rows_eq, Tryd.underlying4, h1f, h1s, q1t, q2t])
          refine ⟨⟨(j + 1, s :: hs), hi1, hw2⟩, by simp; omega, ?_⟩
          dsimp only
          exact Le.sub (by simp) (by simp)
        have hi1 : j = B.length := by have := of_decide_eq_false hc; omega
        subst hi1
        clear hc
        refine AWp.exit ?_
        refine AWp.rg [] [] ?_ (hr := by conv => lhs; simp [Fn.row, Tm.row, Tm.rows_eq, Cs.rows_eq, Tryd.underlying4, h1f, q1t, q2t])
        refine ⟨⟨i + 1, hi1⟩, by simp; omega, ?_⟩
        dsimp only
        exact Le.sub (by simp) (by simp)
      have hi1 : i = m.length := by have := of_decide_eq_false hc; omega
      subst hi1
      clear hc
      refine AWp.exit ?_
      refine AWp.rg [] [.p (fun _ => .d (.sl (m.map Fn.row))) none, .p (fun _ => .d (.bool true)) none] ?_ (hr := by conv => lhs; simp [Fn.row, Tm.row, Tm.rows_eq, Cs.rows_eq, Tryd.underlying4, q1t, q2t])
      refine AWp.ret ?_
      try dsimp only [thenQ, blockQ]
      apply endQ.ret
      · rfl
      · conv => lhs; simp [resAV, Tryd.results4]
      first | rfl | simp [resVal]
    exfalso
    omega
  refine AWp.rg [] [.p (fun _ => .d (.int cl)) none] ?_ (hr := by conv => lhs; simp [Fn.row, Tm.row, Tm.rows_eq, Cs.rows_eq, Tryd.underlying4, q1])
  refine AWp.cy ?_
  refine AWp.rg [] [] ?_ (hr := by conv => lhs; simp [Fn.row, Tm.row, Tm.rows_eq, Cs.rows_eq, Tryd.underlying4, q1])
  refine AWp.ret ?_
  try dsimp only [thenQ, blockQ]
  apply endQ.ret
  · rfl
  · conv => lhs; simp [resAV, Tryd.results4]
  first | rfl | simp [resVal]
end Go.Proofs.YtapiiklnnkkdlaaDoor
