import Derived.Test.YtapiiklnnkkdlaaDoorPlainC
/- xcref4.Owned, OwnedFn; Each. Printed by a small program. -/
namespace Go.Proofs.YtapiiklnnkkdlaaDoor
open Go.RowKit
attribute [local simp] runD mkRc ldOf stOf stOk ldArg noAny dstOk guardOk opEff opEff0 effOp pureOp callOp zEff evA constAV scalAV Value.oneCell' frGet memGet startAS frOf isGoCall idIn AS.after nextR opnIds objIds AV.ids idsL AObj.ids frNo memNo opnAny isAny mkVal rdCells wrCells fldAddr idxAddr srcRows litRows toD1 toDs setAt sliceAV optI partAV bldAV fillAV binAV binI AV.cells callEff calleeOf frKill memKill AV.kill AObj.kill AV.has AV.hasL Op.operands Call.operands keepF keepM viewIds cChk renOf moGet moWs moQ cEff moLike moHave AV.ren renL AObj.ren AObj.like kept startC moMem AV.frz frz1 frzL frSub memSub frzs AS.frz frFrz memFrz AObj.frz takeMap takeLen bleF Nat.ble_eq memAny objAny mapOp D.keyOk rowAV valRow extOp wrapOp phO frLow memLow memLow1 objLow memEmpty Low LowL
set_option linter.unusedVariables false
set_option linter.unusedSimpArgs false
theorem tmrl2 (a : Tm) : a.row.length = 7 := by cases a; simp [Tm.row]
def OdN (N : Nat) : Prop := ∀ (t : Tm) (has : List ByteArray), t.Rt N → t.Fit → has.length + 6 * N ≤ 100000 → (∀ s ∈ has, s.size ≤ 140737488355328) →
  PSpec Tryd.prog 100 [tmAV t, strsAV has] (fun _ => tmAV (t.ow has)) none
set_option maxRecDepth 20000 in
set_option maxHeartbeats 16000000 in
theorem od_step (N : Nat) (ih : OdN N) : OdN (N + 1) := by
  intro t has hRt hF hhl hhs
  obtain ⟨R, hR⟩ : ∃ R, R = t.ow has := ⟨_, rfl⟩
  rw [← hR]
  obtain ⟨rk, rn, ra, rb, rvs, rxs, rcs⟩ := R
  have hfr := sp_refFree t hF
  have hfl : t.free.length ≤ 1048576 := Nat.le_trans (Tm.free_len t) hF.sz
  obtain ⟨tk, tn, ta, tb, tvs, txs, tcs⟩ := t
  obtain ⟨hkk, hmany, h6, hxR, hcR⟩ := hRt
  have hxF : ∀ x ∈ txs, x.Fit := fun x hx => hF.arg hx
  rw [Tm.ow] at hR
  generalize (Tm.mk tk tn ta tb tvs txs tcs).free = fr at hfr hfl hR
  have hou := sp_pickO has fr (by omega) (by omega)
  have hin := sp_pickI has fr (by omega) (by omega)
  have hGl := woN_len has fr
  have hol := inN_len has fr
  have hos : ∀ s ∈ inN has fr, s.size ≤ 140737488355328 := fun s hs => hhs s (List.mem_filter.1 hs).1
  generalize woN has fr = G at hou hGl hR
  generalize inN has fr = own at hin hol hos hR
  refine PSpec.of Tryd.func100 rfl rfl rfl (Nat.le_of_ble_eq_true rfl) ?_
  show AWp _ _ (endQ _ Tryd.f100 _ _ _) (startAS 186 _)
  refine AWp.rg [] [] ?_ (hr := by conv => lhs; simp [Tm.row, Tm.rows_eq, Cs.rows_eq])
  refine AWp.rg [1] [.p (fun d => .arr d 0 fr.length) (some (.arr 9 1 (fr.map strR)))] ?_ (hr := by conv => lhs; simp [Tm.row, Tm.rows_eq, Cs.rows_eq])
  refine AWp.rg [] [.p (fun _ => .d (strsD G)) none, .p (fun _ => .d (strsD own)) none] ?_ (hr := by conv => lhs; simp [Tm.row, Tm.rows_eq, Cs.rows_eq])
  refine AWp.rg [] [] ?_ (hr := by conv => lhs; simp [Tm.row, Tm.rows_eq, Cs.rows_eq])
  refine AWp.rg [] [] ?_ (hr := by conv => lhs; simp [Tm.row, Tm.rows_eq, Cs.rows_eq])
  by_cases q1 : tk = 3
  · refine AWp.rg [] [] ?_ (hr := by conv => lhs; simp [Tm.row, Tm.rows_eq, Cs.rows_eq, q1])
    refine AWp.cy ?_
    refine AWp.skip ?_
    refine AWp.cy ?_
    subst q1
    rw [if_pos (by omega)] at hR
    refine AWp.rg [] [] ?_ (hr := by conv => lhs; simp [Tm.row, Tm.rows_eq, Cs.rows_eq])
    refine AWp.rg [] [] ?_ (hr := by conv => lhs; simp [Tm.row, Tm.rows_eq, Cs.rows_eq])
    repeat (first | refine AWp.seq ?_ | refine AWp.block ?_)
    refine AWp.le (Le.low [400] [] (fr := [(2, .ptr 2 0), (4, .ptr 4 0), (6, .d (strsD G)), (7, .ptr 7 0), (8, .arr 400 0 ([] : List ByteArray).length), (37, .d (.sl (txs.map Tm.row))), (38, .d (.int (txs.length : Int))), (39, .d (.int (0 : Int)))]) (mem := [(2, some (.blk 34 [.d (.int 3), .d (.int tn), .d (.str ta), .d (.str tb), .d (strsD tvs), .d (.sl (txs.map Tm.row)), .d (.sl (tcs.map Cs.row))])), (4, some (.blk 34 [.d (.int 0), .d (.int 0), .d (.str ByteArray.empty), .d (.str ByteArray.empty), .lit (.slice none 0 0), .lit (.slice none 0 0), .lit (.slice none 0 0)])), (7, some (.blk 34 [.d (.int 3), .d (.int tn), .d (.str ta), .d (.str tb), .d (strsD tvs), .d (.sl (txs.map Tm.row)), .d (.sl (tcs.map Cs.row))])), (400, some (.arr 9 1 (([] : List ByteArray).map strR)))]) rfl (by simp) (by simp)) ?_
    refine AWp.loop (σ := fun u : {u : Nat × List ByteArray // u.1 ≤ txs.length ∧ (moreN [] txs = u.2 ++ moreN ((txs.take u.1).map Tm.nm) (txs.drop u.1) ∧ u.2.length ≤ u.1)} => ⟨186, [(2, .ptr 2 0), (4, .ptr 4 0), (6, .d (strsD G)), (7, .ptr 7 0), (8, .arr 400 0 u.1.2.length), (37, .d (.sl (txs.map Tm.row))), (38, .d (.int (txs.length : Int))), (39, .d (.int (u.1.1 : Int)))], [(2, some (.blk 34 [.d (.int 3), .d (.int tn), .d (.str ta), .d (.str tb), .d (strsD tvs), .d (.sl (txs.map Tm.row)), .d (.sl (tcs.map Cs.row))])), (4, some (.blk 34 [.d (.int 0), .d (.int 0), .d (.str ByteArray.empty), .d (.str ByteArray.empty), .lit (.slice none 0 0), .lit (.slice none 0 0), .lit (.slice none 0 0)])), (7, some (.blk 34 [.d (.int 3), .d (.int tn), .d (.str ta), .d (.str tb), .d (strsD tvs), .d (.sl (txs.map Tm.row)), .d (.sl (tcs.map Cs.row))])), (400, some (.arr 9 1 (u.1.2.map strR)))]⟩)
      (μ := fun u => txs.length - u.1.1) ⟨(0, []), ⟨Nat.zero_le _, ⟨by simp, Nat.le_refl _⟩⟩⟩ (Le.sub (by simp) (by simp)) (fun ⟨(i, us), ⟨hi10, hw⟩⟩ => ?_)
    dsimp only at hi10 hw ⊢
    refine AWp.rg [] [] ?_ (hr := by conv => lhs; simp [Tm.row, Tm.rows_eq, Cs.rows_eq])
    repeat (first | refine AWp.seq ?_ | refine AWp.block ?_)
    refine AWp.cond rfl (fun hc => ?_) (fun hc => ?_)
    · have hi1 : i < txs.length := by have := of_decide_eq_true hc; omega
      clear hc
      have h1y : txs[i]? = some txs[i] := List.getElem?_eq_getElem hi1
      have hmy : txs[i] ∈ txs := List.getElem_mem hi1
      have hdy : txs.drop i = txs[i] :: txs.drop (i + 1) := List.drop_eq_getElem_cons hi1
      generalize txs[i] = y at h1y hmy hdy
      obtain ⟨hap, hul⟩ := hw
      rw [hdy, moreN] at hap
      obtain ⟨yk, yn, ya, yb, yvs, yxs, ycs⟩ := y
      rw [Tm.nm] at hap
      obtain ⟨pt, hpt⟩ : ∃ pt, pt = txs.take i := ⟨_, rfl⟩
      have hptl : pt.length = i := by rw [hpt, List.length_take]; omega
      have hpr : List.take i (List.map Tm.row txs) = List.map Tm.row pt := by rw [hpt, List.map_take]
      rw [← hpt] at hap
      have htr : ∀ (i : Nat) (a : Tm), txs[i]? = some a → a.row.length = 7 := fun _ a _ => tmrl2 a
      have hi1o := hi1
      refine AWp.skip ?_
      refine AWp.rg [] [] ?_ (hr := by conv => lhs; simp [Tm.row, Tm.rows_eq, Cs.rows_eq, h1y, hpr])
      refine AWp.rg [] [] ?_ (hr := by conv => lhs; simp [Tm.row, Tm.rows_eq, Cs.rows_eq, h1y, hpr])
      repeat (first | refine AWp.seq ?_ | refine AWp.block ?_)
      refine AWp.loop (σ := fun u : {u : Nat // u ≤ pt.length ∧ ∀ z ∈ pt.take u, z.nm ≠ ya} => ⟨186, [(2, .ptr 2 0), (4, .ptr 4 0), (6, .d (strsD G)), (7, .ptr 7 0), (8, .arr 400 0 us.length), (10, .ptr 10 0), (37, .d (.sl (txs.map Tm.row))), (38, .d (.int (txs.length : Int))), (39, .d (.int (i : Int))), (47, .d (.sl (pt.map Tm.row))), (48, .d (.int (pt.length : Int))), (49, .d (.int (u.1 : Int)))], [(2, some (.blk 34 [.d (.int 3), .d (.int tn), .d (.str ta), .d (.str tb), .d (strsD tvs), .d (.sl (txs.map Tm.row)), .d (.sl (tcs.map Cs.row))])), (4, some (.blk 34 [.d (.int 0), .d (.int 0), .d (.str ByteArray.empty), .d (.str ByteArray.empty), .lit (.slice none 0 0), .lit (.slice none 0 0), .lit (.slice none 0 0)])), (7, some (.blk 34 [.d (.int 3), .d (.int tn), .d (.str ta), .d (.str tb), .d (strsD tvs), .d (.sl (txs.map Tm.row)), .d (.sl (tcs.map Cs.row))])), (10, some (.blk 34 [.d (.int yk), .d (.int yn), .d (.str ya), .d (.str yb), .d (strsD yvs), .d (.sl (yxs.map Tm.row)), .d (.sl (ycs.map Cs.row))])), (400, some (.arr 9 1 (us.map strR)))]⟩)
        (μ := fun u => pt.length - u.1) ⟨0, ⟨Nat.zero_le _, by simp⟩⟩ (Le.sub (by simp) (by simp)) (fun ⟨j, ⟨hi13, hw2⟩⟩ => ?_)
      dsimp only
      refine AWp.rg [] [] ?_ (hr := by conv => lhs; simp [Tm.row, Tm.rows_eq, Cs.rows_eq, h1y, hpr])
      repeat (first | refine AWp.seq ?_ | refine AWp.block ?_)
      refine AWp.cond rfl (fun hc => ?_) (fun hc => ?_)
      · have hi1 : j < pt.length := by have := of_decide_eq_true hc; omega
        clear hc
        have h1b : pt[j]? = some pt[j] := List.getElem?_eq_getElem hi1
        have hmb : pt[j] ∈ pt := List.getElem_mem hi1
        have hdb : pt.drop j = pt[j] :: pt.drop (j + 1) := List.drop_eq_getElem_cons hi1
        generalize pt[j] = b at h1b hmb hdb
        obtain ⟨bk, bn, ba, bb, bvs, bxs, bcs⟩ := b
        refine AWp.skip ?_
        refine AWp.rg [] [] ?_ (hr := by conv => lhs; simp [Tm.row, Tm.rows_eq, Cs.rows_eq, h1y, hpr, h1b])
        by_cases q2 : ba = ya
        · refine AWp.rg [] [] ?_ (hr := by conv => lhs; simp [Tm.row, Tm.rows_eq, Cs.rows_eq, h1y, hpr, h1b, q2])
          refine AWp.cy ?_
          have hq : hasB (pt.map Tm.nm) ya = true := hasB_iff.2 (List.mem_map.2 ⟨_, hmb, by rw [Tm.nm]; exact q2⟩)
          rw [hq] at hap
          simp only [if_true] at hap
          refine AWp.rg [] [] ?_ (hr := by conv => lhs; simp [Tm.row, Tm.rows_eq, Cs.rows_eq, h1y, hpr, h1b, q2])
          refine AWp.exit ?_
          refine AWp.rg [] [] ?_ (hr := by conv => lhs; simp [Tm.row, Tm.rows_eq, Cs.rows_eq, h1y, hpr, h1b, q2])
          have hi1 := hi1o
          refine ⟨⟨(i + 1, us ++ [ya]), hi1, ⟨by rw [hap, List.take_add_one, h1y, List.map_append, ← hpt]; simp [Tm.nm], by dsimp only; first | omega | (simp; omega)⟩⟩, by simp; omega, ?_⟩
          dsimp only
          exact Le.sub (by simp) (by simp)
        refine AWp.rg [] [] ?_ (hr := by conv => lhs; simp [Tm.row, Tm.rows_eq, Cs.rows_eq, h1y, hpr, h1b, q2])
        refine AWp.cn ?_
        refine AWp.skip ?_
        refine AWp.rg [] [] ?_ (hr := by conv => lhs; simp [Tm.row, Tm.rows_eq, Cs.rows_eq, h1y, hpr, h1b, q2])
        refine ⟨⟨j + 1, hi1, (fun z hz => by rw [List.take_add_one, h1b] at hz; rcases List.mem_append.1 hz with hz | hz; exact hw2 z hz; rw [List.mem_singleton.1 hz, Tm.nm]; exact q2)⟩, by simp; omega, ?_⟩
        dsimp only
        exact Le.sub (by simp) (by simp)
      have hi1 : j = pt.length := by have := of_decide_eq_false hc; omega
      subst hi1
      clear hc
      rw [List.take_length] at hw2
      have hq : hasB (pt.map Tm.nm) ya = false := hasB_not.2 fun h => by
        obtain ⟨z, hz, e⟩ := List.mem_map.1 h
        exact hw2 z hz e
      rw [hq] at hap
      simp only [Bool.false_eq_true, if_false] at hap
      refine AWp.exit ?_
      refine AWp.rg [] [] ?_ (hr := by conv => lhs; simp [Tm.row, Tm.rows_eq, Cs.rows_eq, h1y, hpr])
      have hi1 := hi1o
      refine ⟨⟨(i + 1, us), hi1, ⟨by rw [hap, List.take_add_one, h1y, List.map_append, ← hpt]; simp [Tm.nm], by dsimp only; first | omega | (simp; omega)⟩⟩, by simp; omega, ?_⟩
      dsimp only
      exact Le.sub (by simp) (by simp)
    have hi1 : i = txs.length := by have := of_decide_eq_false hc; omega
    subst hi1
    clear hc
    obtain ⟨hap, hul⟩ := hw
    rw [List.drop_length, moreN, List.append_nil] at hap
    refine AWp.exit ?_
    apply AWp.frzs [400]
    · conv => lhs; simp
    have hml := moreN_len txs []
    rw [hap] at hR hml
    have hd := sp_count 8 us 3 tn ta tb tvs txs tcs (by omega)
    generalize cnt 8 us (.mk 3 tn ta tb tvs txs tcs) = e at hd hR
    obtain ⟨ek, en, ea, eb, evs, exs, ecs⟩ := e
    have hg := sp_count 9 G ek en ea eb evs exs ecs (by omega)
    generalize cnt 9 G (.mk ek en ea eb evs exs ecs) = r at hg hR
    subst hR
    refine AWp.rg [] [.p (fun _ => .agg [.d (.int ek), .d (.int en), .d (.str ea), .d (.str eb), .d (strsD evs), .d (.sl (exs.map Tm.row)), .d (.sl (ecs.map Cs.row))]) none] ?_ (hr := by conv => lhs; simp [Tm.row, Tm.rows_eq, Cs.rows_eq])
    refine AWp.rg [] [.p (fun _ => .agg [.d (.int rk), .d (.int rn), .d (.str ra), .d (.str rb), .d (strsD rvs), .d (.sl (rxs.map Tm.row)), .d (.sl (rcs.map Cs.row))]) none] ?_ (hr := by conv => lhs; simp [Tm.row, Tm.rows_eq, Cs.rows_eq])
    refine AWp.ret ?_
    try dsimp only [thenQ, blockQ]
    apply endQ.ret
    · rfl
    · conv => lhs; simp [resAV, Tryd.results100]
    first | rfl | simp [resVal, tmAV, Tm.row, Tm.rows_eq, Cs.rows_eq, AV.nilD, nilDL, strsD]
  refine AWp.rg [] [] ?_ (hr := by conv => lhs; simp [Tm.row, Tm.rows_eq, Cs.rows_eq, q1])
  refine AWp.cn ?_
  by_cases q3 : tk = 4
  · refine AWp.rg [] [] ?_ (hr := by conv => lhs; simp [Tm.row, Tm.rows_eq, Cs.rows_eq, q1, q3])
    refine AWp.cy ?_
    refine AWp.skip ?_
    refine AWp.cy ?_
    subst q3
    rw [if_pos (by omega)] at hR
    refine AWp.rg [] [] ?_ (hr := by conv => lhs; simp [Tm.row, Tm.rows_eq, Cs.rows_eq, q1])
    refine AWp.rg [] [] ?_ (hr := by conv => lhs; simp [Tm.row, Tm.rows_eq, Cs.rows_eq, q1])
    repeat (first | refine AWp.seq ?_ | refine AWp.block ?_)
    refine AWp.le (Le.low [400] [] (fr := [(2, .ptr 2 0), (4, .ptr 4 0), (6, .d (strsD G)), (7, .ptr 7 0), (8, .arr 400 0 ([] : List ByteArray).length), (37, .d (.sl (txs.map Tm.row))), (38, .d (.int (txs.length : Int))), (39, .d (.int (0 : Int)))]) (mem := [(2, some (.blk 34 [.d (.int 4), .d (.int tn), .d (.str ta), .d (.str tb), .d (strsD tvs), .d (.sl (txs.map Tm.row)), .d (.sl (tcs.map Cs.row))])), (4, some (.blk 34 [.d (.int 0), .d (.int 0), .d (.str ByteArray.empty), .d (.str ByteArray.empty), .lit (.slice none 0 0), .lit (.slice none 0 0), .lit (.slice none 0 0)])), (7, some (.blk 34 [.d (.int 4), .d (.int tn), .d (.str ta), .d (.str tb), .d (strsD tvs), .d (.sl (txs.map Tm.row)), .d (.sl (tcs.map Cs.row))])), (400, some (.arr 9 1 (([] : List ByteArray).map strR)))]) rfl (by simp) (by simp)) ?_
    refine AWp.loop (σ := fun u : {u : Nat × List ByteArray // u.1 ≤ txs.length ∧ (moreN [] txs = u.2 ++ moreN ((txs.take u.1).map Tm.nm) (txs.drop u.1) ∧ u.2.length ≤ u.1)} => ⟨186, [(2, .ptr 2 0), (4, .ptr 4 0), (6, .d (strsD G)), (7, .ptr 7 0), (8, .arr 400 0 u.1.2.length), (37, .d (.sl (txs.map Tm.row))), (38, .d (.int (txs.length : Int))), (39, .d (.int (u.1.1 : Int)))], [(2, some (.blk 34 [.d (.int 4), .d (.int tn), .d (.str ta), .d (.str tb), .d (strsD tvs), .d (.sl (txs.map Tm.row)), .d (.sl (tcs.map Cs.row))])), (4, some (.blk 34 [.d (.int 0), .d (.int 0), .d (.str ByteArray.empty), .d (.str ByteArray.empty), .lit (.slice none 0 0), .lit (.slice none 0 0), .lit (.slice none 0 0)])), (7, some (.blk 34 [.d (.int 4), .d (.int tn), .d (.str ta), .d (.str tb), .d (strsD tvs), .d (.sl (txs.map Tm.row)), .d (.sl (tcs.map Cs.row))])), (400, some (.arr 9 1 (u.1.2.map strR)))]⟩)
      (μ := fun u => txs.length - u.1.1) ⟨(0, []), ⟨Nat.zero_le _, ⟨by simp, Nat.le_refl _⟩⟩⟩ (Le.sub (by simp) (by simp)) (fun ⟨(i, us), ⟨hi10, hw⟩⟩ => ?_)
    dsimp only at hi10 hw ⊢
    refine AWp.rg [] [] ?_ (hr := by conv => lhs; simp [Tm.row, Tm.rows_eq, Cs.rows_eq, q1])
    repeat (first | refine AWp.seq ?_ | refine AWp.block ?_)
    refine AWp.cond rfl (fun hc => ?_) (fun hc => ?_)
    · have hi1 : i < txs.length := by have := of_decide_eq_true hc; omega
      clear hc
      have h1y : txs[i]? = some txs[i] := List.getElem?_eq_getElem hi1
      have hmy : txs[i] ∈ txs := List.getElem_mem hi1
      have hdy : txs.drop i = txs[i] :: txs.drop (i + 1) := List.drop_eq_getElem_cons hi1
      generalize txs[i] = y at h1y hmy hdy
      obtain ⟨hap, hul⟩ := hw
      rw [hdy, moreN] at hap
      obtain ⟨yk, yn, ya, yb, yvs, yxs, ycs⟩ := y
      rw [Tm.nm] at hap
      obtain ⟨pt, hpt⟩ : ∃ pt, pt = txs.take i := ⟨_, rfl⟩
      have hptl : pt.length = i := by rw [hpt, List.length_take]; omega
      have hpr : List.take i (List.map Tm.row txs) = List.map Tm.row pt := by rw [hpt, List.map_take]
      rw [← hpt] at hap
      have htr : ∀ (i : Nat) (a : Tm), txs[i]? = some a → a.row.length = 7 := fun _ a _ => tmrl2 a
      have hi1o := hi1
      refine AWp.skip ?_
      refine AWp.rg [] [] ?_ (hr := by conv => lhs; simp [Tm.row, Tm.rows_eq, Cs.rows_eq, h1y, hpr, q1])
      refine AWp.rg [] [] ?_ (hr := by conv => lhs; simp [Tm.row, Tm.rows_eq, Cs.rows_eq, h1y, hpr, q1])
      repeat (first | refine AWp.seq ?_ | refine AWp.block ?_)
      refine AWp.loop (σ := fun u : {u : Nat // u ≤ pt.length ∧ ∀ z ∈ pt.take u, z.nm ≠ ya} => ⟨186, [(2, .ptr 2 0), (4, .ptr 4 0), (6, .d (strsD G)), (7, .ptr 7 0), (8, .arr 400 0 us.length), (10, .ptr 10 0), (37, .d (.sl (txs.map Tm.row))), (38, .d (.int (txs.length : Int))), (39, .d (.int (i : Int))), (47, .d (.sl (pt.map Tm.row))), (48, .d (.int (pt.length : Int))), (49, .d (.int (u.1 : Int)))], [(2, some (.blk 34 [.d (.int 4), .d (.int tn), .d (.str ta), .d (.str tb), .d (strsD tvs), .d (.sl (txs.map Tm.row)), .d (.sl (tcs.map Cs.row))])), (4, some (.blk 34 [.d (.int 0), .d (.int 0), .d (.str ByteArray.empty), .d (.str ByteArray.empty), .lit (.slice none 0 0), .lit (.slice none 0 0), .lit (.slice none 0 0)])), (7, some (.blk 34 [.d (.int 4), .d (.int tn), .d (.str ta), .d (.str tb), .d (strsD tvs), .d (.sl (txs.map Tm.row)), .d (.sl (tcs.map Cs.row))])), (10, some (.blk 34 [.d (.int yk), .d (.int yn), .d (.str ya), .d (.str yb), .d (strsD yvs), .d (.sl (yxs.map Tm.row)), .d (.sl (ycs.map Cs.row))])), (400, some (.arr 9 1 (us.map strR)))]⟩)
        (μ := fun u => pt.length - u.1) ⟨0, ⟨Nat.zero_le _, by simp⟩⟩ (Le.sub (by simp) (by simp)) (fun ⟨j, ⟨hi13, hw2⟩⟩ => ?_)
      dsimp only
      refine AWp.rg [] [] ?_ (hr := by conv => lhs; simp [Tm.row, Tm.rows_eq, Cs.rows_eq, h1y, hpr, q1])
      repeat (first | refine AWp.seq ?_ | refine AWp.block ?_)
      refine AWp.cond rfl (fun hc => ?_) (fun hc => ?_)
      · have hi1 : j < pt.length := by have := of_decide_eq_true hc; omega
        clear hc
        have h1b : pt[j]? = some pt[j] := List.getElem?_eq_getElem hi1
        have hmb : pt[j] ∈ pt := List.getElem_mem hi1
        have hdb : pt.drop j = pt[j] :: pt.drop (j + 1) := List.drop_eq_getElem_cons hi1
        generalize pt[j] = b at h1b hmb hdb
        obtain ⟨bk, bn, ba, bb, bvs, bxs, bcs⟩ := b
        refine AWp.skip ?_
        refine AWp.rg [] [] ?_ (hr := by conv => lhs; simp [Tm.row, Tm.rows_eq, Cs.rows_eq, h1y, hpr, h1b, q1])
        by_cases q4 : ba = ya
        · refine AWp.rg [] [] ?_ (hr := by conv => lhs; simp [Tm.row, Tm.rows_eq, Cs.rows_eq, h1y, hpr, h1b, q1, q4])
          refine AWp.cy ?_
          have hq : hasB (pt.map Tm.nm) ya = true := hasB_iff.2 (List.mem_map.2 ⟨_, hmb, by rw [Tm.nm]; exact q4⟩)
          rw [hq] at hap
          simp only [if_true] at hap
          refine AWp.rg [] [] ?_ (hr := by conv => lhs; simp [Tm.row, Tm.rows_eq, Cs.rows_eq, h1y, hpr, h1b, q1, q4])
          refine AWp.exit ?_
          refine AWp.rg [] [] ?_ (hr := by conv => lhs; simp [Tm.row, Tm.rows_eq, Cs.rows_eq, h1y, hpr, h1b, q1, q4])
          have hi1 := hi1o
          refine ⟨⟨(i + 1, us ++ [ya]), hi1, ⟨by rw [hap, List.take_add_one, h1y, List.map_append, ← hpt]; simp [Tm.nm], by dsimp only; first | omega | (simp; omega)⟩⟩, by simp; omega, ?_⟩
          dsimp only
          exact Le.sub (by simp) (by simp)
        refine AWp.rg [] [] ?_ (hr := by conv => lhs; simp [Tm.row, Tm.rows_eq, Cs.rows_eq, h1y, hpr, h1b, q1, q4])
        refine AWp.cn ?_
        refine AWp.skip ?_
        refine AWp.rg [] [] ?_ (hr := by conv => lhs; simp [Tm.row, Tm.rows_eq, Cs.rows_eq, h1y, hpr, h1b, q1, q4])
        refine ⟨⟨j + 1, hi1, (fun z hz => by rw [List.take_add_one, h1b] at hz; rcases List.mem_append.1 hz with hz | hz; exact hw2 z hz; rw [List.mem_singleton.1 hz, Tm.nm]; exact q4)⟩, by simp; omega, ?_⟩
        dsimp only
        exact Le.sub (by simp) (by simp)
      have hi1 : j = pt.length := by have := of_decide_eq_false hc; omega
      subst hi1
      clear hc
      rw [List.take_length] at hw2
      have hq : hasB (pt.map Tm.nm) ya = false := hasB_not.2 fun h => by
        obtain ⟨z, hz, e⟩ := List.mem_map.1 h
        exact hw2 z hz e
      rw [hq] at hap
      simp only [Bool.false_eq_true, if_false] at hap
      refine AWp.exit ?_
      refine AWp.rg [] [] ?_ (hr := by conv => lhs; simp [Tm.row, Tm.rows_eq, Cs.rows_eq, h1y, hpr, q1])
      have hi1 := hi1o
      refine ⟨⟨(i + 1, us), hi1, ⟨by rw [hap, List.take_add_one, h1y, List.map_append, ← hpt]; simp [Tm.nm], by dsimp only; first | omega | (simp; omega)⟩⟩, by simp; omega, ?_⟩
      dsimp only
      exact Le.sub (by simp) (by simp)
    have hi1 : i = txs.length := by have := of_decide_eq_false hc; omega
    subst hi1
    clear hc
    obtain ⟨hap, hul⟩ := hw
    rw [List.drop_length, moreN, List.append_nil] at hap
    refine AWp.exit ?_
    apply AWp.frzs [400]
    · conv => lhs; simp
    have hml := moreN_len txs []
    rw [hap] at hR hml
    have hd := sp_count 8 us 4 tn ta tb tvs txs tcs (by omega)
    generalize cnt 8 us (.mk 4 tn ta tb tvs txs tcs) = e at hd hR
    obtain ⟨ek, en, ea, eb, evs, exs, ecs⟩ := e
    have hg := sp_count 9 G ek en ea eb evs exs ecs (by omega)
    generalize cnt 9 G (.mk ek en ea eb evs exs ecs) = r at hg hR
    subst hR
    refine AWp.rg [] [.p (fun _ => .agg [.d (.int ek), .d (.int en), .d (.str ea), .d (.str eb), .d (strsD evs), .d (.sl (exs.map Tm.row)), .d (.sl (ecs.map Cs.row))]) none] ?_ (hr := by conv => lhs; simp [Tm.row, Tm.rows_eq, Cs.rows_eq, q1])
    refine AWp.rg [] [.p (fun _ => .agg [.d (.int rk), .d (.int rn), .d (.str ra), .d (.str rb), .d (strsD rvs), .d (.sl (rxs.map Tm.row)), .d (.sl (rcs.map Cs.row))]) none] ?_ (hr := by conv => lhs; simp [Tm.row, Tm.rows_eq, Cs.rows_eq, q1])
    refine AWp.ret ?_
    try dsimp only [thenQ, blockQ]
    apply endQ.ret
    · rfl
    · conv => lhs; simp [resAV, Tryd.results100]
    first | rfl | simp [resVal, tmAV, Tm.row, Tm.rows_eq, Cs.rows_eq, AV.nilD, nilDL, strsD]
  refine AWp.rg [] [] ?_ (hr := by conv => lhs; simp [Tm.row, Tm.rows_eq, Cs.rows_eq, q1, q3])
  refine AWp.cn ?_
  by_cases q5 : tk = 5
  · refine AWp.rg [] [] ?_ (hr := by conv => lhs; simp [Tm.row, Tm.rows_eq, Cs.rows_eq, q1, q3, q5])
    refine AWp.cy ?_
    subst q5
    rw [if_pos (by omega)] at hR
    refine AWp.rg [] [] ?_ (hr := by conv => lhs; simp [Tm.row, Tm.rows_eq, Cs.rows_eq, q1, q3])
    refine AWp.rg [] [] ?_ (hr := by conv => lhs; simp [Tm.row, Tm.rows_eq, Cs.rows_eq, q1, q3])
    repeat (first | refine AWp.seq ?_ | refine AWp.block ?_)
    refine AWp.le (Le.low [400] [] (fr := [(2, .ptr 2 0), (4, .ptr 4 0), (6, .d (strsD G)), (7, .ptr 7 0), (8, .arr 400 0 ([] : List ByteArray).length), (37, .d (.sl (txs.map Tm.row))), (38, .d (.int (txs.length : Int))), (39, .d (.int (0 : Int)))]) (mem := [(2, some (.blk 34 [.d (.int 5), .d (.int tn), .d (.str ta), .d (.str tb), .d (strsD tvs), .d (.sl (txs.map Tm.row)), .d (.sl (tcs.map Cs.row))])), (4, some (.blk 34 [.d (.int 0), .d (.int 0), .d (.str ByteArray.empty), .d (.str ByteArray.empty), .lit (.slice none 0 0), .lit (.slice none 0 0), .lit (.slice none 0 0)])), (7, some (.blk 34 [.d (.int 5), .d (.int tn), .d (.str ta), .d (.str tb), .d (strsD tvs), .d (.sl (txs.map Tm.row)), .d (.sl (tcs.map Cs.row))])), (400, some (.arr 9 1 (([] : List ByteArray).map strR)))]) rfl (by simp) (by simp)) ?_
    refine AWp.loop (σ := fun u : {u : Nat × List ByteArray // u.1 ≤ txs.length ∧ (moreN [] txs = u.2 ++ moreN ((txs.take u.1).map Tm.nm) (txs.drop u.1) ∧ u.2.length ≤ u.1)} => ⟨186, [(2, .ptr 2 0), (4, .ptr 4 0), (6, .d (strsD G)), (7, .ptr 7 0), (8, .arr 400 0 u.1.2.length), (37, .d (.sl (txs.map Tm.row))), (38, .d (.int (txs.length : Int))), (39, .d (.int (u.1.1 : Int)))], [(2, some (.blk 34 [.d (.int 5), .d (.int tn), .d (.str ta), .d (.str tb), .d (strsD tvs), .d (.sl (txs.map Tm.row)), .d (.sl (tcs.map Cs.row))])), (4, some (.blk 34 [.d (.int 0), .d (.int 0), .d (.str ByteArray.empty), .d (.str ByteArray.empty), .lit (.slice none 0 0), .lit (.slice none 0 0), .lit (.slice none 0 0)])), (7, some (.blk 34 [.d (.int 5), .d (.int tn), .d (.str ta), .d (.str tb), .d (strsD tvs), .d (.sl (txs.map Tm.row)), .d (.sl (tcs.map Cs.row))])), (400, some (.arr 9 1 (u.1.2.map strR)))]⟩)
      (μ := fun u => txs.length - u.1.1) ⟨(0, []), ⟨Nat.zero_le _, ⟨by simp, Nat.le_refl _⟩⟩⟩ (Le.sub (by simp) (by simp)) (fun ⟨(i, us), ⟨hi10, hw⟩⟩ => ?_)
    dsimp only at hi10 hw ⊢
    refine AWp.rg [] [] ?_ (hr := by conv => lhs; simp [Tm.row, Tm.rows_eq, Cs.rows_eq, q1, q3])
    repeat (first | refine AWp.seq ?_ | refine AWp.block ?_)
    refine AWp.cond rfl (fun hc => ?_) (fun hc => ?_)
    · have hi1 : i < txs.length := by have := of_decide_eq_true hc; omega
      clear hc
      have h1y : txs[i]? = some txs[i] := List.getElem?_eq_getElem hi1
      have hmy : txs[i] ∈ txs := List.getElem_mem hi1
      have hdy : txs.drop i = txs[i] :: txs.drop (i + 1) := List.drop_eq_getElem_cons hi1
      generalize txs[i] = y at h1y hmy hdy
      obtain ⟨hap, hul⟩ := hw
      rw [hdy, moreN] at hap
      obtain ⟨yk, yn, ya, yb, yvs, yxs, ycs⟩ := y
      rw [Tm.nm] at hap
      obtain ⟨pt, hpt⟩ : ∃ pt, pt = txs.take i := ⟨_, rfl⟩
      have hptl : pt.length = i := by rw [hpt, List.length_take]; omega
      have hpr : List.take i (List.map Tm.row txs) = List.map Tm.row pt := by rw [hpt, List.map_take]
      rw [← hpt] at hap
      have htr : ∀ (i : Nat) (a : Tm), txs[i]? = some a → a.row.length = 7 := fun _ a _ => tmrl2 a
      have hi1o := hi1
      refine AWp.skip ?_
      refine AWp.rg [] [] ?_ (hr := by conv => lhs; simp [Tm.row, Tm.rows_eq, Cs.rows_eq, h1y, hpr, q1, q3])
      refine AWp.rg [] [] ?_ (hr := by conv => lhs; simp [Tm.row, Tm.rows_eq, Cs.rows_eq, h1y, hpr, q1, q3])
      repeat (first | refine AWp.seq ?_ | refine AWp.block ?_)
      refine AWp.loop (σ := fun u : {u : Nat // u ≤ pt.length ∧ ∀ z ∈ pt.take u, z.nm ≠ ya} => ⟨186, [(2, .ptr 2 0), (4, .ptr 4 0), (6, .d (strsD G)), (7, .ptr 7 0), (8, .arr 400 0 us.length), (10, .ptr 10 0), (37, .d (.sl (txs.map Tm.row))), (38, .d (.int (txs.length : Int))), (39, .d (.int (i : Int))), (47, .d (.sl (pt.map Tm.row))), (48, .d (.int (pt.length : Int))), (49, .d (.int (u.1 : Int)))], [(2, some (.blk 34 [.d (.int 5), .d (.int tn), .d (.str ta), .d (.str tb), .d (strsD tvs), .d (.sl (txs.map Tm.row)), .d (.sl (tcs.map Cs.row))])), (4, some (.blk 34 [.d (.int 0), .d (.int 0), .d (.str ByteArray.empty), .d (.str ByteArray.empty), .lit (.slice none 0 0), .lit (.slice none 0 0), .lit (.slice none 0 0)])), (7, some (.blk 34 [.d (.int 5), .d (.int tn), .d (.str ta), .d (.str tb), .d (strsD tvs), .d (.sl (txs.map Tm.row)), .d (.sl (tcs.map Cs.row))])), (10, some (.blk 34 [.d (.int yk), .d (.int yn), .d (.str ya), .d (.str yb), .d (strsD yvs), .d (.sl (yxs.map Tm.row)), .d (.sl (ycs.map Cs.row))])), (400, some (.arr 9 1 (us.map strR)))]⟩)
        (μ := fun u => pt.length - u.1) ⟨0, ⟨Nat.zero_le _, by simp⟩⟩ (Le.sub (by simp) (by simp)) (fun ⟨j, ⟨hi13, hw2⟩⟩ => ?_)
      dsimp only
      refine AWp.rg [] [] ?_ (hr := by conv => lhs; simp [Tm.row, Tm.rows_eq, Cs.rows_eq, h1y, hpr, q1, q3])
      repeat (first | refine AWp.seq ?_ | refine AWp.block ?_)
      refine AWp.cond rfl (fun hc => ?_) (fun hc => ?_)
      · have hi1 : j < pt.length := by have := of_decide_eq_true hc; omega
        clear hc
        have h1b : pt[j]? = some pt[j] := List.getElem?_eq_getElem hi1
        have hmb : pt[j] ∈ pt := List.getElem_mem hi1
        have hdb : pt.drop j = pt[j] :: pt.drop (j + 1) := List.drop_eq_getElem_cons hi1
        generalize pt[j] = b at h1b hmb hdb
        obtain ⟨bk, bn, ba, bb, bvs, bxs, bcs⟩ := b
        refine AWp.skip ?_
        refine AWp.rg [] [] ?_ (hr := by conv => lhs; simp [Tm.row, Tm.rows_eq, Cs.rows_eq, h1y, hpr, h1b, q1, q3])
        by_cases q6 : ba = ya
        · refine AWp.rg [] [] ?_ (hr := by conv => lhs; simp [Tm.row, Tm.rows_eq, Cs.rows_eq, h1y, hpr, h1b, q1, q3, q6])
          refine AWp.cy ?_
          have hq : hasB (pt.map Tm.nm) ya = true := hasB_iff.2 (List.mem_map.2 ⟨_, hmb, by rw [Tm.nm]; exact q6⟩)
          rw [hq] at hap
          simp only [if_true] at hap
          refine AWp.rg [] [] ?_ (hr := by conv => lhs; simp [Tm.row, Tm.rows_eq, Cs.rows_eq, h1y, hpr, h1b, q1, q3, q6])
          refine AWp.exit ?_
          refine AWp.rg [] [] ?_ (hr := by conv => lhs; simp [Tm.row, Tm.rows_eq, Cs.rows_eq, h1y, hpr, h1b, q1, q3, q6])
          have hi1 := hi1o
          refine ⟨⟨(i + 1, us ++ [ya]), hi1, ⟨by rw [hap, List.take_add_one, h1y, List.map_append, ← hpt]; simp [Tm.nm], by dsimp only; first | omega | (simp; omega)⟩⟩, by simp; omega, ?_⟩
          dsimp only
          exact Le.sub (by simp) (by simp)
        refine AWp.rg [] [] ?_ (hr := by conv => lhs; simp [Tm.row, Tm.rows_eq, Cs.rows_eq, h1y, hpr, h1b, q1, q3, q6])
        refine AWp.cn ?_
        refine AWp.skip ?_
        refine AWp.rg [] [] ?_ (hr := by conv => lhs; simp [Tm.row, Tm.rows_eq, Cs.rows_eq, h1y, hpr, h1b, q1, q3, q6])
        refine ⟨⟨j + 1, hi1, (fun z hz => by rw [List.take_add_one, h1b] at hz; rcases List.mem_append.1 hz with hz | hz; exact hw2 z hz; rw [List.mem_singleton.1 hz, Tm.nm]; exact q6)⟩, by simp; omega, ?_⟩
        dsimp only
        exact Le.sub (by simp) (by simp)
      have hi1 : j = pt.length := by have := of_decide_eq_false hc; omega
      subst hi1
      clear hc
      rw [List.take_length] at hw2
      have hq : hasB (pt.map Tm.nm) ya = false := hasB_not.2 fun h => by
        obtain ⟨z, hz, e⟩ := List.mem_map.1 h
        exact hw2 z hz e
      rw [hq] at hap
      simp only [Bool.false_eq_true, if_false] at hap
      refine AWp.exit ?_
      refine AWp.rg [] [] ?_ (hr := by conv => lhs; simp [Tm.row, Tm.rows_eq, Cs.rows_eq, h1y, hpr, q1, q3])
      have hi1 := hi1o
      refine ⟨⟨(i + 1, us), hi1, ⟨by rw [hap, List.take_add_one, h1y, List.map_append, ← hpt]; simp [Tm.nm], by dsimp only; first | omega | (simp; omega)⟩⟩, by simp; omega, ?_⟩
      dsimp only
      exact Le.sub (by simp) (by simp)
    have hi1 : i = txs.length := by have := of_decide_eq_false hc; omega
    subst hi1
    clear hc
    obtain ⟨hap, hul⟩ := hw
    rw [List.drop_length, moreN, List.append_nil] at hap
    refine AWp.exit ?_
    apply AWp.frzs [400]
    · conv => lhs; simp
    have hml := moreN_len txs []
    rw [hap] at hR hml
    have hd := sp_count 8 us 5 tn ta tb tvs txs tcs (by omega)
    generalize cnt 8 us (.mk 5 tn ta tb tvs txs tcs) = e at hd hR
    obtain ⟨ek, en, ea, eb, evs, exs, ecs⟩ := e
    have hg := sp_count 9 G ek en ea eb evs exs ecs (by omega)
    generalize cnt 9 G (.mk ek en ea eb evs exs ecs) = r at hg hR
    subst hR
    refine AWp.rg [] [.p (fun _ => .agg [.d (.int ek), .d (.int en), .d (.str ea), .d (.str eb), .d (strsD evs), .d (.sl (exs.map Tm.row)), .d (.sl (ecs.map Cs.row))]) none] ?_ (hr := by conv => lhs; simp [Tm.row, Tm.rows_eq, Cs.rows_eq, q1, q3])
    refine AWp.rg [] [.p (fun _ => .agg [.d (.int rk), .d (.int rn), .d (.str ra), .d (.str rb), .d (strsD rvs), .d (.sl (rxs.map Tm.row)), .d (.sl (rcs.map Cs.row))]) none] ?_ (hr := by conv => lhs; simp [Tm.row, Tm.rows_eq, Cs.rows_eq, q1, q3])
    refine AWp.ret ?_
    try dsimp only [thenQ, blockQ]
    apply endQ.ret
    · rfl
    · conv => lhs; simp [resAV, Tryd.results100]
    first | rfl | simp [resVal, tmAV, Tm.row, Tm.rows_eq, Cs.rows_eq, AV.nilD, nilDL, strsD]
  refine AWp.rg [] [] ?_ (hr := by conv => lhs; simp [Tm.row, Tm.rows_eq, Cs.rows_eq, q1, q3, q5])
  refine AWp.cn ?_
  by_cases q7 : tk = 6
  · refine AWp.rg [] [] ?_ (hr := by conv => lhs; simp [Tm.row, Tm.rows_eq, Cs.rows_eq, q1, q3, q5, q7])
    refine AWp.cy ?_
    subst q7
    have hx2 : txs.length = 2 ∧ tcs = [] := by
      unfold manyB at hmany
      simp at hmany
      exact hmany
    obtain ⟨hx2, rfl⟩ := hx2
    obtain ⟨x, y, rfl⟩ : ∃ x y, txs = [x, y] := by
      rcases txs with _ | ⟨x, _ | ⟨y, _ | ⟨z, l⟩⟩⟩
      · cases hx2
      · cases hx2
      · exact ⟨x, y, rfl⟩
      · simp at hx2
    rw [if_neg (by omega), if_pos rfl, letD, letH, Tm.owZ, List.headD_cons, List.tail_cons, Tm.owZ, List.headD_cons, List.tail_cons, Tm.owZ] at hR
    have hxFt := hxF x (by simp)
    have hyFt := hxF y (by simp)
    have hfx := sp_refFree x hxFt
    have hfy := sp_refFree y hyFt
    have hxl : x.free.length ≤ 1048576 := Nat.le_trans (Tm.free_len x) hxFt.sz
    have hyl : y.free.length ≤ 1048576 := Nat.le_trans (Tm.free_len y) hyFt.sz
    have hzx := ih x (inN own x.free) (hxR x (by simp)) hxFt (by have := inN_len own x.free; omega) (fun s hs => hos s (List.mem_filter.1 hs).1)
    have hzy := ih y (inN own (woN y.free [ta]) ++ [ta]) (hxR y (by simp)) hyFt (by have := inN_len own (woN y.free [ta]); simp; omega) (fun s hs => (List.mem_append.1 hs).elim (fun h => hos s (List.mem_filter.1 h).1) fun h => by rw [List.mem_singleton.1 h]; exact hF.ok.1.1)
    generalize x.free = xf at hfx hxl hzx hR
    generalize y.free = yf at hfy hyl hzy hR
    have hp1 := sp_pickI own xf (by omega) (by omega)
    have hp2 := sp_pickI own yf (by omega) (by omega)
    have hP2 := inN_len own yf
    have hp3 : PSpec Tryd.prog 143 [strsAV (inN own yf), .d (.sl [[.str ta]]), .d (.bool false)] (fun _ => strsAV (inN own (woN yf [ta]))) none := by
      rw [← inN_woN]
      exact sp_pickO (inN own yf) [ta] (by omega) (by simp)
    have hI1 := inN_len own xf
    have hI2 := inN_len own (woN yf [ta])
    have hp4 : PSpec Tryd.prog 143 [strsAV (inN own xf), strsAV (inN own (woN yf [ta])), .d (.bool true)] (fun _ => strsAV (inN (inN own xf) (woN yf [ta]))) none := by
      have h := sp_pickI (inN own xf) (inN own (woN yf [ta])) (by omega) (by omega)
      rwa [inN_inN] at h
    have hI3 := inN_len (inN own xf) (woN yf [ta])
    generalize inN (inN own xf) (woN yf [ta]) = I3 at hp4 hI3 hR
    generalize inN own xf = I1 at hp1 hp4 hI1 hI3 hzx hR
    generalize inN own yf = P2 at hp2 hp3 hP2
    generalize inN own (woN yf [ta]) = I2 at hp3 hp4 hI2 hzy hR
    obtain ⟨A2, hA⟩ : ∃ A, A = I2 ++ [ta] := ⟨_, rfl⟩
    rw [← hA] at hzy hR
    have hA2 : List.take (I2.length + 1) (List.map strR I2 ++ [[D.str ta]]) = List.map strR A2 := by rw [hA, List.map_append, List.take_of_length_le (by simp)]; rfl
    have hA2l : A2.length = I2.length + 1 := by rw [hA]; simp
    generalize x.ow I1 = z at hzx hR
    generalize y.ow A2 = u at hzy hR
    obtain ⟨xk, xn, xa, xb, xvs, xxs, xcs⟩ := x
    obtain ⟨yk, yn, ya, yb, yvs, yxs, ycs⟩ := y
    obtain ⟨zk, zn, za, zb, zvs, zxs, zcs⟩ := z
    obtain ⟨uk, un, ua, ub, uvs, uxs, ucs⟩ := u
    have hdu := sp_count 8 I3 6 0 ta .empty [] [.mk zk zn za zb zvs zxs zcs, .mk uk un ua ub uvs uxs ucs] [] (by omega)
    generalize cnt 8 I3 (.mk 6 0 ta .empty [] [.mk zk zn za zb zvs zxs zcs, .mk uk un ua ub uvs uxs ucs] []) = e at hdu hR
    obtain ⟨ek, en, ea, eb, evs, exs, ecs⟩ := e
    replace hdu : PSpec Tryd.prog 144 [.d (.int 8), strsAV I3, .agg [.d (.int 6), .d (.int 0), .d (.str ta), .d (.str .empty), .d (.sl []), .d (.sl [[.int zk, .int zn, .str za, .str zb, strsD zvs, .sl (zxs.map Tm.row), .sl (zcs.map Cs.row)], [.int uk, .int un, .str ua, .str ub, strsD uvs, .sl (uxs.map Tm.row), .sl (ucs.map Cs.row)]]), .d (.sl [])]] (fun _ => tmAV (.mk ek en ea eb evs exs ecs)) none := by
      simpa only [tmAV, strsD, List.map_cons, List.map_nil, Tm.row, Tm.rows_eq, Cs.rows_eq] using hdu
    have hg := sp_count 9 G ek en ea eb evs exs ecs (by omega)
    generalize cnt 9 G (.mk ek en ea eb evs exs ecs) = r at hg hR
    subst hR
    refine AWp.dw [5, 12, 16] [.p (fun d => .arr d 0 xf.length) (some (.arr 9 1 (xf.map strR))), .p (fun _ => .d (strsD I1)) none, .p (fun d => .arr d 0 yf.length) (some (.arr 9 1 (yf.map strR))), .p (fun _ => .d (strsD P2)) none, .p (fun _ => .d (strsD I2)) none] mixed ?_ (hr := by conv => lhs; simp [Tm.row, Tm.rows_eq, Cs.rows_eq, q1, q3, q5])
    refine AWp.dw [18, 20] [.p (fun _ => .agg [.d (.int zk), .d (.int zn), .d (.str za), .d (.str zb), .d (strsD zvs), .d (.sl (zxs.map Tm.row)), .d (.sl (zcs.map Cs.row))]) none, .p (fun _ => .agg [.d (.int uk), .d (.int un), .d (.str ua), .d (.str ub), .d (strsD uvs), .d (.sl (uxs.map Tm.row)), .d (.sl (ucs.map Cs.row))]) none] mixed ?_ (hr := by conv => lhs; simp [Tm.row, Tm.rows_eq, Cs.rows_eq, hA2, q1, q3, q5])
    repeat (first | refine AWp.seq ?_ | refine AWp.block ?_)
    refine AWp.le (Le.low [] [] (fr := [(4, .ptr 4 0), (6, .d (strsD G)), (7, .ptr 7 0), (13, .d (strsD I1)), (14, .d (strsD I2))]) (mem := [(4, some (.blk 34 [.d (.int 0), .d (.int 0), .d (.str ByteArray.empty), .d (.str ByteArray.empty), .lit (.slice none 0 0), .lit (.slice none 0 0), .lit (.slice none 0 0)])), (7, some (.blk 34 [.d (.int 6), .d (.int 0), .d (.str ta), .d (.str ByteArray.empty), .d (.sl []), .d (.sl [[.int zk, .int zn, .str za, .str zb, strsD zvs, .sl (zxs.map Tm.row), .sl (zcs.map Cs.row)], [.int uk, .int un, .str ua, .str ub, strsD uvs, .sl (uxs.map Tm.row), .sl (ucs.map Cs.row)]]), .d (.sl [])]))]) rfl (by simp) (by simp)) ?_
    refine AWp.dw [] [.p (fun _ => .d (strsD I3)) none, .p (fun _ => .agg [.d (.int ek), .d (.int en), .d (.str ea), .d (.str eb), .d (strsD evs), .d (.sl (exs.map Tm.row)), .d (.sl (ecs.map Cs.row))]) none] mixed ?_ (hr := by conv => lhs; simp [Tm.row, Tm.rows_eq, Cs.rows_eq, q1, q3, q5])
    refine AWp.rg [] [.p (fun _ => .agg [.d (.int rk), .d (.int rn), .d (.str ra), .d (.str rb), .d (strsD rvs), .d (.sl (rxs.map Tm.row)), .d (.sl (rcs.map Cs.row))]) none] ?_ (hr := by conv => lhs; simp [Tm.row, Tm.rows_eq, Cs.rows_eq, q1, q3, q5])
    refine AWp.ret ?_
    try dsimp only [thenQ, blockQ]
    apply endQ.ret
    · rfl
    · conv => lhs; simp [resAV, Tryd.results100]
    first | rfl | simp [resVal, tmAV, Tm.row, Tm.rows_eq, Cs.rows_eq, AV.nilD, nilDL, strsD]
  refine AWp.rg [] [] ?_ (hr := by conv => lhs; simp [Tm.row, Tm.rows_eq, Cs.rows_eq, q1, q3, q5, q7])
  refine AWp.cn ?_
  by_cases q8 : tk = 7
  · refine AWp.rg [] [] ?_ (hr := by conv => lhs; simp [Tm.row, Tm.rows_eq, Cs.rows_eq, q1, q3, q5, q7, q8])
    refine AWp.cy ?_
    subst q8
    have hx1 : txs.length = 1 := by
      unfold manyB at hmany
      simp at hmany
      exact hmany
    obtain ⟨x, rfl⟩ : ∃ x, txs = [x] := by
      rcases txs with _ | ⟨x, _ | ⟨y, l⟩⟩
      · cases hx1
      · exact ⟨x, rfl⟩
      · simp at hx1
    rw [if_neg (by omega), if_neg (by omega), if_pos rfl] at hR
    have hxa := (hxF x (by simp)).ok.nm
    obtain ⟨xk, xn, xa, xb, xvs, xxs, xcs⟩ := x
    rw [show nmH [.mk xk xn xa xb xvs xxs xcs] = xa from rfl] at hR
    have hcF := hF.cs
    refine AWp.rg [] [] ?_ (hr := by conv => lhs; simp [Tm.row, Tm.rows_eq, Cs.rows_eq, q1, q3, q5, q7])
    refine AWp.rg [] [] ?_ (hr := by conv => lhs; simp [Tm.row, Tm.rows_eq, Cs.rows_eq, q1, q3, q5, q7])
    repeat (first | refine AWp.seq ?_ | refine AWp.block ?_)
    refine AWp.le (Le.low [400] [] (fr := [(1, .d (strsD own)), (2, .ptr 2 0), (4, .ptr 4 0), (6, .d (strsD G)), (7, .ptr 7 0), (121, .d (.sl (tcs.map Cs.row))), (122, .d (.int (tcs.length : Int))), (123, .d (.int (0 : Int)))]) (mem := [(2, some (.blk 34 [.d (.int 7), .d (.int tn), .d (.str ta), .d (.str tb), .d (strsD tvs), .d (.sl (([.mk xk xn xa xb xvs xxs xcs]).map Tm.row)), .d (.sl (tcs.map Cs.row))])), (4, some (.blk 34 [.d (.int 0), .d (.int 0), .d (.str ByteArray.empty), .d (.str ByteArray.empty), .lit (.slice none 0 0), .lit (.slice none 0 0), .lit (.slice none 0 0)])), (7, some (.blk 34 [.d (.int 7), .d (.int 0), .d (.str ByteArray.empty), .d (.str ByteArray.empty), .lit (.slice none 0 0), .d (.sl (([.mk xk xn xa xb xvs xxs xcs]).map Tm.row)), .arr 400 0 ([] : List Cs).length])), (400, some (.arr 40 9 (([] : List Cs).map Cs.row)))]) rfl (by simp [Tm.row, Tm.rows_eq, Cs.rows_eq]) (by simp [Tm.row, Tm.rows_eq, Cs.rows_eq])) ?_
    refine AWp.loop (σ := fun u : {u : Nat × List Cs // u.1 ≤ tcs.length ∧ u.2 = Cs.owL (tcs.take u.1) own xa} => ⟨186, [(1, .d (strsD own)), (2, .ptr 2 0), (4, .ptr 4 0), (6, .d (strsD G)), (7, .ptr 7 0), (121, .d (.sl (tcs.map Cs.row))), (122, .d (.int (tcs.length : Int))), (123, .d (.int (u.1.1 : Int)))], [(2, some (.blk 34 [.d (.int 7), .d (.int tn), .d (.str ta), .d (.str tb), .d (strsD tvs), .d (.sl (([.mk xk xn xa xb xvs xxs xcs]).map Tm.row)), .d (.sl (tcs.map Cs.row))])), (4, some (.blk 34 [.d (.int 0), .d (.int 0), .d (.str ByteArray.empty), .d (.str ByteArray.empty), .lit (.slice none 0 0), .lit (.slice none 0 0), .lit (.slice none 0 0)])), (7, some (.blk 34 [.d (.int 7), .d (.int 0), .d (.str ByteArray.empty), .d (.str ByteArray.empty), .lit (.slice none 0 0), .d (.sl (([.mk xk xn xa xb xvs xxs xcs]).map Tm.row)), .arr 400 0 u.1.2.length])), (400, some (.arr 40 9 (u.1.2.map Cs.row)))]⟩)
      (μ := fun u => tcs.length - u.1.1) ⟨(0, []), ⟨Nat.zero_le _, by simp [Cs.owL]⟩⟩ (Le.sub (by simp [Tm.row, Tm.rows_eq, Cs.rows_eq]) (by simp [Tm.row, Tm.rows_eq, Cs.rows_eq])) (fun ⟨(i, ds), ⟨hi27, hw⟩⟩ => ?_)
    dsimp only at hi27 hw ⊢
    refine AWp.rg [] [] ?_ (hr := by conv => lhs; simp [Tm.row, Tm.rows_eq, Cs.rows_eq, q1, q3, q5, q7])
    repeat (first | refine AWp.seq ?_ | refine AWp.block ?_)
    refine AWp.cond rfl (fun hc => ?_) (fun hc => ?_)
    · have hi1 : i < tcs.length := by have := of_decide_eq_true hc; omega
      clear hc
      have h1d : tcs[i]? = some tcs[i] := List.getElem?_eq_getElem hi1
      have hmd : tcs[i] ∈ tcs := List.getElem_mem hi1
      have hdd : tcs.drop i = tcs[i] :: tcs.drop (i + 1) := List.drop_eq_getElem_cons hi1
      generalize tcs[i] = d at h1d hmd hdd
      have hdl : ds.length = i := by rw [hw, Cs.owL_len, List.length_take]; omega
      have hsn := Cs.owL_snoc h1d own xa
      rw [← hw] at hsn
      obtain ⟨hws, hyR⟩ := hcR d hmd
      obtain ⟨hwz, hyF⟩ := hcF d hmd
      obtain ⟨dt, dws, y⟩ := d
      try dsimp only at hws hyR hwz hyF
      rw [Cs.ow] at hsn
      have hfy := sp_refFree y hyF
      have hyl : y.free.length ≤ 1048576 := Nat.le_trans (Tm.free_len y) hyF.sz
      generalize y.free = yf at hsn hfy hyl
      have hin := sp_pickI dws yf (by omega) (by omega)
      have hUl := inN_len dws yf
      have hUz : ∀ s ∈ inN dws yf, s.size ≤ 140737488355328 := fun s hs => hwz s (List.mem_filter.1 hs).1
      generalize inN dws yf = U at hin hUl hUz hsn
      obtain ⟨H, hH⟩ : ∃ H, H = own ++ U := ⟨_, rfl⟩
      rw [← hH] at hsn
      have hHt : List.take (own.length + U.length) (List.map strR own ++ List.map strR U) = List.map strR H := by rw [hH, List.map_append, List.take_of_length_le (by simp)]
      have hHl : H.length = own.length + U.length := by rw [hH]; simp
      have hHz : ∀ s ∈ H, s.size ≤ 140737488355328 := fun s hs => by
        rw [hH] at hs
        exact (List.mem_append.1 hs).elim (hos s) (hUz s)
      have hct := sp_Has yf xa (by omega)
      generalize hasB yf xa = q at hsn hct
      obtain ⟨yk, yn, ya, yb, yvs, yxs, ycs⟩ := y
      refine AWp.skip ?_
      refine AWp.rg [] [] ?_ (hr := by conv => lhs; simp [Tm.row, Tm.rows_eq, Cs.rows_eq, h1d, Cs.row, q1, q3, q5, q7])
      cases q with
      | true =>
        simp only [if_true, cnt] at hsn
        have hz := ih (.mk yk yn ya yb yvs yxs ycs) H hyR hyF (by omega) hHz
        generalize (Tm.mk yk yn ya yb yvs yxs ycs).ow H = z at hz hsn
        obtain ⟨ek, en, ea, eb, evs, exs, ecs⟩ := z
        have hu := sp_count 8 U ek en ea eb evs exs ecs (by omega)
        generalize cnt 8 U (.mk ek en ea eb evs exs ecs) = u at hu hsn
        obtain ⟨uk, un, ua, ub, uvs, uxs, ucs⟩ := u
        refine AWp.rg [2] [.p (fun d => .arr d 0 yf.length) (some (.arr 9 1 (yf.map strR)))] ?_ (hr := by conv => lhs; simp [Tm.row, Tm.rows_eq, Cs.rows_eq, h1d, Cs.row, q1, q3, q5, q7])
        refine AWp.rg [] [.p (fun _ => .d (strsD U)) none] ?_ (hr := by conv => lhs; simp [Tm.row, Tm.rows_eq, Cs.rows_eq, h1d, Cs.row, q1, q3, q5, q7])
        refine AWp.rg [4] [] ?_ (hr := by conv => lhs; simp [Tm.row, Tm.rows_eq, Cs.rows_eq, h1d, Cs.row, hHt, q1, q3, q5, q7])
        refine AWp.rg [] [] ?_ (hr := by conv => lhs; simp [Tm.row, Tm.rows_eq, Cs.rows_eq, h1d, Cs.row, q1, q3, q5, q7])
        refine AWp.rg [] [.p (fun _ => .d (.bool true)) none] ?_ (hr := by conv => lhs; simp [Tm.row, Tm.rows_eq, Cs.rows_eq, h1d, Cs.row, q1, q3, q5, q7])
        refine AWp.cy ?_
        refine AWp.rg [] [.p (fun _ => .agg [.d (.int ek), .d (.int en), .d (.str ea), .d (.str eb), .d (strsD evs), .d (.sl (exs.map Tm.row)), .d (.sl (ecs.map Cs.row))]) none] ?_ (hr := by conv => lhs; simp [Tm.row, Tm.rows_eq, Cs.rows_eq, h1d, Cs.row, q1, q3, q5, q7])
        refine AWp.dw [] [.p (fun _ => .agg [.d (.int uk), .d (.int un), .d (.str ua), .d (.str ub), .d (strsD uvs), .d (.sl (uxs.map Tm.row)), .d (.sl (ucs.map Cs.row))]) none] mixed ?_ (hr := by conv => lhs; simp [Tm.row, Tm.rows_eq, Cs.rows_eq, h1d, Cs.row, q1, q3, q5, q7])
        refine AWp.rg [] [] ?_ (hr := by conv => lhs; simp [Tm.row, Tm.rows_eq, Cs.rows_eq, h1d, Cs.row, q1, q3, q5, q7])
        refine ⟨⟨(i + 1, ds ++ [.mk dt dws (.mk uk un ua ub uvs uxs ucs)]), hi1, by rw [hsn]⟩, by simp; omega, ?_⟩
        dsimp only
        exact Le.sub (by simp [Cs.row, Tm.row, Tm.rows_eq, Cs.rows_eq, hdl]) (by simp [Cs.row, Tm.row, Tm.rows_eq, Cs.rows_eq, hdl])
      | false =>
        simp only [Bool.false_eq_true, if_false] at hsn
        have hou : PSpec Tryd.prog 143 [strsAV H, .d (.sl [[.str xa]]), .d (.bool false)] (fun _ => strsAV (woN H [xa])) none := sp_pickO H [xa] (by omega) (by simp)
        have hWl := woN_len H [xa]
        have hWz : ∀ s ∈ woN H [xa], s.size ≤ 140737488355328 := fun s hs => hHz s (List.mem_filter.1 hs).1
        generalize woN H [xa] = W at hou hWl hWz hsn
        have hz := ih (.mk yk yn ya yb yvs yxs ycs) W hyR hyF (by omega) hWz
        generalize (Tm.mk yk yn ya yb yvs yxs ycs).ow W = z at hz hsn
        obtain ⟨zk, zn, za, zb, zvs, zxs, zcs⟩ := z
        have hd : PSpec Tryd.prog 144 [.d (.int 9), .d (.sl [[.str xa]]), tmAV (.mk zk zn za zb zvs zxs zcs)] (fun _ => tmAV (cnt 9 [xa] (.mk zk zn za zb zvs zxs zcs))) none := sp_count 9 [xa] zk zn za zb zvs zxs zcs (by simp)
        generalize cnt 9 [xa] (.mk zk zn za zb zvs zxs zcs) = e at hd hsn
        obtain ⟨ek, en, ea, eb, evs, exs, ecs⟩ := e
        have hu := sp_count 8 U ek en ea eb evs exs ecs (by omega)
        generalize cnt 8 U (.mk ek en ea eb evs exs ecs) = u at hu hsn
        obtain ⟨uk, un, ua, ub, uvs, uxs, ucs⟩ := u
        refine AWp.rg [2] [.p (fun d => .arr d 0 yf.length) (some (.arr 9 1 (yf.map strR)))] ?_ (hr := by conv => lhs; simp [Tm.row, Tm.rows_eq, Cs.rows_eq, h1d, Cs.row, q1, q3, q5, q7])
        refine AWp.rg [] [.p (fun _ => .d (strsD U)) none] ?_ (hr := by conv => lhs; simp [Tm.row, Tm.rows_eq, Cs.rows_eq, h1d, Cs.row, q1, q3, q5, q7])
        refine AWp.rg [4] [] ?_ (hr := by conv => lhs; simp [Tm.row, Tm.rows_eq, Cs.rows_eq, h1d, Cs.row, hHt, q1, q3, q5, q7])
        refine AWp.rg [] [] ?_ (hr := by conv => lhs; simp [Tm.row, Tm.rows_eq, Cs.rows_eq, h1d, Cs.row, q1, q3, q5, q7])
        refine AWp.rg [] [.p (fun _ => .d (.bool false)) none] ?_ (hr := by conv => lhs; simp [Tm.row, Tm.rows_eq, Cs.rows_eq, h1d, Cs.row, q1, q3, q5, q7])
        refine AWp.cn ?_
        refine AWp.dw [5, 14] [.p (fun _ => .d (strsD W)) none, .p (fun _ => .agg [.d (.int zk), .d (.int zn), .d (.str za), .d (.str zb), .d (strsD zvs), .d (.sl (zxs.map Tm.row)), .d (.sl (zcs.map Cs.row))]) none, .p (fun _ => .agg [.d (.int ek), .d (.int en), .d (.str ea), .d (.str eb), .d (strsD evs), .d (.sl (exs.map Tm.row)), .d (.sl (ecs.map Cs.row))]) none] mixed ?_ (hr := by conv => lhs; simp [Tm.row, Tm.rows_eq, Cs.rows_eq, h1d, Cs.row, q1, q3, q5, q7])
        refine AWp.dw [] [.p (fun _ => .agg [.d (.int uk), .d (.int un), .d (.str ua), .d (.str ub), .d (strsD uvs), .d (.sl (uxs.map Tm.row)), .d (.sl (ucs.map Cs.row))]) none] mixed ?_ (hr := by conv => lhs; simp [Tm.row, Tm.rows_eq, Cs.rows_eq, h1d, Cs.row, q1, q3, q5, q7])
        refine AWp.rg [] [] ?_ (hr := by conv => lhs; simp [Tm.row, Tm.rows_eq, Cs.rows_eq, h1d, Cs.row, q1, q3, q5, q7])
        refine ⟨⟨(i + 1, ds ++ [.mk dt dws (.mk uk un ua ub uvs uxs ucs)]), hi1, by rw [hsn]⟩, by simp; omega, ?_⟩
        dsimp only
        exact Le.sub (by simp [Cs.row, Tm.row, Tm.rows_eq, Cs.rows_eq, hdl]) (by simp [Cs.row, Tm.row, Tm.rows_eq, Cs.rows_eq, hdl])
    have hi1 : i = tcs.length := by have := of_decide_eq_false hc; omega
    subst hi1
    clear hc
    rw [List.take_length] at hw
    subst hw
    have hdl := Cs.owL_len own xa tcs
    generalize Cs.owL tcs own xa = ds at hdl hR ⊢
    refine AWp.exit ?_
    apply AWp.frzs [400]
    · conv => lhs; simp
    repeat (first | refine AWp.seq ?_ | refine AWp.block ?_)
    refine AWp.le (Le.low [] [] (fr := [(4, .ptr 4 0), (6, .d (strsD G)), (7, .ptr 7 0)]) (mem := [(4, some (.blk 34 [.d (.int 0), .d (.int 0), .d (.str ByteArray.empty), .d (.str ByteArray.empty), .lit (.slice none 0 0), .lit (.slice none 0 0), .lit (.slice none 0 0)])), (7, some (.blk 34 [.d (.int 7), .d (.int 0), .d (.str ByteArray.empty), .d (.str ByteArray.empty), .d (.sl []), .d (.sl [[.int xk, .int xn, .str xa, .str xb, strsD xvs, .sl (xxs.map Tm.row), .sl (xcs.map Cs.row)]]), .d (.sl (ds.map Cs.row))]))]) rfl (by simp [Tm.row, Tm.rows_eq, Cs.rows_eq]) (by simp [Tm.row, Tm.rows_eq, Cs.rows_eq])) ?_
    have hg : PSpec Tryd.prog 144 [.d (.int 9), strsAV G, .agg [.d (.int 7), .d (.int 0), .d (.str .empty), .d (.str .empty), .d (.sl []), .d (.sl [[.int xk, .int xn, .str xa, .str xb, strsD xvs, .sl (xxs.map Tm.row), .sl (xcs.map Cs.row)]]), .d (.sl (ds.map Cs.row))]] (fun _ => tmAV (cnt 9 G (.mk 7 0 .empty .empty [] [.mk xk xn xa xb xvs xxs xcs] ds))) none := by
      simpa only [tmAV, strsD, List.map_cons, List.map_nil, Tm.row, Tm.rows_eq, Cs.rows_eq] using sp_count 9 G 7 0 .empty .empty [] [.mk xk xn xa xb xvs xxs xcs] ds (by omega)
    generalize cnt 9 G (.mk 7 0 .empty .empty [] [.mk xk xn xa xb xvs xxs xcs] ds) = r at hg hR
    subst hR
    refine AWp.rg [] [.p (fun _ => .agg [.d (.int rk), .d (.int rn), .d (.str ra), .d (.str rb), .d (strsD rvs), .d (.sl (rxs.map Tm.row)), .d (.sl (rcs.map Cs.row))]) none] ?_ (hr := by conv => lhs; simp [Tm.row, Tm.rows_eq, Cs.rows_eq, q1, q3, q5, q7])
    refine AWp.ret ?_
    try dsimp only [thenQ, blockQ]
    apply endQ.ret
    · rfl
    · conv => lhs; simp [resAV, Tryd.results100]
    first | rfl | simp [resVal, tmAV, Tm.row, Tm.rows_eq, Cs.rows_eq, AV.nilD, nilDL, strsD]
  refine AWp.rg [] [] ?_ (hr := by conv => lhs; simp [Tm.row, Tm.rows_eq, Cs.rows_eq, q1, q3, q5, q7, q8])
  refine AWp.cn ?_
  refine AWp.skip ?_
  rw [if_neg (by omega), if_neg (by omega), if_neg (by omega)] at hR
  have hg := sp_count 9 G tk tn ta tb tvs txs tcs (by omega)
  generalize cnt 9 G (.mk tk tn ta tb tvs txs tcs) = r at hg hR
  subst hR
  refine AWp.rg [] [.p (fun _ => .agg [.d (.int rk), .d (.int rn), .d (.str ra), .d (.str rb), .d (strsD rvs), .d (.sl (rxs.map Tm.row)), .d (.sl (rcs.map Cs.row))]) none] ?_ (hr := by conv => lhs; simp [Tm.row, Tm.rows_eq, Cs.rows_eq, q1, q3, q5, q7, q8])
  refine AWp.ret ?_
  try dsimp only [thenQ, blockQ]
  apply endQ.ret
  · rfl
  · conv => lhs; simp [resAV, Tryd.results100]
  first | rfl | simp [resVal, tmAV, Tm.row, Tm.rows_eq, Cs.rows_eq, AV.nilD, nilDL, strsD]
theorem od_all : ∀ N, OdN N
  | 0 => fun _ _ h => h.elim
  | N + 1 => od_step N (od_all N)
set_option maxRecDepth 20000 in
set_option maxHeartbeats 16000000 in
theorem sp_OdFn (f : Fn) (h : f.Pt) : PSpec Tryd.prog 50 [fnAV f] (fun _ => fnAV f.ow) none := by
  have hx := od_all 175 f.body f.params h.rt h.fit (by have := h.par; omega) h.pars
  unfold Fn.ow
  generalize f.body.ow f.params = z at hx ⊢
  obtain ⟨fg, fps, ⟨fk, fn, fa, fb, fvs, fxs, fcs⟩⟩ := f
  obtain ⟨zk, zn, za, zb, zvs, zxs, zcs⟩ := z
  dsimp only at hx
  refine PSpec.of Tryd.func50 rfl rfl rfl (Nat.le_of_ble_eq_true rfl) ?_
  show AWp _ _ (endQ _ Tryd.f50 _ _ _) (startAS 13 _)
  refine AWp.rg [] [] ?_ (hr := by conv => lhs; simp [fnAV, Fn.row, Tm.row, Tm.rows_eq, Cs.rows_eq])
  refine AWp.dw [] [.p (fun _ => .agg [.d (.int zk), .d (.int zn), .d (.str za), .d (.str zb), .d (strsD zvs), .d (.sl (zxs.map Tm.row)), .d (.sl (zcs.map Cs.row))]) none] mixed ?_ (hr := by conv => lhs; simp [fnAV, Fn.row, Tm.row, Tm.rows_eq, Cs.rows_eq])
  refine AWp.ret ?_
  try dsimp only [thenQ, blockQ]
  apply endQ.ret
  · rfl
  · conv => lhs; simp [resAV, Tryd.results50]
  rfl
set_option maxRecDepth 20000 in
set_option maxHeartbeats 16000000 in
theorem sp_EachOwned (l : List Fn) (hl : l.length ≤ 879609302220) (hall : ∀ f ∈ l, f.Pt) : PSpec Tryd.prog 33 [fnsAV l, .d (.fn 50)] (fun _ => fnsAV (l.map Fn.ow)) none := by
  obtain ⟨G, hG⟩ : ∃ G, G = l.map Fn.ow := ⟨_, rfl⟩
  rw [← hG]
  refine PSpec.of Tryd.func33 rfl rfl rfl (Nat.le_of_ble_eq_true rfl) ?_
  show AWp _ _ (endQ _ Tryd.f33 _ _ _) (startAS 22 _)
  refine AWp.rg [] [] ?_ (hr := by conv => lhs; simp [Fn.row, Tm.row, Tm.rows_eq, Cs.rows_eq])
  refine AWp.rg [] [] ?_ (hr := by conv => lhs; simp [Fn.row, Tm.row, Tm.rows_eq, Cs.rows_eq])
  refine AWp.rg [] [] ?_ (hr := by conv => lhs; simp [Fn.row, Tm.row, Tm.rows_eq, Cs.rows_eq])
  repeat (first | refine AWp.seq ?_ | refine AWp.block ?_)
  refine AWp.le (Le.low [400] [] (fr := [(1, .d (.fn 50)), (5, .arr 400 0 ([] : List Fn).length), (8, .d (.sl (l.map Fn.row))), (9, .d (.int (l.length : Int))), (10, .d (.int (0 : Int)))]) (mem := [(400, some (.arr 36 9 (([] : List Fn).map Fn.row)))]) rfl (by simp) (by simp)) ?_
  refine AWp.loop (σ := fun u : {u : Nat × List Fn // u.1 ≤ l.length ∧ u.2 = (l.take u.1).map Fn.ow} => ⟨22, [(1, .d (.fn 50)), (5, .arr 400 0 u.1.2.length), (8, .d (.sl (l.map Fn.row))), (9, .d (.int (l.length : Int))), (10, .d (.int (u.1.1 : Int)))], [(400, some (.arr 36 9 (u.1.2.map Fn.row)))]⟩)
    (μ := fun u => l.length - u.1.1) ⟨(0, []), ⟨Nat.zero_le _, by simp⟩⟩ (Le.sub (by simp) (by simp)) (fun ⟨(i, gs), ⟨hi3, hw⟩⟩ => ?_)
  dsimp only at hi3 hw ⊢
  refine AWp.rg [] [] ?_ (hr := by conv => lhs; simp [Fn.row, Tm.row, Tm.rows_eq, Cs.rows_eq])
  repeat (first | refine AWp.seq ?_ | refine AWp.block ?_)
  refine AWp.cond rfl (fun hc => ?_) (fun hc => ?_)
  · have hi1 : i < l.length := by have := of_decide_eq_true hc; omega
    clear hc
    have h1f : l[i]? = some l[i] := List.getElem?_eq_getElem hi1
    have hmf : l[i] ∈ l := List.getElem_mem hi1
    have hdf : l.drop i = l[i] :: l.drop (i + 1) := List.drop_eq_getElem_cons hi1
    generalize l[i] = f at h1f hmf hdf
    have hgl : gs.length = i := by rw [hw, List.length_map, List.length_take]; omega
    have hx := sp_OdFn f (hall f hmf)
    generalize hz : f.ow = z at hx
    obtain ⟨fg, fps, ⟨fk, fn, fa, fb, fvs, fxs, fcs⟩⟩ := f
    obtain ⟨zg, zps, ⟨zk, zn, za, zb, zvs, zxs, zcs⟩⟩ := z
    dsimp only [fnAV] at hx
    refine AWp.skip ?_
    refine AWp.rg [] [] ?_ (hr := by conv => lhs; simp [Fn.row, Tm.row, Tm.rows_eq, Cs.rows_eq, h1f])
    refine AWp.rg [] [.p (fun _ => .agg [.d (.str zg), .d (strsD zps), .d (.int zk), .d (.int zn), .d (.str za), .d (.str zb), .d (strsD zvs), .d (.sl (zxs.map Tm.row)), .d (.sl (zcs.map Cs.row))]) none] ?_ (hr := by conv => lhs; simp [Fn.row, Tm.row, Tm.rows_eq, Cs.rows_eq, h1f])
    refine AWp.rg [] [] ?_ (hr := by conv => lhs; simp [Fn.row, Tm.row, Tm.rows_eq, Cs.rows_eq, h1f])
    refine ⟨⟨(i + 1, gs ++ [⟨zg, zps, .mk zk zn za zb zvs zxs zcs⟩]), hi1, by rw [hw, List.take_add_one, h1f, List.map_append, ← hz]; rfl⟩, by simp; omega, ?_⟩
    dsimp only
    exact Le.sub (by simp [Fn.row, Tm.row, Tm.rows_eq, Cs.rows_eq, hgl]) (by simp [Fn.row, Tm.row, Tm.rows_eq, Cs.rows_eq, hgl])
  have hi1 : i = l.length := by have := of_decide_eq_false hc; omega
  subst hi1
  clear hc
  rw [List.take_length] at hw
  obtain rfl : gs = G := by rw [hw, hG]
  refine AWp.exit ?_
  refine AWp.rg [] [] ?_ (hr := by conv => lhs; simp [Fn.row, Tm.row, Tm.rows_eq, Cs.rows_eq])
  refine AWp.ret ?_
  try dsimp only [thenQ, blockQ]
  apply endQ.retF [400]
  · rfl
  · conv => lhs; simp
  · conv => lhs; simp [resAV, Tryd.results33]
  rfl
end Go.Proofs.YtapiiklnnkkdlaaDoor
