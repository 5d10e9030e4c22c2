/- xclaw10.HeapTake, by the abstract machine. -/
import Derived.Test.YtcakhebnebcpcaaLawA
import Derived.Test.YtcakhebnebcpcaaLawD
namespace Go.Proofs.Ytcakhebnebcpcaa
open Go.RowKit
set_option linter.unusedVariables false
set_option linter.unusedSimpArgs false

set_option maxRecDepth 20000 in
set_option maxHeartbeats 8000000 in
theorem sp_HeapTake (acts : List Int) (k : Int) (hlen : acts.length ≤ 17592186044416) : PSpec Try.prog 5 [actsAV acts, .d (.int k)] (fun _ => .d (.bool true)) none := by
  have hI := builtN_inv acts acts.length
  have hB := sp_built acts hlen
  generalize builtN acts acts.length = q at hI hB
  obtain ⟨h, r⟩ := q
  dsimp only at hB
  have hP : RightP h r := hI.right
  have hS : Sz 61 h := hI.sz.mono (by omega)
  have hrl : r.length ≤ 61 := by have := hI.roots; dsimp only at this; omega
  have hO := hS.ok hP (by omega) (by omega)
  refine PSpec.of Try.func5 rfl rfl rfl (Nat.le_of_ble_eq_true rfl) ?_
  show AWp _ _ (endQ _ Try.f5 _ _ _) (startAS 98 _)
  repeat (first | refine AWp.seq ?_ | refine AWp.block ?_)
  apply AWp.reg [] []
  · conv => lhs; simp [runD, mkRc, dstOk, guardOk, opEff, opEff0, effOp, pureOp, callOp, zEff, evA, constAV, frGet, memGet, startAS, frOf, isGoCall, idIn, AS.after, nextR, opnIds, objIds, AV.ids, idsL, AObj.ids, frNo, memNo, opnAny, isAny, mkVal, rdCells, wrCells, fldAddr, idxAddr, srcRows, litRows, toD1, toDs, setAt, sliceAV, optI, partAV, bldAV, fillAV, binAV, binI, AV.cells, callEff, calleeOf, frKill, memKill, AV.kill, AObj.kill, AV.has, AV.hasL, Op.operands, Call.operands, tyF, keepF, keepM, viewIds, cChk, renOf, moGet, moWs, moQ, cEff, moLike, moHave, AV.ren, renL, AObj.ren, AObj.like, kept, startC, moMem, AV.frz, frz1, frzL, frSub, memSub, frzs, AS.frz, frFrz, memFrz, AObj.frz, takeMap, takeLen, bleF, Nat.ble_eq, memAny, objAny]
  · trivial
  repeat (first | refine AWp.seq ?_ | refine AWp.block ?_)
  apply AWp.reg [] [.p (fun _ => .d (.bool true)) none]
  · conv => lhs; simp [runD, mkRc, dstOk, guardOk, opEff, opEff0, effOp, pureOp, callOp, zEff, evA, constAV, frGet, memGet, startAS, frOf, isGoCall, idIn, AS.after, nextR, opnIds, objIds, AV.ids, idsL, AObj.ids, frNo, memNo, opnAny, isAny, mkVal, rdCells, wrCells, fldAddr, idxAddr, srcRows, litRows, toD1, toDs, setAt, sliceAV, optI, partAV, bldAV, fillAV, binAV, binI, AV.cells, callEff, calleeOf, frKill, memKill, AV.kill, AObj.kill, AV.has, AV.hasL, Op.operands, Call.operands, tyF, keepF, keepM, viewIds, cChk, renOf, moGet, moWs, moQ, cEff, moLike, moHave, AV.ren, renL, AObj.ren, AObj.like, kept, startC, moMem, AV.frz, frz1, frzL, frSub, memSub, frzs, AS.frz, frFrz, memFrz, AObj.frz, takeMap, takeLen, bleF, Nat.ble_eq, memAny, objAny]
  · exact sp_alive
  repeat (first | refine AWp.seq ?_ | refine AWp.block ?_)
  refine AWp.cond rfl (fun h0 => ?_) (fun h0 => ?_)
  · cases h0
  refine AWp.skip ?_
  repeat (first | refine AWp.seq ?_ | refine AWp.block ?_)
  apply AWp.reg [] [.p (fun _ => .tuple [hpAV h, slsAV r]) none]
  · conv => lhs; simp [runD, mkRc, dstOk, guardOk, opEff, opEff0, effOp, pureOp, callOp, zEff, evA, constAV, frGet, memGet, startAS, frOf, isGoCall, idIn, AS.after, nextR, opnIds, objIds, AV.ids, idsL, AObj.ids, frNo, memNo, opnAny, isAny, mkVal, rdCells, wrCells, fldAddr, idxAddr, srcRows, litRows, toD1, toDs, setAt, sliceAV, optI, partAV, bldAV, fillAV, binAV, binI, AV.cells, callEff, calleeOf, frKill, memKill, AV.kill, AObj.kill, AV.has, AV.hasL, Op.operands, Call.operands, tyF, keepF, keepM, viewIds, cChk, renOf, moGet, moWs, moQ, cEff, moLike, moHave, AV.ren, renL, AObj.ren, AObj.like, kept, startC, moMem, AV.frz, frz1, frzL, frSub, memSub, frzs, AS.frz, frFrz, memFrz, AObj.frz, takeMap, takeLen, bleF, Nat.ble_eq, memAny, objAny, slsAV, hpAV, actsAV]
  · exact hB
  by_cases hk0 : k < 0
  · repeat (first | refine AWp.seq ?_ | refine AWp.block ?_)
    apply AWp.reg [] []
    · conv => lhs; simp [runD, mkRc, dstOk, guardOk, opEff, opEff0, effOp, pureOp, callOp, zEff, evA, constAV, frGet, memGet, startAS, frOf, isGoCall, idIn, AS.after, nextR, opnIds, objIds, AV.ids, idsL, AObj.ids, frNo, memNo, opnAny, isAny, mkVal, rdCells, wrCells, fldAddr, idxAddr, srcRows, litRows, toD1, toDs, setAt, sliceAV, optI, partAV, bldAV, fillAV, binAV, binI, AV.cells, callEff, calleeOf, frKill, memKill, AV.kill, AObj.kill, AV.has, AV.hasL, Op.operands, Call.operands, tyF, keepF, keepM, viewIds, cChk, renOf, moGet, moWs, moQ, cEff, moLike, moHave, AV.ren, renL, AObj.ren, AObj.like, kept, startC, moMem, AV.frz, frz1, frzL, frSub, memSub, frzs, AS.frz, frFrz, memFrz, AObj.frz, takeMap, takeLen, bleF, Nat.ble_eq, memAny, objAny, hk0]
    · trivial
    repeat (first | refine AWp.seq ?_ | refine AWp.block ?_)
    refine AWp.cond rfl (fun h1 => ?_) (fun h1 => ?_)
    · repeat (first | refine AWp.seq ?_ | refine AWp.block ?_)
      apply AWp.reg [] []
      · conv => lhs; simp [runD, mkRc, dstOk, guardOk, opEff, opEff0, effOp, pureOp, callOp, zEff, evA, constAV, frGet, memGet, startAS, frOf, isGoCall, idIn, AS.after, nextR, opnIds, objIds, AV.ids, idsL, AObj.ids, frNo, memNo, opnAny, isAny, mkVal, rdCells, wrCells, fldAddr, idxAddr, srcRows, litRows, toD1, toDs, setAt, sliceAV, optI, partAV, bldAV, fillAV, binAV, binI, AV.cells, callEff, calleeOf, frKill, memKill, AV.kill, AObj.kill, AV.has, AV.hasL, Op.operands, Call.operands, tyF, keepF, keepM, viewIds, cChk, renOf, moGet, moWs, moQ, cEff, moLike, moHave, AV.ren, renL, AObj.ren, AObj.like, kept, startC, moMem, AV.frz, frz1, frzL, frSub, memSub, frzs, AS.frz, frFrz, memFrz, AObj.frz, takeMap, takeLen, bleF, Nat.ble_eq, memAny, objAny]
      · trivial
      refine AWp.ret ?_
      try dsimp only [thenQ, blockQ]
      apply endQ.ret
      · rfl
      · conv => lhs; simp [runD, mkRc, dstOk, guardOk, opEff, opEff0, effOp, pureOp, callOp, zEff, evA, constAV, frGet, memGet, startAS, frOf, isGoCall, idIn, AS.after, nextR, opnIds, objIds, AV.ids, idsL, AObj.ids, frNo, memNo, opnAny, isAny, mkVal, rdCells, wrCells, fldAddr, idxAddr, srcRows, litRows, toD1, toDs, setAt, sliceAV, optI, partAV, bldAV, fillAV, binAV, binI, AV.cells, callEff, calleeOf, frKill, memKill, AV.kill, AObj.kill, AV.has, AV.hasL, Op.operands, Call.operands, tyF, keepF, keepM, viewIds, cChk, renOf, moGet, moWs, moQ, cEff, moLike, moHave, AV.ren, renL, AObj.ren, AObj.like, kept, startC, moMem, AV.frz, frz1, frzL, frSub, memSub, frzs, AS.frz, frFrz, memFrz, AObj.frz, takeMap, takeLen, bleF, Nat.ble_eq, memAny, objAny, resAV, Try.results5]
      rfl
    · cases h1
  obtain ⟨j, rfl⟩ : ∃ j : Nat, k = j := ⟨k.toNat, by omega⟩
  by_cases hk1 : r.length ≤ j
  · repeat (first | refine AWp.seq ?_ | refine AWp.block ?_)
    apply AWp.reg [] []
    · conv => lhs; simp [runD, mkRc, dstOk, guardOk, opEff, opEff0, effOp, pureOp, callOp, zEff, evA, constAV, frGet, memGet, startAS, frOf, isGoCall, idIn, AS.after, nextR, opnIds, objIds, AV.ids, idsL, AObj.ids, frNo, memNo, opnAny, isAny, mkVal, rdCells, wrCells, fldAddr, idxAddr, srcRows, litRows, toD1, toDs, setAt, sliceAV, optI, partAV, bldAV, fillAV, binAV, binI, AV.cells, callEff, calleeOf, frKill, memKill, AV.kill, AObj.kill, AV.has, AV.hasL, Op.operands, Call.operands, tyF, keepF, keepM, viewIds, cChk, renOf, moGet, moWs, moQ, cEff, moLike, moHave, AV.ren, renL, AObj.ren, AObj.like, kept, startC, moMem, AV.frz, frz1, frzL, frSub, memSub, frzs, AS.frz, frFrz, memFrz, AObj.frz, takeMap, takeLen, bleF, Nat.ble_eq, memAny, objAny, hk0, hk1]
    · trivial
    repeat (first | refine AWp.seq ?_ | refine AWp.block ?_)
    refine AWp.cond rfl (fun h1 => ?_) (fun h1 => ?_)
    · repeat (first | refine AWp.seq ?_ | refine AWp.block ?_)
      apply AWp.reg [] []
      · conv => lhs; simp [runD, mkRc, dstOk, guardOk, opEff, opEff0, effOp, pureOp, callOp, zEff, evA, constAV, frGet, memGet, startAS, frOf, isGoCall, idIn, AS.after, nextR, opnIds, objIds, AV.ids, idsL, AObj.ids, frNo, memNo, opnAny, isAny, mkVal, rdCells, wrCells, fldAddr, idxAddr, srcRows, litRows, toD1, toDs, setAt, sliceAV, optI, partAV, bldAV, fillAV, binAV, binI, AV.cells, callEff, calleeOf, frKill, memKill, AV.kill, AObj.kill, AV.has, AV.hasL, Op.operands, Call.operands, tyF, keepF, keepM, viewIds, cChk, renOf, moGet, moWs, moQ, cEff, moLike, moHave, AV.ren, renL, AObj.ren, AObj.like, kept, startC, moMem, AV.frz, frz1, frzL, frSub, memSub, frzs, AS.frz, frFrz, memFrz, AObj.frz, takeMap, takeLen, bleF, Nat.ble_eq, memAny, objAny]
      · trivial
      refine AWp.ret ?_
      try dsimp only [thenQ, blockQ]
      apply endQ.ret
      · rfl
      · conv => lhs; simp [runD, mkRc, dstOk, guardOk, opEff, opEff0, effOp, pureOp, callOp, zEff, evA, constAV, frGet, memGet, startAS, frOf, isGoCall, idIn, AS.after, nextR, opnIds, objIds, AV.ids, idsL, AObj.ids, frNo, memNo, opnAny, isAny, mkVal, rdCells, wrCells, fldAddr, idxAddr, srcRows, litRows, toD1, toDs, setAt, sliceAV, optI, partAV, bldAV, fillAV, binAV, binI, AV.cells, callEff, calleeOf, frKill, memKill, AV.kill, AObj.kill, AV.has, AV.hasL, Op.operands, Call.operands, tyF, keepF, keepM, viewIds, cChk, renOf, moGet, moWs, moQ, cEff, moLike, moHave, AV.ren, renL, AObj.ren, AObj.like, kept, startC, moMem, AV.frz, frz1, frzL, frSub, memSub, frzs, AS.frz, frFrz, memFrz, AObj.frz, takeMap, takeLen, bleF, Nat.ble_eq, memAny, objAny, resAV, Try.results5]
      rfl
    · cases h1
  have hx : r[j]? = some r[j] := List.getElem?_eq_getElem (by omega)
  generalize r[j] = s at hx
  have hjl : j < r.length := by omega
  by_cases hk2 : s.kind = 2
  · obtain ⟨ys, zs, hsp, hys⟩ := split_at hx
    have hPs : RightP h (s :: (ys ++ zs)) := hP.perm (fun t ht => .inl (by
      rw [hsp]
      simp only [List.mem_append, List.mem_cons] at ht ⊢
      rcases ht with ht | ht | ht
      · exact .inr (.inl ht)
      · exact .inl ht
      · exact .inr (.inr ht))) fun i => by
        rw [cnt_cons, hsp]
        simp only [cnt_append]
        rw [cnt_cons s zs]
        omega
    obtain ⟨a, x, b, hat, hcl, hal, hxc⟩ := hPs.has (.inl (List.mem_cons_self ..)) hk2
    have hth := hPs.thereOf (.inl (List.mem_cons_self ..)) hk2
    have hxi : h.cells[s.n.toNat]? = some x := by rw [hcl, show s.n.toNat = a.length by omega]; simp
    have hlt : s.n.toNat < h.cells.length := by have := (List.getElem?_eq_some_iff.1 hxi).1; omega
    have hlen1 := hS.len
    have hxm := List.mem_of_getElem? hxi
    have hget := sp_heapGet h s (fun c hc => by have := hS.sl c hc; omega) (fun c hc => by have := hS.tag c hc; exact ⟨by omega, by omega⟩)
    obtain ⟨sk, sn⟩ := s
    dsimp only at hk2 hxi hlt hal hat
    subst hk2
    obtain ⟨i, rfl⟩ : ∃ i : Nat, sn = i := ⟨sn.toNat, by omega⟩
    rw [Int.toNat_natCast] at hxi hlt
    repeat (first | refine AWp.seq ?_ | refine AWp.block ?_)
    apply AWp.reg [] []
    · conv => lhs; simp [runD, mkRc, dstOk, guardOk, opEff, opEff0, effOp, pureOp, callOp, zEff, evA, constAV, frGet, memGet, startAS, frOf, isGoCall, idIn, AS.after, nextR, opnIds, objIds, AV.ids, idsL, AObj.ids, frNo, memNo, opnAny, isAny, mkVal, rdCells, wrCells, fldAddr, idxAddr, srcRows, litRows, toD1, toDs, setAt, sliceAV, optI, partAV, bldAV, fillAV, binAV, binI, AV.cells, callEff, calleeOf, frKill, memKill, AV.kill, AObj.kill, AV.has, AV.hasL, Op.operands, Call.operands, tyF, keepF, keepM, viewIds, cChk, renOf, moGet, moWs, moQ, cEff, moLike, moHave, AV.ren, renL, AObj.ren, AObj.like, kept, startC, moMem, AV.frz, frz1, frzL, frSub, memSub, frzs, AS.frz, frFrz, memFrz, AObj.frz, takeMap, takeLen, bleF, Nat.ble_eq, memAny, objAny, hk0, hk1, hx, Slt.row]
    · first | trivial | (simp [inI, maxLen]; done) | (simp [inI, maxLen]; omega)
    repeat (first | refine AWp.seq ?_ | refine AWp.block ?_)
    refine AWp.cond rfl (fun h1 => ?_) (fun h1 => ?_)
    · cases h1
    refine AWp.skip ?_
    have hge : h.get ⟨2, i⟩ = (x.tag, x.slots, 0) := by rw [Hp.get, if_pos hth, hat]
    rw [hge] at hget
    dsimp only at hget
    have hxs := hS.sl x hxm
    repeat (first | refine AWp.seq ?_ | refine AWp.block ?_)
    apply AWp.draw [] [.p (fun _ => .tuple [.d (.int x.tag), slsAV x.slots, .d (.int 0)]) none] mixed
    · conv => lhs; simp [runD, mkRc, dstOk, guardOk, opEff, opEff0, effOp, pureOp, callOp, zEff, evA, constAV, frGet, memGet, startAS, frOf, isGoCall, idIn, AS.after, nextR, opnIds, objIds, AV.ids, idsL, AObj.ids, frNo, memNo, opnAny, isAny, mkVal, rdCells, wrCells, fldAddr, idxAddr, srcRows, litRows, toD1, toDs, setAt, sliceAV, optI, partAV, bldAV, fillAV, binAV, binI, AV.cells, callEff, calleeOf, frKill, memKill, AV.kill, AObj.kill, AV.has, AV.hasL, Op.operands, Call.operands, tyF, keepF, keepM, viewIds, cChk, renOf, moGet, moWs, moQ, cEff, moLike, moHave, AV.ren, renL, AObj.ren, AObj.like, kept, startC, moMem, AV.frz, frz1, frzL, frSub, memSub, frzs, AS.frz, frFrz, memFrz, AObj.frz, takeMap, takeLen, bleF, Nat.ble_eq, memAny, objAny, hx, Slt.row, slsAV]
    · rfl
    · exact hget
    repeat (first | refine AWp.seq ?_ | refine AWp.block ?_)
    apply AWp.reg [] []
    · conv => lhs; simp [runD, mkRc, dstOk, guardOk, opEff, opEff0, effOp, pureOp, callOp, zEff, evA, constAV, frGet, memGet, startAS, frOf, isGoCall, idIn, AS.after, nextR, opnIds, objIds, AV.ids, idsL, AObj.ids, frNo, memNo, opnAny, isAny, mkVal, rdCells, wrCells, fldAddr, idxAddr, srcRows, litRows, toD1, toDs, setAt, sliceAV, optI, partAV, bldAV, fillAV, binAV, binI, AV.cells, callEff, calleeOf, frKill, memKill, AV.kill, AObj.kill, AV.has, AV.hasL, Op.operands, Call.operands, tyF, keepF, keepM, viewIds, cChk, renOf, moGet, moWs, moQ, cEff, moLike, moHave, AV.ren, renL, AObj.ren, AObj.like, kept, startC, moMem, AV.frz, frz1, frzL, frSub, memSub, frzs, AS.frz, frFrz, memFrz, AObj.frz, takeMap, takeLen, bleF, Nat.ble_eq, memAny, objAny]
    · trivial
    repeat (first | refine AWp.seq ?_ | refine AWp.block ?_)
    refine AWp.cond rfl (fun hc2 => ?_) (fun hc2 => ?_)
    · cases hc2
    refine AWp.skip ?_
    repeat (first | refine AWp.seq ?_ | refine AWp.block ?_)
    apply AWp.reg [] []
    · conv => lhs; simp [runD, mkRc, dstOk, guardOk, opEff, opEff0, effOp, pureOp, callOp, zEff, evA, constAV, frGet, memGet, startAS, frOf, isGoCall, idIn, AS.after, nextR, opnIds, objIds, AV.ids, idsL, AObj.ids, frNo, memNo, opnAny, isAny, mkVal, rdCells, wrCells, fldAddr, idxAddr, srcRows, litRows, toD1, toDs, setAt, sliceAV, optI, partAV, bldAV, fillAV, binAV, binI, AV.cells, callEff, calleeOf, frKill, memKill, AV.kill, AObj.kill, AV.has, AV.hasL, Op.operands, Call.operands, tyF, keepF, keepM, viewIds, cChk, renOf, moGet, moWs, moQ, cEff, moLike, moHave, AV.ren, renL, AObj.ren, AObj.like, kept, startC, moMem, AV.frz, frz1, frzL, frSub, memSub, frzs, AS.frz, frFrz, memFrz, AObj.frz, takeMap, takeLen, bleF, Nat.ble_eq, memAny, objAny]
    · trivial
    repeat (first | refine AWp.seq ?_ | refine AWp.block ?_)
    apply AWp.reg [] []
    · conv => lhs; simp [runD, mkRc, dstOk, guardOk, opEff, opEff0, effOp, pureOp, callOp, zEff, evA, constAV, frGet, memGet, startAS, frOf, isGoCall, idIn, AS.after, nextR, opnIds, objIds, AV.ids, idsL, AObj.ids, frNo, memNo, opnAny, isAny, mkVal, rdCells, wrCells, fldAddr, idxAddr, srcRows, litRows, toD1, toDs, setAt, sliceAV, optI, partAV, bldAV, fillAV, binAV, binI, AV.cells, callEff, calleeOf, frKill, memKill, AV.kill, AObj.kill, AV.has, AV.hasL, Op.operands, Call.operands, tyF, keepF, keepM, viewIds, cChk, renOf, moGet, moWs, moQ, cEff, moLike, moHave, AV.ren, renL, AObj.ren, AObj.like, kept, startC, moMem, AV.frz, frz1, frzL, frSub, memSub, frzs, AS.frz, frFrz, memFrz, AObj.frz, takeMap, takeLen, bleF, Nat.ble_eq, memAny, objAny]
    · trivial
    repeat (first | refine AWp.seq ?_ | refine AWp.block ?_)
    refine AWp.loop (σ := fun u : {m : Nat // m ≤ x.slots.length} => ⟨98, [(1, .d (.int j)), (5, .ptr 5 0), (6, .d (.sl (r.map Slt.row))), (10, .ptr 10 0), (53, .d (.sl (x.slots.map Slt.row))), (54, .d (.int x.slots.length)), (55, .d (.int u.1))], [(5, some (.blk 28 [.d (.sl (h.cells.map Cll.row)), .d (.int h.made), .d (.int h.used), .d (.int h.live), .d (.int h.peak)])), (10, some (.blk 28 [.d (.sl ((h.dups (x.slots.take u.1)).1.cells.map Cll.row)), .d (.int (h.dups (x.slots.take u.1)).1.made), .d (.int (h.dups (x.slots.take u.1)).1.used), .d (.int (h.dups (x.slots.take u.1)).1.live), .d (.int (h.dups (x.slots.take u.1)).1.peak)]))]⟩)
      (μ := fun u => x.slots.length - u.1) ⟨0, Nat.zero_le _⟩ (Le.sub (by simp [runD, mkRc, dstOk, guardOk, opEff, opEff0, effOp, pureOp, callOp, zEff, evA, constAV, frGet, memGet, startAS, frOf, isGoCall, idIn, AS.after, nextR, opnIds, objIds, AV.ids, idsL, AObj.ids, frNo, memNo, opnAny, isAny, mkVal, rdCells, wrCells, fldAddr, idxAddr, srcRows, litRows, toD1, toDs, setAt, sliceAV, optI, partAV, bldAV, fillAV, binAV, binI, AV.cells, callEff, calleeOf, frKill, memKill, AV.kill, AObj.kill, AV.has, AV.hasL, Op.operands, Call.operands, tyF, keepF, keepM, viewIds, cChk, renOf, moGet, moWs, moQ, cEff, moLike, moHave, AV.ren, renL, AObj.ren, AObj.like, kept, startC, moMem, AV.frz, frz1, frzL, frSub, memSub, frzs, AS.frz, frFrz, memFrz, AObj.frz, takeMap, takeLen, bleF, Nat.ble_eq, memAny, objAny]) (by simp [runD, mkRc, dstOk, guardOk, opEff, opEff0, effOp, pureOp, callOp, zEff, evA, constAV, frGet, memGet, startAS, frOf, isGoCall, idIn, AS.after, nextR, opnIds, objIds, AV.ids, idsL, AObj.ids, frNo, memNo, opnAny, isAny, mkVal, rdCells, wrCells, fldAddr, idxAddr, srcRows, litRows, toD1, toDs, setAt, sliceAV, optI, partAV, bldAV, fillAV, binAV, binI, AV.cells, callEff, calleeOf, frKill, memKill, AV.kill, AObj.kill, AV.has, AV.hasL, Op.operands, Call.operands, tyF, keepF, keepM, viewIds, cChk, renOf, moGet, moWs, moQ, cEff, moLike, moHave, AV.ren, renL, AObj.ren, AObj.like, kept, startC, moMem, AV.frz, frz1, frzL, frSub, memSub, frzs, AS.frz, frFrz, memFrz, AObj.frz, takeMap, takeLen, bleF, Nat.ble_eq, memAny, objAny, Hp.dups])) (fun ⟨m, hm⟩ => ?_)
    have hin : ∀ t ∈ x.slots, t ∈ allS h.cells := fun t ht => allS_mem.2 ⟨x, hxm, ht⟩
    obtain ⟨d1, d2, d3⟩ := RightP.dups (x.slots.take m) hPs fun t ht => .inr (.inl (hin t (List.mem_of_mem_take ht)))
    have d4 := Sz.dups (x.slots.take m) hS
    have hOm := d4.ok d2 (by omega) (by have e : r.length = (ys ++ ⟨2, i⟩ :: zs).length := by rw [hsp]
                                        simp at e ⊢; omega)
    repeat (first | refine AWp.seq ?_ | refine AWp.block ?_)
    apply AWp.reg [] []
    · conv => lhs; simp [runD, mkRc, dstOk, guardOk, opEff, opEff0, effOp, pureOp, callOp, zEff, evA, constAV, frGet, memGet, startAS, frOf, isGoCall, idIn, AS.after, nextR, opnIds, objIds, AV.ids, idsL, AObj.ids, frNo, memNo, opnAny, isAny, mkVal, rdCells, wrCells, fldAddr, idxAddr, srcRows, litRows, toD1, toDs, setAt, sliceAV, optI, partAV, bldAV, fillAV, binAV, binI, AV.cells, callEff, calleeOf, frKill, memKill, AV.kill, AObj.kill, AV.has, AV.hasL, Op.operands, Call.operands, tyF, keepF, keepM, viewIds, cChk, renOf, moGet, moWs, moQ, cEff, moLike, moHave, AV.ren, renL, AObj.ren, AObj.like, kept, startC, moMem, AV.frz, frz1, frzL, frSub, memSub, frzs, AS.frz, frFrz, memFrz, AObj.frz, takeMap, takeLen, bleF, Nat.ble_eq, memAny, objAny]
    · trivial
    repeat (first | refine AWp.seq ?_ | refine AWp.block ?_)
    refine AWp.cond rfl (fun hm2 => ?_) (fun hm2 => ?_)
    · have hm2' : m < x.slots.length := by have := of_decide_eq_true hm2; omega
      have ht : x.slots[m]? = some x.slots[m] := List.getElem?_eq_getElem hm2'
      have htm : x.slots[m] ∈ x.slots := List.getElem_mem hm2'
      have htk : x.slots.take (m + 1) = x.slots.take m ++ [x.slots[m]] := by rw [List.take_add_one, ht]; rfl
      generalize x.slots[m] = t at ht htm htk
      have hdt := d2.dupOk (s := t) (.inr (.inl (by rw [d3]; exact hin t htm)))
      have hnx : h.dups (x.slots.take (m + 1)) = (((h.dups (x.slots.take m)).1.dup t).1, 0) := by
        rw [htk, dups_append _ _ d1, Hp.dups, if_pos hdt]; rfl
      have hdup := sp_heapDup hOm (by omega) (by omega) t
      generalize (h.dups (x.slots.take m)).1 = hm' at hdt hnx hdup ⊢
      obtain ⟨tk, tn⟩ := t
      refine AWp.skip ?_
      repeat (first | refine AWp.seq ?_ | refine AWp.block ?_)
      apply AWp.reg [] []
      · conv => lhs; simp [runD, mkRc, dstOk, guardOk, opEff, opEff0, effOp, pureOp, callOp, zEff, evA, constAV, frGet, memGet, startAS, frOf, isGoCall, idIn, AS.after, nextR, opnIds, objIds, AV.ids, idsL, AObj.ids, frNo, memNo, opnAny, isAny, mkVal, rdCells, wrCells, fldAddr, idxAddr, srcRows, litRows, toD1, toDs, setAt, sliceAV, optI, partAV, bldAV, fillAV, binAV, binI, AV.cells, callEff, calleeOf, frKill, memKill, AV.kill, AObj.kill, AV.has, AV.hasL, Op.operands, Call.operands, tyF, keepF, keepM, viewIds, cChk, renOf, moGet, moWs, moQ, cEff, moLike, moHave, AV.ren, renL, AObj.ren, AObj.like, kept, startC, moMem, AV.frz, frz1, frzL, frSub, memSub, frzs, AS.frz, frFrz, memFrz, AObj.frz, takeMap, takeLen, bleF, Nat.ble_eq, memAny, objAny, ht, Slt.row]
      · first | trivial | (simp [inI, maxLen]; done) | (simp [inI, maxLen]; omega)
      repeat (first | refine AWp.seq ?_ | refine AWp.block ?_)
      apply AWp.reg [] [.p (fun _ => .tuple [hpAV (hm'.dup ⟨tk, tn⟩).1, .d (.int (hm'.dup ⟨tk, tn⟩).2)]) none]
      · conv => lhs; simp [runD, mkRc, dstOk, guardOk, opEff, opEff0, effOp, pureOp, callOp, zEff, evA, constAV, frGet, memGet, startAS, frOf, isGoCall, idIn, AS.after, nextR, opnIds, objIds, AV.ids, idsL, AObj.ids, frNo, memNo, opnAny, isAny, mkVal, rdCells, wrCells, fldAddr, idxAddr, srcRows, litRows, toD1, toDs, setAt, sliceAV, optI, partAV, bldAV, fillAV, binAV, binI, AV.cells, callEff, calleeOf, frKill, memKill, AV.kill, AObj.kill, AV.has, AV.hasL, Op.operands, Call.operands, tyF, keepF, keepM, viewIds, cChk, renOf, moGet, moWs, moQ, cEff, moLike, moHave, AV.ren, renL, AObj.ren, AObj.like, kept, startC, moMem, AV.frz, frz1, frzL, frSub, memSub, frzs, AS.frz, frFrz, memFrz, AObj.frz, takeMap, takeLen, bleF, Nat.ble_eq, memAny, objAny]
      · exact hdup
      repeat (first | refine AWp.seq ?_ | refine AWp.block ?_)
      apply AWp.reg [] []
      · conv => lhs; simp [runD, mkRc, dstOk, guardOk, opEff, opEff0, effOp, pureOp, callOp, zEff, evA, constAV, frGet, memGet, startAS, frOf, isGoCall, idIn, AS.after, nextR, opnIds, objIds, AV.ids, idsL, AObj.ids, frNo, memNo, opnAny, isAny, mkVal, rdCells, wrCells, fldAddr, idxAddr, srcRows, litRows, toD1, toDs, setAt, sliceAV, optI, partAV, bldAV, fillAV, binAV, binI, AV.cells, callEff, calleeOf, frKill, memKill, AV.kill, AObj.kill, AV.has, AV.hasL, Op.operands, Call.operands, tyF, keepF, keepM, viewIds, cChk, renOf, moGet, moWs, moQ, cEff, moLike, moHave, AV.ren, renL, AObj.ren, AObj.like, kept, startC, moMem, AV.frz, frz1, frzL, frSub, memSub, frzs, AS.frz, frFrz, memFrz, AObj.frz, takeMap, takeLen, bleF, Nat.ble_eq, memAny, objAny, hdt]
      · trivial
      repeat (first | refine AWp.seq ?_ | refine AWp.block ?_)
      refine AWp.cond rfl (fun hc3 => ?_) (fun hc3 => ?_)
      · cases hc3
      refine AWp.skip ?_
      repeat (first | refine AWp.seq ?_ | refine AWp.block ?_)
      apply AWp.reg [] []
      · conv => lhs; simp [runD, mkRc, dstOk, guardOk, opEff, opEff0, effOp, pureOp, callOp, zEff, evA, constAV, frGet, memGet, startAS, frOf, isGoCall, idIn, AS.after, nextR, opnIds, objIds, AV.ids, idsL, AObj.ids, frNo, memNo, opnAny, isAny, mkVal, rdCells, wrCells, fldAddr, idxAddr, srcRows, litRows, toD1, toDs, setAt, sliceAV, optI, partAV, bldAV, fillAV, binAV, binI, AV.cells, callEff, calleeOf, frKill, memKill, AV.kill, AObj.kill, AV.has, AV.hasL, Op.operands, Call.operands, tyF, keepF, keepM, viewIds, cChk, renOf, moGet, moWs, moQ, cEff, moLike, moHave, AV.ren, renL, AObj.ren, AObj.like, kept, startC, moMem, AV.frz, frz1, frzL, frSub, memSub, frzs, AS.frz, frFrz, memFrz, AObj.frz, takeMap, takeLen, bleF, Nat.ble_eq, memAny, objAny, hpAV]
      · trivial
      repeat (first | refine AWp.seq ?_ | refine AWp.block ?_)
      apply AWp.reg [] []
      · conv => lhs; simp [runD, mkRc, dstOk, guardOk, opEff, opEff0, effOp, pureOp, callOp, zEff, evA, constAV, frGet, memGet, startAS, frOf, isGoCall, idIn, AS.after, nextR, opnIds, objIds, AV.ids, idsL, AObj.ids, frNo, memNo, opnAny, isAny, mkVal, rdCells, wrCells, fldAddr, idxAddr, srcRows, litRows, toD1, toDs, setAt, sliceAV, optI, partAV, bldAV, fillAV, binAV, binI, AV.cells, callEff, calleeOf, frKill, memKill, AV.kill, AObj.kill, AV.has, AV.hasL, Op.operands, Call.operands, tyF, keepF, keepM, viewIds, cChk, renOf, moGet, moWs, moQ, cEff, moLike, moHave, AV.ren, renL, AObj.ren, AObj.like, kept, startC, moMem, AV.frz, frz1, frzL, frSub, memSub, frzs, AS.frz, frFrz, memFrz, AObj.frz, takeMap, takeLen, bleF, Nat.ble_eq, memAny, objAny]
      · first | trivial | (simp [inI, maxLen]; done) | (simp [inI, maxLen]; omega)
      refine ⟨⟨m + 1, hm2'⟩, by simp; omega, Le.sub (by simp [runD, mkRc, dstOk, guardOk, opEff, opEff0, effOp, pureOp, callOp, zEff, evA, constAV, frGet, memGet, startAS, frOf, isGoCall, idIn, AS.after, nextR, opnIds, objIds, AV.ids, idsL, AObj.ids, frNo, memNo, opnAny, isAny, mkVal, rdCells, wrCells, fldAddr, idxAddr, srcRows, litRows, toD1, toDs, setAt, sliceAV, optI, partAV, bldAV, fillAV, binAV, binI, AV.cells, callEff, calleeOf, frKill, memKill, AV.kill, AObj.kill, AV.has, AV.hasL, Op.operands, Call.operands, tyF, keepF, keepM, viewIds, cChk, renOf, moGet, moWs, moQ, cEff, moLike, moHave, AV.ren, renL, AObj.ren, AObj.like, kept, startC, moMem, AV.frz, frz1, frzL, frSub, memSub, frzs, AS.frz, frFrz, memFrz, AObj.frz, takeMap, takeLen, bleF, Nat.ble_eq, memAny, objAny]) (by simp [runD, mkRc, dstOk, guardOk, opEff, opEff0, effOp, pureOp, callOp, zEff, evA, constAV, frGet, memGet, startAS, frOf, isGoCall, idIn, AS.after, nextR, opnIds, objIds, AV.ids, idsL, AObj.ids, frNo, memNo, opnAny, isAny, mkVal, rdCells, wrCells, fldAddr, idxAddr, srcRows, litRows, toD1, toDs, setAt, sliceAV, optI, partAV, bldAV, fillAV, binAV, binI, AV.cells, callEff, calleeOf, frKill, memKill, AV.kill, AObj.kill, AV.has, AV.hasL, Op.operands, Call.operands, tyF, keepF, keepM, viewIds, cChk, renOf, moGet, moWs, moQ, cEff, moLike, moHave, AV.ren, renL, AObj.ren, AObj.like, kept, startC, moMem, AV.frz, frz1, frzL, frSub, memSub, frzs, AS.frz, frFrz, memFrz, AObj.frz, takeMap, takeLen, bleF, Nat.ble_eq, memAny, objAny, hnx])⟩
    · have hm2' : m = x.slots.length := by have := of_decide_eq_false hm2; omega
      subst hm2'
      rw [List.take_length] at d1 d2 d3 d4 hOm ⊢
      refine AWp.exit ?_
      obtain ⟨_, l1, l2⟩ : (h.dups x.slots).2 = 0 ∧ (h.dups x.slots).1.drop ⟨2, i⟩ = ((h.open ⟨2, i⟩ false).1, 0) ∧ (h.open ⟨2, i⟩ false).2.2 = 0 := by
        by_cases hc1 : x.count = 1
        · exact take_one hPs rfl hat hc1
        · exact take_more hPs rfl hat hc1
      have hdrop := sp_heapDrop hOm (by omega) ⟨2, i⟩
      have htake := sp_heapTake hO (by omega) (by omega) ⟨2, i⟩
      have hg : (h.open ⟨2, i⟩ false).1.cells.length ≤ 1000000 := by
        have := Sz.drops _ (st := [⟨2, i⟩]) (Nat.le_refl _) d4
        have := this.len
        change ((h.dups x.slots).1.drop ⟨2, i⟩).1.cells.length ≤ 61 at this
        rw [l1] at this
        dsimp only at this
        omega
      have hsame := sp_SameHeap _ hg
      rw [l1] at hdrop
      rw [l2] at htake
      dsimp only at hdrop
      generalize (h.open ⟨2, i⟩ false).1 = g at hdrop htake hsame
      generalize (h.dups x.slots).1 = hd at hdrop ⊢
      repeat (first | refine AWp.seq ?_ | refine AWp.block ?_)
      apply AWp.draw [] [.p (fun _ => .tuple [hpAV g, .d (.int 0)]) none] mixed
      · conv => lhs; simp [runD, mkRc, dstOk, guardOk, opEff, opEff0, effOp, pureOp, callOp, zEff, evA, constAV, frGet, memGet, startAS, frOf, isGoCall, idIn, AS.after, nextR, opnIds, objIds, AV.ids, idsL, AObj.ids, frNo, memNo, opnAny, isAny, mkVal, rdCells, wrCells, fldAddr, idxAddr, srcRows, litRows, toD1, toDs, setAt, sliceAV, optI, partAV, bldAV, fillAV, binAV, binI, AV.cells, callEff, calleeOf, frKill, memKill, AV.kill, AObj.kill, AV.has, AV.hasL, Op.operands, Call.operands, tyF, keepF, keepM, viewIds, cChk, renOf, moGet, moWs, moQ, cEff, moLike, moHave, AV.ren, renL, AObj.ren, AObj.like, kept, startC, moMem, AV.frz, frz1, frzL, frSub, memSub, frzs, AS.frz, frFrz, memFrz, AObj.frz, takeMap, takeLen, bleF, Nat.ble_eq, memAny, objAny, hx, Slt.row]
      · rfl
      · exact hdrop
      repeat (first | refine AWp.seq ?_ | refine AWp.block ?_)
      apply AWp.draw [] [.p (fun _ => .tuple [hpAV g, .d (.int 0)]) none] mixed
      · conv => lhs; simp [runD, mkRc, dstOk, guardOk, opEff, opEff0, effOp, pureOp, callOp, zEff, evA, constAV, frGet, memGet, startAS, frOf, isGoCall, idIn, AS.after, nextR, opnIds, objIds, AV.ids, idsL, AObj.ids, frNo, memNo, opnAny, isAny, mkVal, rdCells, wrCells, fldAddr, idxAddr, srcRows, litRows, toD1, toDs, setAt, sliceAV, optI, partAV, bldAV, fillAV, binAV, binI, AV.cells, callEff, calleeOf, frKill, memKill, AV.kill, AObj.kill, AV.has, AV.hasL, Op.operands, Call.operands, tyF, keepF, keepM, viewIds, cChk, renOf, moGet, moWs, moQ, cEff, moLike, moHave, AV.ren, renL, AObj.ren, AObj.like, kept, startC, moMem, AV.frz, frz1, frzL, frSub, memSub, frzs, AS.frz, frFrz, memFrz, AObj.frz, takeMap, takeLen, bleF, Nat.ble_eq, memAny, objAny, hx, Slt.row]
      · rfl
      · exact htake
      repeat (first | refine AWp.seq ?_ | refine AWp.block ?_)
      apply AWp.reg [] [.p (fun _ => .d (.bool true)) none]
      · conv => lhs; simp [runD, mkRc, dstOk, guardOk, opEff, opEff0, effOp, pureOp, callOp, zEff, evA, constAV, frGet, memGet, startAS, frOf, isGoCall, idIn, AS.after, nextR, opnIds, objIds, AV.ids, idsL, AObj.ids, frNo, memNo, opnAny, isAny, mkVal, rdCells, wrCells, fldAddr, idxAddr, srcRows, litRows, toD1, toDs, setAt, sliceAV, optI, partAV, bldAV, fillAV, binAV, binI, AV.cells, callEff, calleeOf, frKill, memKill, AV.kill, AObj.kill, AV.has, AV.hasL, Op.operands, Call.operands, tyF, keepF, keepM, viewIds, cChk, renOf, moGet, moWs, moQ, cEff, moLike, moHave, AV.ren, renL, AObj.ren, AObj.like, kept, startC, moMem, AV.frz, frz1, frzL, frSub, memSub, frzs, AS.frz, frFrz, memFrz, AObj.frz, takeMap, takeLen, bleF, Nat.ble_eq, memAny, objAny, hpAV]
      · exact hsame
      refine AWp.ret ?_
      try dsimp only [thenQ, blockQ]
      apply endQ.ret
      · rfl
      · conv => lhs; simp [runD, mkRc, dstOk, guardOk, opEff, opEff0, effOp, pureOp, callOp, zEff, evA, constAV, frGet, memGet, startAS, frOf, isGoCall, idIn, AS.after, nextR, opnIds, objIds, AV.ids, idsL, AObj.ids, frNo, memNo, opnAny, isAny, mkVal, rdCells, wrCells, fldAddr, idxAddr, srcRows, litRows, toD1, toDs, setAt, sliceAV, optI, partAV, bldAV, fillAV, binAV, binI, AV.cells, callEff, calleeOf, frKill, memKill, AV.kill, AObj.kill, AV.has, AV.hasL, Op.operands, Call.operands, tyF, keepF, keepM, viewIds, cChk, renOf, moGet, moWs, moQ, cEff, moLike, moHave, AV.ren, renL, AObj.ren, AObj.like, kept, startC, moMem, AV.frz, frz1, frzL, frSub, memSub, frzs, AS.frz, frFrz, memFrz, AObj.frz, takeMap, takeLen, bleF, Nat.ble_eq, memAny, objAny, resAV, Try.results5]
      rfl
  · repeat (first | refine AWp.seq ?_ | refine AWp.block ?_)
    apply AWp.reg [] []
    · conv => lhs; simp [runD, mkRc, dstOk, guardOk, opEff, opEff0, effOp, pureOp, callOp, zEff, evA, constAV, frGet, memGet, startAS, frOf, isGoCall, idIn, AS.after, nextR, opnIds, objIds, AV.ids, idsL, AObj.ids, frNo, memNo, opnAny, isAny, mkVal, rdCells, wrCells, fldAddr, idxAddr, srcRows, litRows, toD1, toDs, setAt, sliceAV, optI, partAV, bldAV, fillAV, binAV, binI, AV.cells, callEff, calleeOf, frKill, memKill, AV.kill, AObj.kill, AV.has, AV.hasL, Op.operands, Call.operands, tyF, keepF, keepM, viewIds, cChk, renOf, moGet, moWs, moQ, cEff, moLike, moHave, AV.ren, renL, AObj.ren, AObj.like, kept, startC, moMem, AV.frz, frz1, frzL, frSub, memSub, frzs, AS.frz, frFrz, memFrz, AObj.frz, takeMap, takeLen, bleF, Nat.ble_eq, memAny, objAny, hk0, hk1, hx, Slt.row, hk2]
    · first | trivial | (simp [inI, maxLen]; done) | (simp [inI, maxLen]; omega)
    repeat (first | refine AWp.seq ?_ | refine AWp.block ?_)
    refine AWp.cond rfl (fun h1 => ?_) (fun h1 => ?_)
    · repeat (first | refine AWp.seq ?_ | refine AWp.block ?_)
      apply AWp.reg [] []
      · conv => lhs; simp [runD, mkRc, dstOk, guardOk, opEff, opEff0, effOp, pureOp, callOp, zEff, evA, constAV, frGet, memGet, startAS, frOf, isGoCall, idIn, AS.after, nextR, opnIds, objIds, AV.ids, idsL, AObj.ids, frNo, memNo, opnAny, isAny, mkVal, rdCells, wrCells, fldAddr, idxAddr, srcRows, litRows, toD1, toDs, setAt, sliceAV, optI, partAV, bldAV, fillAV, binAV, binI, AV.cells, callEff, calleeOf, frKill, memKill, AV.kill, AObj.kill, AV.has, AV.hasL, Op.operands, Call.operands, tyF, keepF, keepM, viewIds, cChk, renOf, moGet, moWs, moQ, cEff, moLike, moHave, AV.ren, renL, AObj.ren, AObj.like, kept, startC, moMem, AV.frz, frz1, frzL, frSub, memSub, frzs, AS.frz, frFrz, memFrz, AObj.frz, takeMap, takeLen, bleF, Nat.ble_eq, memAny, objAny]
      · trivial
      refine AWp.ret ?_
      try dsimp only [thenQ, blockQ]
      apply endQ.ret
      · rfl
      · conv => lhs; simp [runD, mkRc, dstOk, guardOk, opEff, opEff0, effOp, pureOp, callOp, zEff, evA, constAV, frGet, memGet, startAS, frOf, isGoCall, idIn, AS.after, nextR, opnIds, objIds, AV.ids, idsL, AObj.ids, frNo, memNo, opnAny, isAny, mkVal, rdCells, wrCells, fldAddr, idxAddr, srcRows, litRows, toD1, toDs, setAt, sliceAV, optI, partAV, bldAV, fillAV, binAV, binI, AV.cells, callEff, calleeOf, frKill, memKill, AV.kill, AObj.kill, AV.has, AV.hasL, Op.operands, Call.operands, tyF, keepF, keepM, viewIds, cChk, renOf, moGet, moWs, moQ, cEff, moLike, moHave, AV.ren, renL, AObj.ren, AObj.like, kept, startC, moMem, AV.frz, frz1, frzL, frSub, memSub, frzs, AS.frz, frFrz, memFrz, AObj.frz, takeMap, takeLen, bleF, Nat.ble_eq, memAny, objAny, resAV, Try.results5]
      rfl
    · cases h1
end Go.Proofs.Ytcakhebnebcpcaa
