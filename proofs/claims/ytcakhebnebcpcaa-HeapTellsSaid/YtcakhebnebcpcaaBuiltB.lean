/- xclaw10.built, by the abstract machine. -/
import Derived.Test.YtcakhebnebcpcaaRightC
namespace Go.Proofs.Ytcakhebnebcpcaa
open Go.RowKit
set_option linter.unusedVariables false
set_option linter.unusedSimpArgs false

def actsAV (l : List Int) : AV := .d (.sl (l.map fun n => [.int n]))
/-- The variables of built, at the head of a round. -/
def bFr (acts : List Int) (k : Nat) : List (Nat × AV) := [(2, .ptr 2 0), (4, .ptr 4 0), (5, .ptr 5 0), (24, .d (.sl (acts.map fun n => [.int n]))), (25, .d (.int acts.length)), (26, .d (.int k))]
def bMem (h : Hp) (r : List Slt) : List (Nat × Option AObj) := [(2, some (.blk 28 [.lit (.slice none 0 0), .d (.int 0), .d (.int 0), .d (.int 0), .d (.int 0)])), (4, some (.blk 28 [.d (.sl (h.cells.map Cll.row)), .d (.int h.made), .d (.int h.used), .d (.int h.live), .d (.int h.peak)])), (5, some (.blk 25 [.arr 400 0 r.length])), (400, some (.arr 24 2 (r.map Slt.row)))]

set_option maxHeartbeats 4000000 in
theorem sp_built (acts : List Int) (hlen : acts.length ≤ 17592186044416) : PSpec Try.prog 7 [actsAV acts] (fun _ => .tuple [hpAV (builtN acts acts.length).1, slsAV (builtN acts acts.length).2]) none := by
  refine PSpec.of Try.func7 rfl rfl rfl (Nat.le_of_ble_eq_true rfl) ?_
  show AWp _ _ (endQ _ Try.f7 _ _ _) (startAS 145 _)
  repeat (first | refine AWp.seq ?_ | refine AWp.block ?_)
  apply AWp.reg [] []
  · conv => lhs; simp [runD, mkRc, dstOk, guardOk, opEff, opEff0, effOp, pureOp, callOp, zEff, evA, constAV, frGet, memGet, startAS, frOf, isGoCall, idIn, AS.after, nextR, opnIds, objIds, AV.ids, idsL, AObj.ids, frNo, memNo, opnAny, isAny, mkVal, rdCells, wrCells, fldAddr, idxAddr, srcRows, litRows, toD1, toDs, setAt, sliceAV, optI, partAV, bldAV, fillAV, binAV, binI, AV.cells, callEff, calleeOf, frKill, memKill, AV.kill, AObj.kill, AV.has, AV.hasL, Op.operands, Call.operands, tyF, keepF, keepM, viewIds, cChk, renOf, moGet, moWs, moQ, cEff, moLike, moHave, AV.ren, renL, AObj.ren, AObj.like, kept, startC, moMem, AV.frz, frz1, frzL, frSub, memSub, frzs, AS.frz, frFrz, memFrz, AObj.frz, takeMap, takeLen, bleF, Nat.ble_eq, memAny, objAny]
  · trivial
  repeat (first | refine AWp.seq ?_ | refine AWp.block ?_)
  apply AWp.reg [] []
  · conv => lhs; simp [runD, mkRc, dstOk, guardOk, opEff, opEff0, effOp, pureOp, callOp, zEff, evA, constAV, frGet, memGet, startAS, frOf, isGoCall, idIn, AS.after, nextR, opnIds, objIds, AV.ids, idsL, AObj.ids, frNo, memNo, opnAny, isAny, mkVal, rdCells, wrCells, fldAddr, idxAddr, srcRows, litRows, toD1, toDs, setAt, sliceAV, optI, partAV, bldAV, fillAV, binAV, binI, AV.cells, callEff, calleeOf, frKill, memKill, AV.kill, AObj.kill, AV.has, AV.hasL, Op.operands, Call.operands, tyF, keepF, keepM, viewIds, cChk, renOf, moGet, moWs, moQ, cEff, moLike, moHave, AV.ren, renL, AObj.ren, AObj.like, kept, startC, moMem, AV.frz, frz1, frzL, frSub, memSub, frzs, AS.frz, frFrz, memFrz, AObj.frz, takeMap, takeLen, bleF, Nat.ble_eq, memAny, objAny]
  · trivial
  repeat (first | refine AWp.seq ?_ | refine AWp.block ?_)
  apply AWp.reg [] []
  · conv => lhs; simp [runD, mkRc, dstOk, guardOk, opEff, opEff0, effOp, pureOp, callOp, zEff, evA, constAV, frGet, memGet, startAS, frOf, isGoCall, idIn, AS.after, nextR, opnIds, objIds, AV.ids, idsL, AObj.ids, frNo, memNo, opnAny, isAny, mkVal, rdCells, wrCells, fldAddr, idxAddr, srcRows, litRows, toD1, toDs, setAt, sliceAV, optI, partAV, bldAV, fillAV, binAV, binI, AV.cells, callEff, calleeOf, frKill, memKill, AV.kill, AObj.kill, AV.has, AV.hasL, Op.operands, Call.operands, tyF, keepF, keepM, viewIds, cChk, renOf, moGet, moWs, moQ, cEff, moLike, moHave, AV.ren, renL, AObj.ren, AObj.like, kept, startC, moMem, AV.frz, frz1, frzL, frSub, memSub, frzs, AS.frz, frFrz, memFrz, AObj.frz, takeMap, takeLen, bleF, Nat.ble_eq, memAny, objAny]
  · trivial
  repeat (first | refine AWp.seq ?_ | refine AWp.block ?_)
  apply AWp.reg [] []
  · conv => lhs; simp [runD, mkRc, dstOk, guardOk, opEff, opEff0, effOp, pureOp, callOp, zEff, evA, constAV, frGet, memGet, startAS, frOf, isGoCall, idIn, AS.after, nextR, opnIds, objIds, AV.ids, idsL, AObj.ids, frNo, memNo, opnAny, isAny, mkVal, rdCells, wrCells, fldAddr, idxAddr, srcRows, litRows, toD1, toDs, setAt, sliceAV, optI, partAV, bldAV, fillAV, binAV, binI, AV.cells, callEff, calleeOf, frKill, memKill, AV.kill, AObj.kill, AV.has, AV.hasL, Op.operands, Call.operands, tyF, keepF, keepM, viewIds, cChk, renOf, moGet, moWs, moQ, cEff, moLike, moHave, AV.ren, renL, AObj.ren, AObj.like, kept, startC, moMem, AV.frz, frz1, frzL, frSub, memSub, frzs, AS.frz, frFrz, memFrz, AObj.frz, takeMap, takeLen, bleF, Nat.ble_eq, memAny, objAny, actsAV]
  · trivial
  repeat (first | refine AWp.seq ?_ | refine AWp.block ?_)
  refine AWp.le (Le.low [400] [] (fr := bFr acts 0) (mem := bMem Hp.zero []) rfl (by simp [runD, mkRc, dstOk, guardOk, opEff, opEff0, effOp, pureOp, callOp, zEff, evA, constAV, frGet, memGet, startAS, frOf, isGoCall, idIn, AS.after, nextR, opnIds, objIds, AV.ids, idsL, AObj.ids, frNo, memNo, opnAny, isAny, mkVal, rdCells, wrCells, fldAddr, idxAddr, srcRows, litRows, toD1, toDs, setAt, sliceAV, optI, partAV, bldAV, fillAV, binAV, binI, AV.cells, callEff, calleeOf, frKill, memKill, AV.kill, AObj.kill, AV.has, AV.hasL, Op.operands, Call.operands, tyF, keepF, keepM, viewIds, cChk, renOf, moGet, moWs, moQ, cEff, moLike, moHave, AV.ren, renL, AObj.ren, AObj.like, kept, startC, moMem, AV.frz, frz1, frzL, frSub, memSub, frzs, AS.frz, frFrz, memFrz, AObj.frz, takeMap, takeLen, bleF, Nat.ble_eq, memAny, objAny, frLow, memLow, memLow1, objLow, memEmpty, Low, LowL, bFr, actsAV]) (by simp [runD, mkRc, dstOk, guardOk, opEff, opEff0, effOp, pureOp, callOp, zEff, evA, constAV, frGet, memGet, startAS, frOf, isGoCall, idIn, AS.after, nextR, opnIds, objIds, AV.ids, idsL, AObj.ids, frNo, memNo, opnAny, isAny, mkVal, rdCells, wrCells, fldAddr, idxAddr, srcRows, litRows, toD1, toDs, setAt, sliceAV, optI, partAV, bldAV, fillAV, binAV, binI, AV.cells, callEff, calleeOf, frKill, memKill, AV.kill, AObj.kill, AV.has, AV.hasL, Op.operands, Call.operands, tyF, keepF, keepM, viewIds, cChk, renOf, moGet, moWs, moQ, cEff, moLike, moHave, AV.ren, renL, AObj.ren, AObj.like, kept, startC, moMem, AV.frz, frz1, frzL, frSub, memSub, frzs, AS.frz, frFrz, memFrz, AObj.frz, takeMap, takeLen, bleF, Nat.ble_eq, memAny, objAny, frLow, memLow, memLow1, objLow, memEmpty, Low, LowL, bMem, Hp.zero])) ?_
  refine AWp.loop (σ := fun i : {k : Nat // k ≤ acts.length} => ⟨145, bFr acts i.1, bMem (builtN acts i.1).1 (builtN acts i.1).2⟩)
    (μ := fun i => acts.length - i.1) ⟨0, Nat.zero_le _⟩ (Le.refl _) (fun ⟨k, hk⟩ => ?_)
  have hI := builtN_inv acts k
  repeat (first | refine AWp.seq ?_ | refine AWp.block ?_)
  apply AWp.reg [] []
  · conv => lhs; simp [runD, mkRc, dstOk, guardOk, opEff, opEff0, effOp, pureOp, callOp, zEff, evA, constAV, frGet, memGet, startAS, frOf, isGoCall, idIn, AS.after, nextR, opnIds, objIds, AV.ids, idsL, AObj.ids, frNo, memNo, opnAny, isAny, mkVal, rdCells, wrCells, fldAddr, idxAddr, srcRows, litRows, toD1, toDs, setAt, sliceAV, optI, partAV, bldAV, fillAV, binAV, binI, AV.cells, callEff, calleeOf, frKill, memKill, AV.kill, AObj.kill, AV.has, AV.hasL, Op.operands, Call.operands, tyF, keepF, keepM, viewIds, cChk, renOf, moGet, moWs, moQ, cEff, moLike, moHave, AV.ren, renL, AObj.ren, AObj.like, kept, startC, moMem, AV.frz, frz1, frzL, frSub, memSub, frzs, AS.frz, frFrz, memFrz, AObj.frz, takeMap, takeLen, bleF, Nat.ble_eq, memAny, objAny, bFr, actsAV]
  · trivial
  repeat (first | refine AWp.seq ?_ | refine AWp.block ?_)
  refine AWp.cond rfl (fun h => ?_) (fun h => ?_)
  · have hlt : k < acts.length := by simpa using h
    have hx : acts[k]? = some acts[k] := List.getElem?_eq_getElem hlt
    have hst : builtN acts (k + 1) = stepB k acts[k] (builtN acts k) := by rw [builtN, hx]; rfl
    generalize acts[k] = n at hx hst
    refine AWp.skip ?_
    refine AWp.seqMid ⟨145, bFr acts k, bMem (builtN acts (k + 1)).1 (builtN acts (k + 1)).2⟩ ?_ ?_
    · generalize builtN acts (k + 1) = q' at hst ⊢
      generalize builtN acts k = q at hst hI ⊢
      obtain ⟨hp, r⟩ := q
      repeat (first | refine AWp.seq ?_ | refine AWp.block ?_)
      apply AWp.reg [] []
      · conv => lhs; simp [runD, mkRc, dstOk, guardOk, opEff, opEff0, effOp, pureOp, callOp, zEff, evA, constAV, frGet, memGet, startAS, frOf, isGoCall, idIn, AS.after, nextR, opnIds, objIds, AV.ids, idsL, AObj.ids, frNo, memNo, opnAny, isAny, mkVal, rdCells, wrCells, fldAddr, idxAddr, srcRows, litRows, toD1, toDs, setAt, sliceAV, optI, partAV, bldAV, fillAV, binAV, binI, AV.cells, callEff, calleeOf, frKill, memKill, AV.kill, AObj.kill, AV.has, AV.hasL, Op.operands, Call.operands, tyF, keepF, keepM, viewIds, cChk, renOf, moGet, moWs, moQ, cEff, moLike, moHave, AV.ren, renL, AObj.ren, AObj.like, kept, startC, moMem, AV.frz, frz1, frzL, frSub, memSub, frzs, AS.frz, frFrz, memFrz, AObj.frz, takeMap, takeLen, bleF, Nat.ble_eq, memAny, objAny, bFr, bMem, actsAV, hx]
      · trivial
      by_cases hskip : n < 0 ∨ 1000 < n ∨ 60 < k
      · rw [stepB, if_pos hskip] at hst
        subst hst
        by_cases h1 : n < 0
        · repeat (first | refine AWp.seq ?_ | refine AWp.block ?_)
          apply AWp.reg [] []
          · conv => lhs; simp [runD, mkRc, dstOk, guardOk, opEff, opEff0, effOp, pureOp, callOp, zEff, evA, constAV, frGet, memGet, startAS, frOf, isGoCall, idIn, AS.after, nextR, opnIds, objIds, AV.ids, idsL, AObj.ids, frNo, memNo, opnAny, isAny, mkVal, rdCells, wrCells, fldAddr, idxAddr, srcRows, litRows, toD1, toDs, setAt, sliceAV, optI, partAV, bldAV, fillAV, binAV, binI, AV.cells, callEff, calleeOf, frKill, memKill, AV.kill, AObj.kill, AV.has, AV.hasL, Op.operands, Call.operands, tyF, keepF, keepM, viewIds, cChk, renOf, moGet, moWs, moQ, cEff, moLike, moHave, AV.ren, renL, AObj.ren, AObj.like, kept, startC, moMem, AV.frz, frz1, frzL, frSub, memSub, frzs, AS.frz, frFrz, memFrz, AObj.frz, takeMap, takeLen, bleF, Nat.ble_eq, memAny, objAny, h1]
          · trivial
          repeat (first | refine AWp.seq ?_ | refine AWp.block ?_)
          refine AWp.cond rfl (fun h2 => ?_) (fun h2 => ?_)
          · refine AWp.exit ?_
            exact Le.sub (by simp [runD, mkRc, dstOk, guardOk, opEff, opEff0, effOp, pureOp, callOp, zEff, evA, constAV, frGet, memGet, startAS, frOf, isGoCall, idIn, AS.after, nextR, opnIds, objIds, AV.ids, idsL, AObj.ids, frNo, memNo, opnAny, isAny, mkVal, rdCells, wrCells, fldAddr, idxAddr, srcRows, litRows, toD1, toDs, setAt, sliceAV, optI, partAV, bldAV, fillAV, binAV, binI, AV.cells, callEff, calleeOf, frKill, memKill, AV.kill, AObj.kill, AV.has, AV.hasL, Op.operands, Call.operands, tyF, keepF, keepM, viewIds, cChk, renOf, moGet, moWs, moQ, cEff, moLike, moHave, AV.ren, renL, AObj.ren, AObj.like, kept, startC, moMem, AV.frz, frz1, frzL, frSub, memSub, frzs, AS.frz, frFrz, memFrz, AObj.frz, takeMap, takeLen, bleF, Nat.ble_eq, memAny, objAny, bFr, actsAV]) (by simp [runD, mkRc, dstOk, guardOk, opEff, opEff0, effOp, pureOp, callOp, zEff, evA, constAV, frGet, memGet, startAS, frOf, isGoCall, idIn, AS.after, nextR, opnIds, objIds, AV.ids, idsL, AObj.ids, frNo, memNo, opnAny, isAny, mkVal, rdCells, wrCells, fldAddr, idxAddr, srcRows, litRows, toD1, toDs, setAt, sliceAV, optI, partAV, bldAV, fillAV, binAV, binI, AV.cells, callEff, calleeOf, frKill, memKill, AV.kill, AObj.kill, AV.has, AV.hasL, Op.operands, Call.operands, tyF, keepF, keepM, viewIds, cChk, renOf, moGet, moWs, moQ, cEff, moLike, moHave, AV.ren, renL, AObj.ren, AObj.like, kept, startC, moMem, AV.frz, frz1, frzL, frSub, memSub, frzs, AS.frz, frFrz, memFrz, AObj.frz, takeMap, takeLen, bleF, Nat.ble_eq, memAny, objAny, bMem])
          · cases h2
        by_cases h2 : 1000 < n
        · repeat (first | refine AWp.seq ?_ | refine AWp.block ?_)
          apply AWp.reg [] []
          · conv => lhs; simp [runD, mkRc, dstOk, guardOk, opEff, opEff0, effOp, pureOp, callOp, zEff, evA, constAV, frGet, memGet, startAS, frOf, isGoCall, idIn, AS.after, nextR, opnIds, objIds, AV.ids, idsL, AObj.ids, frNo, memNo, opnAny, isAny, mkVal, rdCells, wrCells, fldAddr, idxAddr, srcRows, litRows, toD1, toDs, setAt, sliceAV, optI, partAV, bldAV, fillAV, binAV, binI, AV.cells, callEff, calleeOf, frKill, memKill, AV.kill, AObj.kill, AV.has, AV.hasL, Op.operands, Call.operands, tyF, keepF, keepM, viewIds, cChk, renOf, moGet, moWs, moQ, cEff, moLike, moHave, AV.ren, renL, AObj.ren, AObj.like, kept, startC, moMem, AV.frz, frz1, frzL, frSub, memSub, frzs, AS.frz, frFrz, memFrz, AObj.frz, takeMap, takeLen, bleF, Nat.ble_eq, memAny, objAny, h1, h2]
          · trivial
          repeat (first | refine AWp.seq ?_ | refine AWp.block ?_)
          refine AWp.cond rfl (fun h2 => ?_) (fun h2 => ?_)
          · refine AWp.exit ?_
            exact Le.sub (by simp [runD, mkRc, dstOk, guardOk, opEff, opEff0, effOp, pureOp, callOp, zEff, evA, constAV, frGet, memGet, startAS, frOf, isGoCall, idIn, AS.after, nextR, opnIds, objIds, AV.ids, idsL, AObj.ids, frNo, memNo, opnAny, isAny, mkVal, rdCells, wrCells, fldAddr, idxAddr, srcRows, litRows, toD1, toDs, setAt, sliceAV, optI, partAV, bldAV, fillAV, binAV, binI, AV.cells, callEff, calleeOf, frKill, memKill, AV.kill, AObj.kill, AV.has, AV.hasL, Op.operands, Call.operands, tyF, keepF, keepM, viewIds, cChk, renOf, moGet, moWs, moQ, cEff, moLike, moHave, AV.ren, renL, AObj.ren, AObj.like, kept, startC, moMem, AV.frz, frz1, frzL, frSub, memSub, frzs, AS.frz, frFrz, memFrz, AObj.frz, takeMap, takeLen, bleF, Nat.ble_eq, memAny, objAny, bFr, actsAV]) (by simp [runD, mkRc, dstOk, guardOk, opEff, opEff0, effOp, pureOp, callOp, zEff, evA, constAV, frGet, memGet, startAS, frOf, isGoCall, idIn, AS.after, nextR, opnIds, objIds, AV.ids, idsL, AObj.ids, frNo, memNo, opnAny, isAny, mkVal, rdCells, wrCells, fldAddr, idxAddr, srcRows, litRows, toD1, toDs, setAt, sliceAV, optI, partAV, bldAV, fillAV, binAV, binI, AV.cells, callEff, calleeOf, frKill, memKill, AV.kill, AObj.kill, AV.has, AV.hasL, Op.operands, Call.operands, tyF, keepF, keepM, viewIds, cChk, renOf, moGet, moWs, moQ, cEff, moLike, moHave, AV.ren, renL, AObj.ren, AObj.like, kept, startC, moMem, AV.frz, frz1, frzL, frSub, memSub, frzs, AS.frz, frFrz, memFrz, AObj.frz, takeMap, takeLen, bleF, Nat.ble_eq, memAny, objAny, bMem])
          · cases h2
        have h3 : 60 < k := by omega
        have h3' : (60 : Int) < (k : Int) := by omega
        repeat (first | refine AWp.seq ?_ | refine AWp.block ?_)
        apply AWp.reg [] []
        · conv => lhs; simp [runD, mkRc, dstOk, guardOk, opEff, opEff0, effOp, pureOp, callOp, zEff, evA, constAV, frGet, memGet, startAS, frOf, isGoCall, idIn, AS.after, nextR, opnIds, objIds, AV.ids, idsL, AObj.ids, frNo, memNo, opnAny, isAny, mkVal, rdCells, wrCells, fldAddr, idxAddr, srcRows, litRows, toD1, toDs, setAt, sliceAV, optI, partAV, bldAV, fillAV, binAV, binI, AV.cells, callEff, calleeOf, frKill, memKill, AV.kill, AObj.kill, AV.has, AV.hasL, Op.operands, Call.operands, tyF, keepF, keepM, viewIds, cChk, renOf, moGet, moWs, moQ, cEff, moLike, moHave, AV.ren, renL, AObj.ren, AObj.like, kept, startC, moMem, AV.frz, frz1, frzL, frSub, memSub, frzs, AS.frz, frFrz, memFrz, AObj.frz, takeMap, takeLen, bleF, Nat.ble_eq, memAny, objAny, h1, h2, h3']
        · first | trivial | (simp [inI]; done) | (simp [inI]; omega)
        repeat (first | refine AWp.seq ?_ | refine AWp.block ?_)
        refine AWp.cond rfl (fun h2 => ?_) (fun h2 => ?_)
        · refine AWp.exit ?_
          exact Le.sub (by simp [runD, mkRc, dstOk, guardOk, opEff, opEff0, effOp, pureOp, callOp, zEff, evA, constAV, frGet, memGet, startAS, frOf, isGoCall, idIn, AS.after, nextR, opnIds, objIds, AV.ids, idsL, AObj.ids, frNo, memNo, opnAny, isAny, mkVal, rdCells, wrCells, fldAddr, idxAddr, srcRows, litRows, toD1, toDs, setAt, sliceAV, optI, partAV, bldAV, fillAV, binAV, binI, AV.cells, callEff, calleeOf, frKill, memKill, AV.kill, AObj.kill, AV.has, AV.hasL, Op.operands, Call.operands, tyF, keepF, keepM, viewIds, cChk, renOf, moGet, moWs, moQ, cEff, moLike, moHave, AV.ren, renL, AObj.ren, AObj.like, kept, startC, moMem, AV.frz, frz1, frzL, frSub, memSub, frzs, AS.frz, frFrz, memFrz, AObj.frz, takeMap, takeLen, bleF, Nat.ble_eq, memAny, objAny, bFr, actsAV]) (by simp [runD, mkRc, dstOk, guardOk, opEff, opEff0, effOp, pureOp, callOp, zEff, evA, constAV, frGet, memGet, startAS, frOf, isGoCall, idIn, AS.after, nextR, opnIds, objIds, AV.ids, idsL, AObj.ids, frNo, memNo, opnAny, isAny, mkVal, rdCells, wrCells, fldAddr, idxAddr, srcRows, litRows, toD1, toDs, setAt, sliceAV, optI, partAV, bldAV, fillAV, binAV, binI, AV.cells, callEff, calleeOf, frKill, memKill, AV.kill, AObj.kill, AV.has, AV.hasL, Op.operands, Call.operands, tyF, keepF, keepM, viewIds, cChk, renOf, moGet, moWs, moQ, cEff, moLike, moHave, AV.ren, renL, AObj.ren, AObj.like, kept, startC, moMem, AV.frz, frz1, frzL, frSub, memSub, frzs, AS.frz, frFrz, memFrz, AObj.frz, takeMap, takeLen, bleF, Nat.ble_eq, memAny, objAny, bMem])
        · cases h2
      have h1 : ¬ n < 0 := by omega
      have h2 : ¬ 1000 < n := by omega
      have h3 : ¬ (60 : Int) < (k : Int) := by omega
      rw [stepB, if_neg hskip] at hst
      repeat (first | refine AWp.seq ?_ | refine AWp.block ?_)
      apply AWp.reg [] []
      · conv => lhs; simp [runD, mkRc, dstOk, guardOk, opEff, opEff0, effOp, pureOp, callOp, zEff, evA, constAV, frGet, memGet, startAS, frOf, isGoCall, idIn, AS.after, nextR, opnIds, objIds, AV.ids, idsL, AObj.ids, frNo, memNo, opnAny, isAny, mkVal, rdCells, wrCells, fldAddr, idxAddr, srcRows, litRows, toD1, toDs, setAt, sliceAV, optI, partAV, bldAV, fillAV, binAV, binI, AV.cells, callEff, calleeOf, frKill, memKill, AV.kill, AObj.kill, AV.has, AV.hasL, Op.operands, Call.operands, tyF, keepF, keepM, viewIds, cChk, renOf, moGet, moWs, moQ, cEff, moLike, moHave, AV.ren, renL, AObj.ren, AObj.like, kept, startC, moMem, AV.frz, frz1, frzL, frSub, memSub, frzs, AS.frz, frFrz, memFrz, AObj.frz, takeMap, takeLen, bleF, Nat.ble_eq, memAny, objAny, h1, h2, h3]
      · trivial
      repeat (first | refine AWp.seq ?_ | refine AWp.block ?_)
      refine AWp.cond rfl (fun h4 => ?_) (fun h4 => ?_)
      · cases h4
      refine AWp.skip ?_
      obtain ⟨m, rfl⟩ : ∃ m : Nat, n = m := ⟨n.toNat, by omega⟩
      rw [Int.toNat_natCast] at hst
      have hm : m ≤ 1000 := by omega
      repeat (first | refine AWp.seq ?_ | refine AWp.block ?_)
      apply AWp.reg [] []
      · conv => lhs; simp [runD, mkRc, dstOk, guardOk, opEff, opEff0, effOp, pureOp, callOp, zEff, evA, constAV, frGet, memGet, startAS, frOf, isGoCall, idIn, AS.after, nextR, opnIds, objIds, AV.ids, idsL, AObj.ids, frNo, memNo, opnAny, isAny, mkVal, rdCells, wrCells, fldAddr, idxAddr, srcRows, litRows, toD1, toDs, setAt, sliceAV, optI, partAV, bldAV, fillAV, binAV, binI, AV.cells, callEff, calleeOf, frKill, memKill, AV.kill, AObj.kill, AV.has, AV.hasL, Op.operands, Call.operands, tyF, keepF, keepM, viewIds, cChk, renOf, moGet, moWs, moQ, cEff, moLike, moHave, AV.ren, renL, AObj.ren, AObj.like, kept, startC, moMem, AV.frz, frz1, frzL, frSub, memSub, frzs, AS.frz, frFrz, memFrz, AObj.frz, takeMap, takeLen, bleF, Nat.ble_eq, memAny, objAny]
      · trivial
      obtain ⟨r4, hr4⟩ : ∃ r4, r4 = m % 4 := ⟨_, rfl⟩
      have t4 : Int.tmod (m : Int) 4 = (r4 : Int) := by subst hr4; rfl
      repeat (first | refine AWp.seq ?_ | refine AWp.block ?_)
      apply AWp.reg [] []
      · conv => lhs; simp [runD, mkRc, dstOk, guardOk, opEff, opEff0, effOp, pureOp, callOp, zEff, evA, constAV, frGet, memGet, startAS, frOf, isGoCall, idIn, AS.after, nextR, opnIds, objIds, AV.ids, idsL, AObj.ids, frNo, memNo, opnAny, isAny, mkVal, rdCells, wrCells, fldAddr, idxAddr, srcRows, litRows, toD1, toDs, setAt, sliceAV, optI, partAV, bldAV, fillAV, binAV, binI, AV.cells, callEff, calleeOf, frKill, memKill, AV.kill, AObj.kill, AV.has, AV.hasL, Op.operands, Call.operands, tyF, keepF, keepM, viewIds, cChk, renOf, moGet, moWs, moQ, cEff, moLike, moHave, AV.ren, renL, AObj.ren, AObj.like, kept, startC, moMem, AV.frz, frz1, frzL, frSub, memSub, frzs, AS.frz, frFrz, memFrz, AObj.frz, takeMap, takeLen, bleF, Nat.ble_eq, memAny, objAny, t4]
      · first | trivial | (simp [inI]; done) | (simp [inI]; omega)
      refine AWp.block ?_
      refine AWp.seqMid ⟨145, (7, .d (.int m)) :: (8, .clo 29 [.ptr 5 0]) :: (43, .d (.int r4)) :: (74, .d (.bool (decide (r4 = 0 ∨ r4 = 1)))) :: bFr acts k, bMem hp r⟩ ?_ ?_
      · repeat (first | refine AWp.seq ?_ | refine AWp.block ?_)
        apply AWp.reg [] []
        · conv => lhs; simp [runD, mkRc, dstOk, guardOk, opEff, opEff0, effOp, pureOp, callOp, zEff, evA, constAV, frGet, memGet, startAS, frOf, isGoCall, idIn, AS.after, nextR, opnIds, objIds, AV.ids, idsL, AObj.ids, frNo, memNo, opnAny, isAny, mkVal, rdCells, wrCells, fldAddr, idxAddr, srcRows, litRows, toD1, toDs, setAt, sliceAV, optI, partAV, bldAV, fillAV, binAV, binI, AV.cells, callEff, calleeOf, frKill, memKill, AV.kill, AObj.kill, AV.has, AV.hasL, Op.operands, Call.operands, tyF, keepF, keepM, viewIds, cChk, renOf, moGet, moWs, moQ, cEff, moLike, moHave, AV.ren, renL, AObj.ren, AObj.like, kept, startC, moMem, AV.frz, frz1, frzL, frSub, memSub, frzs, AS.frz, frFrz, memFrz, AObj.frz, takeMap, takeLen, bleF, Nat.ble_eq, memAny, objAny]
        · trivial
        repeat (first | refine AWp.seq ?_ | refine AWp.block ?_)
        refine AWp.cond rfl (fun h5 => ?_) (fun h5 => ?_)
        · have h5' : r4 = 0 := by simpa using h5
          refine AWp.skip ?_
          exact Le.sub (by simp [runD, mkRc, dstOk, guardOk, opEff, opEff0, effOp, pureOp, callOp, zEff, evA, constAV, frGet, memGet, startAS, frOf, isGoCall, idIn, AS.after, nextR, opnIds, objIds, AV.ids, idsL, AObj.ids, frNo, memNo, opnAny, isAny, mkVal, rdCells, wrCells, fldAddr, idxAddr, srcRows, litRows, toD1, toDs, setAt, sliceAV, optI, partAV, bldAV, fillAV, binAV, binI, AV.cells, callEff, calleeOf, frKill, memKill, AV.kill, AObj.kill, AV.has, AV.hasL, Op.operands, Call.operands, tyF, keepF, keepM, viewIds, cChk, renOf, moGet, moWs, moQ, cEff, moLike, moHave, AV.ren, renL, AObj.ren, AObj.like, kept, startC, moMem, AV.frz, frz1, frzL, frSub, memSub, frzs, AS.frz, frFrz, memFrz, AObj.frz, takeMap, takeLen, bleF, Nat.ble_eq, memAny, objAny, bFr, actsAV, h5']) (by simp [runD, mkRc, dstOk, guardOk, opEff, opEff0, effOp, pureOp, callOp, zEff, evA, constAV, frGet, memGet, startAS, frOf, isGoCall, idIn, AS.after, nextR, opnIds, objIds, AV.ids, idsL, AObj.ids, frNo, memNo, opnAny, isAny, mkVal, rdCells, wrCells, fldAddr, idxAddr, srcRows, litRows, toD1, toDs, setAt, sliceAV, optI, partAV, bldAV, fillAV, binAV, binI, AV.cells, callEff, calleeOf, frKill, memKill, AV.kill, AObj.kill, AV.has, AV.hasL, Op.operands, Call.operands, tyF, keepF, keepM, viewIds, cChk, renOf, moGet, moWs, moQ, cEff, moLike, moHave, AV.ren, renL, AObj.ren, AObj.like, kept, startC, moMem, AV.frz, frz1, frzL, frSub, memSub, frzs, AS.frz, frFrz, memFrz, AObj.frz, takeMap, takeLen, bleF, Nat.ble_eq, memAny, objAny, bMem])
        · have h5' : r4 ≠ 0 := by simpa using h5
          repeat (first | refine AWp.seq ?_ | refine AWp.block ?_)
          apply AWp.reg [] []
          · conv => lhs; simp [runD, mkRc, dstOk, guardOk, opEff, opEff0, effOp, pureOp, callOp, zEff, evA, constAV, frGet, memGet, startAS, frOf, isGoCall, idIn, AS.after, nextR, opnIds, objIds, AV.ids, idsL, AObj.ids, frNo, memNo, opnAny, isAny, mkVal, rdCells, wrCells, fldAddr, idxAddr, srcRows, litRows, toD1, toDs, setAt, sliceAV, optI, partAV, bldAV, fillAV, binAV, binI, AV.cells, callEff, calleeOf, frKill, memKill, AV.kill, AObj.kill, AV.has, AV.hasL, Op.operands, Call.operands, tyF, keepF, keepM, viewIds, cChk, renOf, moGet, moWs, moQ, cEff, moLike, moHave, AV.ren, renL, AObj.ren, AObj.like, kept, startC, moMem, AV.frz, frz1, frzL, frSub, memSub, frzs, AS.frz, frFrz, memFrz, AObj.frz, takeMap, takeLen, bleF, Nat.ble_eq, memAny, objAny]
          · trivial
          have e1 : (r4 : Int) = 1 ↔ r4 = 1 := by omega
          exact Le.sub (by simp [runD, mkRc, dstOk, guardOk, opEff, opEff0, effOp, pureOp, callOp, zEff, evA, constAV, frGet, memGet, startAS, frOf, isGoCall, idIn, AS.after, nextR, opnIds, objIds, AV.ids, idsL, AObj.ids, frNo, memNo, opnAny, isAny, mkVal, rdCells, wrCells, fldAddr, idxAddr, srcRows, litRows, toD1, toDs, setAt, sliceAV, optI, partAV, bldAV, fillAV, binAV, binI, AV.cells, callEff, calleeOf, frKill, memKill, AV.kill, AObj.kill, AV.has, AV.hasL, Op.operands, Call.operands, tyF, keepF, keepM, viewIds, cChk, renOf, moGet, moWs, moQ, cEff, moLike, moHave, AV.ren, renL, AObj.ren, AObj.like, kept, startC, moMem, AV.frz, frz1, frzL, frSub, memSub, frzs, AS.frz, frFrz, memFrz, AObj.frz, takeMap, takeLen, bleF, Nat.ble_eq, memAny, objAny, bFr, actsAV, h5', e1]) (by simp [runD, mkRc, dstOk, guardOk, opEff, opEff0, effOp, pureOp, callOp, zEff, evA, constAV, frGet, memGet, startAS, frOf, isGoCall, idIn, AS.after, nextR, opnIds, objIds, AV.ids, idsL, AObj.ids, frNo, memNo, opnAny, isAny, mkVal, rdCells, wrCells, fldAddr, idxAddr, srcRows, litRows, toD1, toDs, setAt, sliceAV, optI, partAV, bldAV, fillAV, binAV, binI, AV.cells, callEff, calleeOf, frKill, memKill, AV.kill, AObj.kill, AV.has, AV.hasL, Op.operands, Call.operands, tyF, keepF, keepM, viewIds, cChk, renOf, moGet, moWs, moQ, cEff, moLike, moHave, AV.ren, renL, AObj.ren, AObj.like, kept, startC, moMem, AV.frz, frz1, frzL, frSub, memSub, frzs, AS.frz, frFrz, memFrz, AObj.frz, takeMap, takeLen, bleF, Nat.ble_eq, memAny, objAny, bMem])
      repeat (first | refine AWp.seq ?_ | refine AWp.block ?_)
      refine AWp.cond rfl (fun h5 => ?_) (fun h5 => ?_)
      · have h5' : r4 = 0 ∨ r4 = 1 := of_decide_eq_true h5
        have hst' : q' = makeB m (hp, r) := by rw [hst, actB, if_pos (by omega)]
        have hrl : r.length ≤ min k 61 := hI.roots
        obtain ⟨q4, hq4⟩ : ∃ q4, q4 = m / 4 := ⟨_, rfl⟩
        have t5 : Int.tdiv (m : Int) 4 = (q4 : Int) := by subst hq4; rfl
        have hq4' : q4 ≤ 1000 := by omega
        obtain ⟨q3, hq3⟩ : ∃ q3, q3 = q4 % 3 := ⟨_, rfl⟩
        have t6 : Int.tmod (q4 : Int) 3 = (q3 : Int) := by subst hq3; rfl
        have hq3' : q3 < 3 := by omega
        obtain ⟨q12, hq12⟩ : ∃ q12, q12 = m / 12 := ⟨_, rfl⟩
        have t7 : Int.tdiv (m : Int) 12 = (q12 : Int) := by subst hq12; rfl
        have hq12' : q12 ≤ 1000 := by omega
        obtain ⟨r5, hr5⟩ : ∃ r5, r5 = m % 5 := ⟨_, rfl⟩
        have t8 : Int.tmod (m : Int) 5 = (r5 : Int) := by subst hr5; rfl
        have hr5' : r5 < 5 := by omega
        rw [makeB] at hst'
        dsimp only at hst'
        rw [← hq4, ← hq3, ← hr5] at hst'
        repeat (first | refine AWp.seq ?_ | refine AWp.block ?_)
        apply AWp.reg [] []
        · conv => lhs; simp [runD, mkRc, dstOk, guardOk, opEff, opEff0, effOp, pureOp, callOp, zEff, evA, constAV, frGet, memGet, startAS, frOf, isGoCall, idIn, AS.after, nextR, opnIds, objIds, AV.ids, idsL, AObj.ids, frNo, memNo, opnAny, isAny, mkVal, rdCells, wrCells, fldAddr, idxAddr, srcRows, litRows, toD1, toDs, setAt, sliceAV, optI, partAV, bldAV, fillAV, binAV, binI, AV.cells, callEff, calleeOf, frKill, memKill, AV.kill, AObj.kill, AV.has, AV.hasL, Op.operands, Call.operands, tyF, keepF, keepM, viewIds, cChk, renOf, moGet, moWs, moQ, cEff, moLike, moHave, AV.ren, renL, AObj.ren, AObj.like, kept, startC, moMem, AV.frz, frz1, frzL, frSub, memSub, frzs, AS.frz, frFrz, memFrz, AObj.frz, takeMap, takeLen, bleF, Nat.ble_eq, memAny, objAny, bFr]
        · trivial
        repeat (first | refine AWp.seq ?_ | refine AWp.block ?_)
        apply AWp.reg [] []
        · conv => lhs; simp [runD, mkRc, dstOk, guardOk, opEff, opEff0, effOp, pureOp, callOp, zEff, evA, constAV, frGet, memGet, startAS, frOf, isGoCall, idIn, AS.after, nextR, opnIds, objIds, AV.ids, idsL, AObj.ids, frNo, memNo, opnAny, isAny, mkVal, rdCells, wrCells, fldAddr, idxAddr, srcRows, litRows, toD1, toDs, setAt, sliceAV, optI, partAV, bldAV, fillAV, binAV, binI, AV.cells, callEff, calleeOf, frKill, memKill, AV.kill, AObj.kill, AV.has, AV.hasL, Op.operands, Call.operands, tyF, keepF, keepM, viewIds, cChk, renOf, moGet, moWs, moQ, cEff, moLike, moHave, AV.ren, renL, AObj.ren, AObj.like, kept, startC, moMem, AV.frz, frz1, frzL, frSub, memSub, frzs, AS.frz, frFrz, memFrz, AObj.frz, takeMap, takeLen, bleF, Nat.ble_eq, memAny, objAny, t5, t6]
        · simp [inI]; omega
        repeat (first | refine AWp.seq ?_ | refine AWp.block ?_)
        refine AWp.le (Le.low [101] [] (fr := (7, .d (.int m)) :: (8, .clo 29 [.ptr 5 0]) :: (9, .arr 101 0 0) :: (79, .d (.int q3)) :: (80, .d (.int 0)) :: bFr acts k) (mem := (101, some (.arr 24 2 [])) :: bMem hp r) rfl (by simp [runD, mkRc, dstOk, guardOk, opEff, opEff0, effOp, pureOp, callOp, zEff, evA, constAV, frGet, memGet, startAS, frOf, isGoCall, idIn, AS.after, nextR, opnIds, objIds, AV.ids, idsL, AObj.ids, frNo, memNo, opnAny, isAny, mkVal, rdCells, wrCells, fldAddr, idxAddr, srcRows, litRows, toD1, toDs, setAt, sliceAV, optI, partAV, bldAV, fillAV, binAV, binI, AV.cells, callEff, calleeOf, frKill, memKill, AV.kill, AObj.kill, AV.has, AV.hasL, Op.operands, Call.operands, tyF, keepF, keepM, viewIds, cChk, renOf, moGet, moWs, moQ, cEff, moLike, moHave, AV.ren, renL, AObj.ren, AObj.like, kept, startC, moMem, AV.frz, frz1, frzL, frSub, memSub, frzs, AS.frz, frFrz, memFrz, AObj.frz, takeMap, takeLen, bleF, Nat.ble_eq, memAny, objAny, frLow, memLow, memLow1, objLow, memEmpty, Low, LowL, bFr]) (by simp [runD, mkRc, dstOk, guardOk, opEff, opEff0, effOp, pureOp, callOp, zEff, evA, constAV, frGet, memGet, startAS, frOf, isGoCall, idIn, AS.after, nextR, opnIds, objIds, AV.ids, idsL, AObj.ids, frNo, memNo, opnAny, isAny, mkVal, rdCells, wrCells, fldAddr, idxAddr, srcRows, litRows, toD1, toDs, setAt, sliceAV, optI, partAV, bldAV, fillAV, binAV, binI, AV.cells, callEff, calleeOf, frKill, memKill, AV.kill, AObj.kill, AV.has, AV.hasL, Op.operands, Call.operands, tyF, keepF, keepM, viewIds, cChk, renOf, moGet, moWs, moQ, cEff, moLike, moHave, AV.ren, renL, AObj.ren, AObj.like, kept, startC, moMem, AV.frz, frz1, frzL, frSub, memSub, frzs, AS.frz, frFrz, memFrz, AObj.frz, takeMap, takeLen, bleF, Nat.ble_eq, memAny, objAny, frLow, memLow, memLow1, objLow, memEmpty, Low, LowL, bMem])) ?_
        refine AWp.loop (σ := fun i : {j : Nat // j ≤ q3} => ⟨145, (7, .d (.int m)) :: (8, .clo 29 [.ptr 5 0]) :: (9, .arr 101 0 (innerB hp r m i.1).2.length) :: (79, .d (.int q3)) :: (80, .d (.int i.1)) :: bFr acts k, (101, some (.arr 24 2 ((innerB hp r m i.1).2.map Slt.row))) :: bMem (innerB hp r m i.1).1 r⟩)
          (μ := fun i => q3 - i.1) ⟨0, Nat.zero_le _⟩ (Le.refl _) (fun ⟨j, hj⟩ => ?_)
        obtain ⟨hi1, hi2, hi3⟩ := innerB_inv m hI.sz hI.right j
        have hin : innerB hp r m (j + 1) = if ((innerB hp r m j).1.dup (pickS r (q12 + j))).2 = 0 then (((innerB hp r m j).1.dup (pickS r (q12 + j))).1, (innerB hp r m j).2 ++ [pickS r (q12 + j)]) else innerB hp r m j := by rw [innerB, hq12]
        dsimp only at hi1 hi2 hi3
        repeat (first | refine AWp.seq ?_ | refine AWp.block ?_)
        apply AWp.reg [] []
        · conv => lhs; simp [runD, mkRc, dstOk, guardOk, opEff, opEff0, effOp, pureOp, callOp, zEff, evA, constAV, frGet, memGet, startAS, frOf, isGoCall, idIn, AS.after, nextR, opnIds, objIds, AV.ids, idsL, AObj.ids, frNo, memNo, opnAny, isAny, mkVal, rdCells, wrCells, fldAddr, idxAddr, srcRows, litRows, toD1, toDs, setAt, sliceAV, optI, partAV, bldAV, fillAV, binAV, binI, AV.cells, callEff, calleeOf, frKill, memKill, AV.kill, AObj.kill, AV.has, AV.hasL, Op.operands, Call.operands, tyF, keepF, keepM, viewIds, cChk, renOf, moGet, moWs, moQ, cEff, moLike, moHave, AV.ren, renL, AObj.ren, AObj.like, kept, startC, moMem, AV.frz, frz1, frzL, frSub, memSub, frzs, AS.frz, frFrz, memFrz, AObj.frz, takeMap, takeLen, bleF, Nat.ble_eq, memAny, objAny, bFr]
        · trivial
        repeat (first | refine AWp.seq ?_ | refine AWp.block ?_)
        refine AWp.cond rfl (fun hj2 => ?_) (fun hj2 => ?_)
        · have hj2' : j < q3 := by have := of_decide_eq_true hj2; omega
          refine AWp.skip ?_
          refine AWp.seqMid ⟨145, (7, .d (.int m)) :: (8, .clo 29 [.ptr 5 0]) :: (9, .arr 101 0 (innerB hp r m (j + 1)).2.length) :: (79, .d (.int q3)) :: (80, .d (.int j)) :: bFr acts k, (101, some (.arr 24 2 ((innerB hp r m (j + 1)).2.map Slt.row))) :: bMem (innerB hp r m (j + 1)).1 r⟩ ?_ ?_
          · generalize innerB hp r m (j + 1) = d' at hin ⊢
            generalize innerB hp r m j = d at hin hi1 hi2 hi3 ⊢
            obtain ⟨h', l⟩ := d
            dsimp only at hin hi1 hi2 hi3 ⊢
            repeat (first | refine AWp.seq ?_ | refine AWp.block ?_)
            apply AWp.reg [] []
            · conv => lhs; simp [runD, mkRc, dstOk, guardOk, opEff, opEff0, effOp, pureOp, callOp, zEff, evA, constAV, frGet, memGet, startAS, frOf, isGoCall, idIn, AS.after, nextR, opnIds, objIds, AV.ids, idsL, AObj.ids, frNo, memNo, opnAny, isAny, mkVal, rdCells, wrCells, fldAddr, idxAddr, srcRows, litRows, toD1, toDs, setAt, sliceAV, optI, partAV, bldAV, fillAV, binAV, binI, AV.cells, callEff, calleeOf, frKill, memKill, AV.kill, AObj.kill, AV.has, AV.hasL, Op.operands, Call.operands, tyF, keepF, keepM, viewIds, cChk, renOf, moGet, moWs, moQ, cEff, moLike, moHave, AV.ren, renL, AObj.ren, AObj.like, kept, startC, moMem, AV.frz, frz1, frzL, frSub, memSub, frzs, AS.frz, frFrz, memFrz, AObj.frz, takeMap, takeLen, bleF, Nat.ble_eq, memAny, objAny]
            · trivial
            repeat (first | refine AWp.seq ?_ | refine AWp.block ?_)
            apply AWp.reg [] [.c [(1000, 5), (1001, 400)] [.d (.int ((q12 + j : Nat) : Int)), .ptr 1000 0] [(1000, .blk 25 [.arr 1001 0 r.length]), (1001, .arr 24 2 (r.map Slt.row))] (slAV (pickS r (q12 + j))) [(1000, .blk 25 [.arr 1001 0 r.length]), (1001, .arr 24 2 (r.map Slt.row))]]
            · conv => lhs; simp [runD, mkRc, dstOk, guardOk, opEff, opEff0, effOp, pureOp, callOp, zEff, evA, constAV, frGet, memGet, startAS, frOf, isGoCall, idIn, AS.after, nextR, opnIds, objIds, AV.ids, idsL, AObj.ids, frNo, memNo, opnAny, isAny, mkVal, rdCells, wrCells, fldAddr, idxAddr, srcRows, litRows, toD1, toDs, setAt, sliceAV, optI, partAV, bldAV, fillAV, binAV, binI, AV.cells, callEff, calleeOf, frKill, memKill, AV.kill, AObj.kill, AV.has, AV.hasL, Op.operands, Call.operands, tyF, keepF, keepM, viewIds, cChk, renOf, moGet, moWs, moQ, cEff, moLike, moHave, AV.ren, renL, AObj.ren, AObj.like, kept, startC, moMem, AV.frz, frz1, frzL, frSub, memSub, frzs, AS.frz, frFrz, memFrz, AObj.frz, takeMap, takeLen, bleF, Nat.ble_eq, memAny, objAny, t7, bFr, bMem, slAV]
            · refine ⟨by simp [inI]; omega, by simp [inI]; omega, by simpa [List.map, AV.ren, renL, renOf, slAV] using cs_pick r (q12 + j) (by omega)⟩
            generalize pickS r (q12 + j) = s at hin ⊢
            obtain ⟨sk, sn⟩ := s
            have hO := hi1.ok hi2 (by omega) (by simp only [List.length_append]; omega)
            have hdup := sp_refDup hO (by omega) (by omega) ⟨sk, sn⟩
            repeat (first | refine AWp.seq ?_ | refine AWp.block ?_)
            apply AWp.reg [] [.p (fun _ => .tuple [hpAV (h'.dup ⟨sk, sn⟩).1, .d (.int (h'.dup ⟨sk, sn⟩).2)]) none]
            · conv => lhs; simp [runD, mkRc, dstOk, guardOk, opEff, opEff0, effOp, pureOp, callOp, zEff, evA, constAV, frGet, memGet, startAS, frOf, isGoCall, idIn, AS.after, nextR, opnIds, objIds, AV.ids, idsL, AObj.ids, frNo, memNo, opnAny, isAny, mkVal, rdCells, wrCells, fldAddr, idxAddr, srcRows, litRows, toD1, toDs, setAt, sliceAV, optI, partAV, bldAV, fillAV, binAV, binI, AV.cells, callEff, calleeOf, frKill, memKill, AV.kill, AObj.kill, AV.has, AV.hasL, Op.operands, Call.operands, tyF, keepF, keepM, viewIds, cChk, renOf, moGet, moWs, moQ, cEff, moLike, moHave, AV.ren, renL, AObj.ren, AObj.like, kept, startC, moMem, AV.frz, frz1, frzL, frSub, memSub, frzs, AS.frz, frFrz, memFrz, AObj.frz, takeMap, takeLen, bleF, Nat.ble_eq, memAny, objAny, slAV]
            · simpa [hpAV, slAV] using hdup
            generalize h'.dup ⟨sk, sn⟩ = d at hin hdup ⊢
            obtain ⟨h2, e⟩ := d
            repeat (first | refine AWp.seq ?_ | refine AWp.block ?_)
            apply AWp.reg [] []
            · conv => lhs; simp [runD, mkRc, dstOk, guardOk, opEff, opEff0, effOp, pureOp, callOp, zEff, evA, constAV, frGet, memGet, startAS, frOf, isGoCall, idIn, AS.after, nextR, opnIds, objIds, AV.ids, idsL, AObj.ids, frNo, memNo, opnAny, isAny, mkVal, rdCells, wrCells, fldAddr, idxAddr, srcRows, litRows, toD1, toDs, setAt, sliceAV, optI, partAV, bldAV, fillAV, binAV, binI, AV.cells, callEff, calleeOf, frKill, memKill, AV.kill, AObj.kill, AV.has, AV.hasL, Op.operands, Call.operands, tyF, keepF, keepM, viewIds, cChk, renOf, moGet, moWs, moQ, cEff, moLike, moHave, AV.ren, renL, AObj.ren, AObj.like, kept, startC, moMem, AV.frz, frz1, frzL, frSub, memSub, frzs, AS.frz, frFrz, memFrz, AObj.frz, takeMap, takeLen, bleF, Nat.ble_eq, memAny, objAny]
            · trivial
            repeat (first | refine AWp.seq ?_ | refine AWp.block ?_)
            refine AWp.cond rfl (fun h7 => ?_) (fun h7 => ?_)
            · have h7' : e = 0 := by simpa using h7
              rw [if_pos h7'] at hin
              subst hin
              repeat (first | refine AWp.seq ?_ | refine AWp.block ?_)
              apply AWp.reg [] []
              · conv => lhs; simp [runD, mkRc, dstOk, guardOk, opEff, opEff0, effOp, pureOp, callOp, zEff, evA, constAV, frGet, memGet, startAS, frOf, isGoCall, idIn, AS.after, nextR, opnIds, objIds, AV.ids, idsL, AObj.ids, frNo, memNo, opnAny, isAny, mkVal, rdCells, wrCells, fldAddr, idxAddr, srcRows, litRows, toD1, toDs, setAt, sliceAV, optI, partAV, bldAV, fillAV, binAV, binI, AV.cells, callEff, calleeOf, frKill, memKill, AV.kill, AObj.kill, AV.has, AV.hasL, Op.operands, Call.operands, tyF, keepF, keepM, viewIds, cChk, renOf, moGet, moWs, moQ, cEff, moLike, moHave, AV.ren, renL, AObj.ren, AObj.like, kept, startC, moMem, AV.frz, frz1, frzL, frSub, memSub, frzs, AS.frz, frFrz, memFrz, AObj.frz, takeMap, takeLen, bleF, Nat.ble_eq, memAny, objAny, hpAV]
              · trivial
              repeat (first | refine AWp.seq ?_ | refine AWp.block ?_)
              apply AWp.reg [] []
              · conv => lhs; simp [runD, mkRc, dstOk, guardOk, opEff, opEff0, effOp, pureOp, callOp, zEff, evA, constAV, frGet, memGet, startAS, frOf, isGoCall, idIn, AS.after, nextR, opnIds, objIds, AV.ids, idsL, AObj.ids, frNo, memNo, opnAny, isAny, mkVal, rdCells, wrCells, fldAddr, idxAddr, srcRows, litRows, toD1, toDs, setAt, sliceAV, optI, partAV, bldAV, fillAV, binAV, binI, AV.cells, callEff, calleeOf, frKill, memKill, AV.kill, AObj.kill, AV.has, AV.hasL, Op.operands, Call.operands, tyF, keepF, keepM, viewIds, cChk, renOf, moGet, moWs, moQ, cEff, moLike, moHave, AV.ren, renL, AObj.ren, AObj.like, kept, startC, moMem, AV.frz, frz1, frzL, frSub, memSub, frzs, AS.frz, frFrz, memFrz, AObj.frz, takeMap, takeLen, bleF, Nat.ble_eq, memAny, objAny]
              · simp [maxLen]; omega
              exact Le.sub (by simp [runD, mkRc, dstOk, guardOk, opEff, opEff0, effOp, pureOp, callOp, zEff, evA, constAV, frGet, memGet, startAS, frOf, isGoCall, idIn, AS.after, nextR, opnIds, objIds, AV.ids, idsL, AObj.ids, frNo, memNo, opnAny, isAny, mkVal, rdCells, wrCells, fldAddr, idxAddr, srcRows, litRows, toD1, toDs, setAt, sliceAV, optI, partAV, bldAV, fillAV, binAV, binI, AV.cells, callEff, calleeOf, frKill, memKill, AV.kill, AObj.kill, AV.has, AV.hasL, Op.operands, Call.operands, tyF, keepF, keepM, viewIds, cChk, renOf, moGet, moWs, moQ, cEff, moLike, moHave, AV.ren, renL, AObj.ren, AObj.like, kept, startC, moMem, AV.frz, frz1, frzL, frSub, memSub, frzs, AS.frz, frFrz, memFrz, AObj.frz, takeMap, takeLen, bleF, Nat.ble_eq, memAny, objAny, bFr]) (by simp [runD, mkRc, dstOk, guardOk, opEff, opEff0, effOp, pureOp, callOp, zEff, evA, constAV, frGet, memGet, startAS, frOf, isGoCall, idIn, AS.after, nextR, opnIds, objIds, AV.ids, idsL, AObj.ids, frNo, memNo, opnAny, isAny, mkVal, rdCells, wrCells, fldAddr, idxAddr, srcRows, litRows, toD1, toDs, setAt, sliceAV, optI, partAV, bldAV, fillAV, binAV, binI, AV.cells, callEff, calleeOf, frKill, memKill, AV.kill, AObj.kill, AV.has, AV.hasL, Op.operands, Call.operands, tyF, keepF, keepM, viewIds, cChk, renOf, moGet, moWs, moQ, cEff, moLike, moHave, AV.ren, renL, AObj.ren, AObj.like, kept, startC, moMem, AV.frz, frz1, frzL, frSub, memSub, frzs, AS.frz, frFrz, memFrz, AObj.frz, takeMap, takeLen, bleF, Nat.ble_eq, memAny, objAny, bMem, Slt.row])
            · have h7' : e ≠ 0 := by simpa using h7
              rw [if_neg h7'] at hin
              subst hin
              refine AWp.skip ?_
              exact Le.sub (by simp [runD, mkRc, dstOk, guardOk, opEff, opEff0, effOp, pureOp, callOp, zEff, evA, constAV, frGet, memGet, startAS, frOf, isGoCall, idIn, AS.after, nextR, opnIds, objIds, AV.ids, idsL, AObj.ids, frNo, memNo, opnAny, isAny, mkVal, rdCells, wrCells, fldAddr, idxAddr, srcRows, litRows, toD1, toDs, setAt, sliceAV, optI, partAV, bldAV, fillAV, binAV, binI, AV.cells, callEff, calleeOf, frKill, memKill, AV.kill, AObj.kill, AV.has, AV.hasL, Op.operands, Call.operands, tyF, keepF, keepM, viewIds, cChk, renOf, moGet, moWs, moQ, cEff, moLike, moHave, AV.ren, renL, AObj.ren, AObj.like, kept, startC, moMem, AV.frz, frz1, frzL, frSub, memSub, frzs, AS.frz, frFrz, memFrz, AObj.frz, takeMap, takeLen, bleF, Nat.ble_eq, memAny, objAny, bFr]) (by simp [runD, mkRc, dstOk, guardOk, opEff, opEff0, effOp, pureOp, callOp, zEff, evA, constAV, frGet, memGet, startAS, frOf, isGoCall, idIn, AS.after, nextR, opnIds, objIds, AV.ids, idsL, AObj.ids, frNo, memNo, opnAny, isAny, mkVal, rdCells, wrCells, fldAddr, idxAddr, srcRows, litRows, toD1, toDs, setAt, sliceAV, optI, partAV, bldAV, fillAV, binAV, binI, AV.cells, callEff, calleeOf, frKill, memKill, AV.kill, AObj.kill, AV.has, AV.hasL, Op.operands, Call.operands, tyF, keepF, keepM, viewIds, cChk, renOf, moGet, moWs, moQ, cEff, moLike, moHave, AV.ren, renL, AObj.ren, AObj.like, kept, startC, moMem, AV.frz, frz1, frzL, frSub, memSub, frzs, AS.frz, frFrz, memFrz, AObj.frz, takeMap, takeLen, bleF, Nat.ble_eq, memAny, objAny, bMem, Slt.row])
          · repeat (first | refine AWp.seq ?_ | refine AWp.block ?_)
            apply AWp.reg [] []
            · conv => lhs; simp [runD, mkRc, dstOk, guardOk, opEff, opEff0, effOp, pureOp, callOp, zEff, evA, constAV, frGet, memGet, startAS, frOf, isGoCall, idIn, AS.after, nextR, opnIds, objIds, AV.ids, idsL, AObj.ids, frNo, memNo, opnAny, isAny, mkVal, rdCells, wrCells, fldAddr, idxAddr, srcRows, litRows, toD1, toDs, setAt, sliceAV, optI, partAV, bldAV, fillAV, binAV, binI, AV.cells, callEff, calleeOf, frKill, memKill, AV.kill, AObj.kill, AV.has, AV.hasL, Op.operands, Call.operands, tyF, keepF, keepM, viewIds, cChk, renOf, moGet, moWs, moQ, cEff, moLike, moHave, AV.ren, renL, AObj.ren, AObj.like, kept, startC, moMem, AV.frz, frz1, frzL, frSub, memSub, frzs, AS.frz, frFrz, memFrz, AObj.frz, takeMap, takeLen, bleF, Nat.ble_eq, memAny, objAny, bFr]
            · simp [inI]; omega
            refine ⟨⟨j + 1, hj2'⟩, by simp; omega, Le.sub (by simp [runD, mkRc, dstOk, guardOk, opEff, opEff0, effOp, pureOp, callOp, zEff, evA, constAV, frGet, memGet, startAS, frOf, isGoCall, idIn, AS.after, nextR, opnIds, objIds, AV.ids, idsL, AObj.ids, frNo, memNo, opnAny, isAny, mkVal, rdCells, wrCells, fldAddr, idxAddr, srcRows, litRows, toD1, toDs, setAt, sliceAV, optI, partAV, bldAV, fillAV, binAV, binI, AV.cells, callEff, calleeOf, frKill, memKill, AV.kill, AObj.kill, AV.has, AV.hasL, Op.operands, Call.operands, tyF, keepF, keepM, viewIds, cChk, renOf, moGet, moWs, moQ, cEff, moLike, moHave, AV.ren, renL, AObj.ren, AObj.like, kept, startC, moMem, AV.frz, frz1, frzL, frSub, memSub, frzs, AS.frz, frFrz, memFrz, AObj.frz, takeMap, takeLen, bleF, Nat.ble_eq, memAny, objAny, bFr]) (by simp [runD, mkRc, dstOk, guardOk, opEff, opEff0, effOp, pureOp, callOp, zEff, evA, constAV, frGet, memGet, startAS, frOf, isGoCall, idIn, AS.after, nextR, opnIds, objIds, AV.ids, idsL, AObj.ids, frNo, memNo, opnAny, isAny, mkVal, rdCells, wrCells, fldAddr, idxAddr, srcRows, litRows, toD1, toDs, setAt, sliceAV, optI, partAV, bldAV, fillAV, binAV, binI, AV.cells, callEff, calleeOf, frKill, memKill, AV.kill, AObj.kill, AV.has, AV.hasL, Op.operands, Call.operands, tyF, keepF, keepM, viewIds, cChk, renOf, moGet, moWs, moQ, cEff, moLike, moHave, AV.ren, renL, AObj.ren, AObj.like, kept, startC, moMem, AV.frz, frz1, frzL, frSub, memSub, frzs, AS.frz, frFrz, memFrz, AObj.frz, takeMap, takeLen, bleF, Nat.ble_eq, memAny, objAny, bMem])⟩
        have hj2' : j = q3 := by have := of_decide_eq_false hj2; omega
        subst hj2'
        clear hin
        refine AWp.exit ?_
        generalize innerB hp r m j = d at hst' hi1 hi2 hi3 ⊢
        obtain ⟨h', l⟩ := d
        dsimp only at hst' hi1 hi2 hi3 ⊢
        have hO := hi1.ok hi2 (by omega) (by simp only [List.length_append]; omega)
        have hmake := sp_refMake hO (by omega) (r5 : Int) (l ++ [⟨0, m⟩]) (by simp; omega)
        repeat (first | refine AWp.seq ?_ | refine AWp.block ?_)
        apply AWp.draw [7] [.p (fun _ => .tuple [hpAV (h'.make r5 (l ++ [⟨0, m⟩])).1, slAV (h'.make r5 (l ++ [⟨0, m⟩])).2.1, .d (.int (h'.make r5 (l ++ [⟨0, m⟩])).2.2)]) none] mixed
        · conv => lhs; simp [runD, mkRc, dstOk, guardOk, opEff, opEff0, effOp, pureOp, callOp, zEff, evA, constAV, frGet, memGet, startAS, frOf, isGoCall, idIn, AS.after, nextR, opnIds, objIds, AV.ids, idsL, AObj.ids, frNo, memNo, opnAny, isAny, mkVal, rdCells, wrCells, fldAddr, idxAddr, srcRows, litRows, toD1, toDs, setAt, sliceAV, optI, partAV, bldAV, fillAV, binAV, binI, AV.cells, callEff, calleeOf, frKill, memKill, AV.kill, AObj.kill, AV.has, AV.hasL, Op.operands, Call.operands, tyF, keepF, keepM, viewIds, cChk, renOf, moGet, moWs, moQ, cEff, moLike, moHave, AV.ren, renL, AObj.ren, AObj.like, kept, startC, moMem, AV.frz, frz1, frzL, frSub, memSub, frzs, AS.frz, frFrz, memFrz, AObj.frz, takeMap, takeLen, bleF, Nat.ble_eq, memAny, objAny, t8, bFr, bMem, slAV]
        · rfl
        · refine ⟨by simp [inI]; omega, by simp [maxLen]; omega, ?_⟩
          have e1 : List.take (l.length + 1) (List.map Slt.row l ++ [[D.int 0, D.int m]]) = List.map Slt.row (l ++ [(⟨0, m⟩ : Slt)]) := by
            rw [List.take_of_length_le (by simp)]; simp [Slt.row]
          rw [e1]
          exact hmake
        generalize h'.make r5 (l ++ [⟨0, m⟩]) = d at hst' hmake ⊢
        obtain ⟨h2, ⟨sk, sn⟩, e⟩ := d
        dsimp only at hst'
        repeat (first | refine AWp.seq ?_ | refine AWp.block ?_)
        apply AWp.reg [] []
        · conv => lhs; simp [runD, mkRc, dstOk, guardOk, opEff, opEff0, effOp, pureOp, callOp, zEff, evA, constAV, frGet, memGet, startAS, frOf, isGoCall, idIn, AS.after, nextR, opnIds, objIds, AV.ids, idsL, AObj.ids, frNo, memNo, opnAny, isAny, mkVal, rdCells, wrCells, fldAddr, idxAddr, srcRows, litRows, toD1, toDs, setAt, sliceAV, optI, partAV, bldAV, fillAV, binAV, binI, AV.cells, callEff, calleeOf, frKill, memKill, AV.kill, AObj.kill, AV.has, AV.hasL, Op.operands, Call.operands, tyF, keepF, keepM, viewIds, cChk, renOf, moGet, moWs, moQ, cEff, moLike, moHave, AV.ren, renL, AObj.ren, AObj.like, kept, startC, moMem, AV.frz, frz1, frzL, frSub, memSub, frzs, AS.frz, frFrz, memFrz, AObj.frz, takeMap, takeLen, bleF, Nat.ble_eq, memAny, objAny]
        · trivial
        repeat (first | refine AWp.seq ?_ | refine AWp.block ?_)
        refine AWp.cond rfl (fun h7 => ?_) (fun h7 => ?_)
        · have h7' : e = 0 := by simpa using h7
          rw [if_pos h7'] at hst'
          subst hst'
          repeat (first | refine AWp.seq ?_ | refine AWp.block ?_)
          apply AWp.reg [] []
          · conv => lhs; simp [runD, mkRc, dstOk, guardOk, opEff, opEff0, effOp, pureOp, callOp, zEff, evA, constAV, frGet, memGet, startAS, frOf, isGoCall, idIn, AS.after, nextR, opnIds, objIds, AV.ids, idsL, AObj.ids, frNo, memNo, opnAny, isAny, mkVal, rdCells, wrCells, fldAddr, idxAddr, srcRows, litRows, toD1, toDs, setAt, sliceAV, optI, partAV, bldAV, fillAV, binAV, binI, AV.cells, callEff, calleeOf, frKill, memKill, AV.kill, AObj.kill, AV.has, AV.hasL, Op.operands, Call.operands, tyF, keepF, keepM, viewIds, cChk, renOf, moGet, moWs, moQ, cEff, moLike, moHave, AV.ren, renL, AObj.ren, AObj.like, kept, startC, moMem, AV.frz, frz1, frzL, frSub, memSub, frzs, AS.frz, frFrz, memFrz, AObj.frz, takeMap, takeLen, bleF, Nat.ble_eq, memAny, objAny, hpAV]
          · trivial
          repeat (first | refine AWp.seq ?_ | refine AWp.block ?_)
          apply AWp.reg [] []
          · conv => lhs; simp [runD, mkRc, dstOk, guardOk, opEff, opEff0, effOp, pureOp, callOp, zEff, evA, constAV, frGet, memGet, startAS, frOf, isGoCall, idIn, AS.after, nextR, opnIds, objIds, AV.ids, idsL, AObj.ids, frNo, memNo, opnAny, isAny, mkVal, rdCells, wrCells, fldAddr, idxAddr, srcRows, litRows, toD1, toDs, setAt, sliceAV, optI, partAV, bldAV, fillAV, binAV, binI, AV.cells, callEff, calleeOf, frKill, memKill, AV.kill, AObj.kill, AV.has, AV.hasL, Op.operands, Call.operands, tyF, keepF, keepM, viewIds, cChk, renOf, moGet, moWs, moQ, cEff, moLike, moHave, AV.ren, renL, AObj.ren, AObj.like, kept, startC, moMem, AV.frz, frz1, frzL, frSub, memSub, frzs, AS.frz, frFrz, memFrz, AObj.frz, takeMap, takeLen, bleF, Nat.ble_eq, memAny, objAny]
          · simp [maxLen]; omega
          exact Le.sub (by simp [runD, mkRc, dstOk, guardOk, opEff, opEff0, effOp, pureOp, callOp, zEff, evA, constAV, frGet, memGet, startAS, frOf, isGoCall, idIn, AS.after, nextR, opnIds, objIds, AV.ids, idsL, AObj.ids, frNo, memNo, opnAny, isAny, mkVal, rdCells, wrCells, fldAddr, idxAddr, srcRows, litRows, toD1, toDs, setAt, sliceAV, optI, partAV, bldAV, fillAV, binAV, binI, AV.cells, callEff, calleeOf, frKill, memKill, AV.kill, AObj.kill, AV.has, AV.hasL, Op.operands, Call.operands, tyF, keepF, keepM, viewIds, cChk, renOf, moGet, moWs, moQ, cEff, moLike, moHave, AV.ren, renL, AObj.ren, AObj.like, kept, startC, moMem, AV.frz, frz1, frzL, frSub, memSub, frzs, AS.frz, frFrz, memFrz, AObj.frz, takeMap, takeLen, bleF, Nat.ble_eq, memAny, objAny, bFr]) (by simp [runD, mkRc, dstOk, guardOk, opEff, opEff0, effOp, pureOp, callOp, zEff, evA, constAV, frGet, memGet, startAS, frOf, isGoCall, idIn, AS.after, nextR, opnIds, objIds, AV.ids, idsL, AObj.ids, frNo, memNo, opnAny, isAny, mkVal, rdCells, wrCells, fldAddr, idxAddr, srcRows, litRows, toD1, toDs, setAt, sliceAV, optI, partAV, bldAV, fillAV, binAV, binI, AV.cells, callEff, calleeOf, frKill, memKill, AV.kill, AObj.kill, AV.has, AV.hasL, Op.operands, Call.operands, tyF, keepF, keepM, viewIds, cChk, renOf, moGet, moWs, moQ, cEff, moLike, moHave, AV.ren, renL, AObj.ren, AObj.like, kept, startC, moMem, AV.frz, frz1, frzL, frSub, memSub, frzs, AS.frz, frFrz, memFrz, AObj.frz, takeMap, takeLen, bleF, Nat.ble_eq, memAny, objAny, bMem, Slt.row])
        · have h7' : e ≠ 0 := by simpa using h7
          rw [if_neg h7'] at hst'
          subst hst'
          refine AWp.skip ?_
          exact Le.sub (by simp [runD, mkRc, dstOk, guardOk, opEff, opEff0, effOp, pureOp, callOp, zEff, evA, constAV, frGet, memGet, startAS, frOf, isGoCall, idIn, AS.after, nextR, opnIds, objIds, AV.ids, idsL, AObj.ids, frNo, memNo, opnAny, isAny, mkVal, rdCells, wrCells, fldAddr, idxAddr, srcRows, litRows, toD1, toDs, setAt, sliceAV, optI, partAV, bldAV, fillAV, binAV, binI, AV.cells, callEff, calleeOf, frKill, memKill, AV.kill, AObj.kill, AV.has, AV.hasL, Op.operands, Call.operands, tyF, keepF, keepM, viewIds, cChk, renOf, moGet, moWs, moQ, cEff, moLike, moHave, AV.ren, renL, AObj.ren, AObj.like, kept, startC, moMem, AV.frz, frz1, frzL, frSub, memSub, frzs, AS.frz, frFrz, memFrz, AObj.frz, takeMap, takeLen, bleF, Nat.ble_eq, memAny, objAny, bFr]) (by simp [runD, mkRc, dstOk, guardOk, opEff, opEff0, effOp, pureOp, callOp, zEff, evA, constAV, frGet, memGet, startAS, frOf, isGoCall, idIn, AS.after, nextR, opnIds, objIds, AV.ids, idsL, AObj.ids, frNo, memNo, opnAny, isAny, mkVal, rdCells, wrCells, fldAddr, idxAddr, srcRows, litRows, toD1, toDs, setAt, sliceAV, optI, partAV, bldAV, fillAV, binAV, binI, AV.cells, callEff, calleeOf, frKill, memKill, AV.kill, AObj.kill, AV.has, AV.hasL, Op.operands, Call.operands, tyF, keepF, keepM, viewIds, cChk, renOf, moGet, moWs, moQ, cEff, moLike, moHave, AV.ren, renL, AObj.ren, AObj.like, kept, startC, moMem, AV.frz, frz1, frzL, frSub, memSub, frzs, AS.frz, frFrz, memFrz, AObj.frz, takeMap, takeLen, bleF, Nat.ble_eq, memAny, objAny, bMem, Slt.row])
      have h5' : ¬ (r4 = 0 ∨ r4 = 1) := of_decide_eq_false h5
      repeat (first | refine AWp.seq ?_ | refine AWp.block ?_)
      apply AWp.reg [] []
      · conv => lhs; simp [runD, mkRc, dstOk, guardOk, opEff, opEff0, effOp, pureOp, callOp, zEff, evA, constAV, frGet, memGet, startAS, frOf, isGoCall, idIn, AS.after, nextR, opnIds, objIds, AV.ids, idsL, AObj.ids, frNo, memNo, opnAny, isAny, mkVal, rdCells, wrCells, fldAddr, idxAddr, srcRows, litRows, toD1, toDs, setAt, sliceAV, optI, partAV, bldAV, fillAV, binAV, binI, AV.cells, callEff, calleeOf, frKill, memKill, AV.kill, AObj.kill, AV.has, AV.hasL, Op.operands, Call.operands, tyF, keepF, keepM, viewIds, cChk, renOf, moGet, moWs, moQ, cEff, moLike, moHave, AV.ren, renL, AObj.ren, AObj.like, kept, startC, moMem, AV.frz, frz1, frzL, frSub, memSub, frzs, AS.frz, frFrz, memFrz, AObj.frz, takeMap, takeLen, bleF, Nat.ble_eq, memAny, objAny]
      · trivial
      repeat (first | refine AWp.seq ?_ | refine AWp.block ?_)
      refine AWp.cond rfl (fun h6 => ?_) (fun h6 => ?_)
      · have h6' : r4 = 2 := by have := of_decide_eq_true h6; omega
        obtain ⟨q4, hq4⟩ : ∃ q4, q4 = m / 4 := ⟨_, rfl⟩
        have t5 : Int.tdiv (m : Int) 4 = (q4 : Int) := by subst hq4; rfl
        have hq4' : q4 ≤ 1000 := by omega
        have hst' : q' = dupB m (hp, r) := by rw [hst, actB, if_neg (by omega), if_pos (by omega)]
        rw [dupB, ← hq4] at hst'
        dsimp only at hst'
        repeat (first | refine AWp.seq ?_ | refine AWp.block ?_)
        apply AWp.reg [] [.c [(1000, 5), (1001, 400)] [.d (.int q4), .ptr 1000 0] [(1000, .blk 25 [.arr 1001 0 r.length]), (1001, .arr 24 2 (r.map Slt.row))] (slAV (pickS r q4)) [(1000, .blk 25 [.arr 1001 0 r.length]), (1001, .arr 24 2 (r.map Slt.row))]]
        · conv => lhs; simp [runD, mkRc, dstOk, guardOk, opEff, opEff0, effOp, pureOp, callOp, zEff, evA, constAV, frGet, memGet, startAS, frOf, isGoCall, idIn, AS.after, nextR, opnIds, objIds, AV.ids, idsL, AObj.ids, frNo, memNo, opnAny, isAny, mkVal, rdCells, wrCells, fldAddr, idxAddr, srcRows, litRows, toD1, toDs, setAt, sliceAV, optI, partAV, bldAV, fillAV, binAV, binI, AV.cells, callEff, calleeOf, frKill, memKill, AV.kill, AObj.kill, AV.has, AV.hasL, Op.operands, Call.operands, tyF, keepF, keepM, viewIds, cChk, renOf, moGet, moWs, moQ, cEff, moLike, moHave, AV.ren, renL, AObj.ren, AObj.like, kept, startC, moMem, AV.frz, frz1, frzL, frSub, memSub, frzs, AS.frz, frFrz, memFrz, AObj.frz, takeMap, takeLen, bleF, Nat.ble_eq, memAny, objAny, t5, bFr, bMem, slAV]
        · refine ⟨by simp [inI]; omega, by simpa [List.map, AV.ren, renL, renOf, slAV] using cs_pick r q4 (by omega)⟩
        generalize pickS r q4 = s at hst' ⊢
        obtain ⟨sk, sn⟩ := s
        have hO := hI.sz.ok hI.right (by omega) (by have := hI.roots; omega)
        have hdup := sp_refDup hO (by omega) (by omega) ⟨sk, sn⟩
        have hde := Hp.dup_e hp ⟨sk, sn⟩
        repeat (first | refine AWp.seq ?_ | refine AWp.block ?_)
        apply AWp.reg [] [.p (fun _ => .tuple [hpAV (hp.dup ⟨sk, sn⟩).1, .d (.int (hp.dup ⟨sk, sn⟩).2)]) none]
        · conv => lhs; simp [runD, mkRc, dstOk, guardOk, opEff, opEff0, effOp, pureOp, callOp, zEff, evA, constAV, frGet, memGet, startAS, frOf, isGoCall, idIn, AS.after, nextR, opnIds, objIds, AV.ids, idsL, AObj.ids, frNo, memNo, opnAny, isAny, mkVal, rdCells, wrCells, fldAddr, idxAddr, srcRows, litRows, toD1, toDs, setAt, sliceAV, optI, partAV, bldAV, fillAV, binAV, binI, AV.cells, callEff, calleeOf, frKill, memKill, AV.kill, AObj.kill, AV.has, AV.hasL, Op.operands, Call.operands, tyF, keepF, keepM, viewIds, cChk, renOf, moGet, moWs, moQ, cEff, moLike, moHave, AV.ren, renL, AObj.ren, AObj.like, kept, startC, moMem, AV.frz, frz1, frzL, frSub, memSub, frzs, AS.frz, frFrz, memFrz, AObj.frz, takeMap, takeLen, bleF, Nat.ble_eq, memAny, objAny, slAV]
        · simpa [hpAV, slAV] using hdup
        generalize hp.dup ⟨sk, sn⟩ = d at hst' hdup hde ⊢
        obtain ⟨hp', e⟩ := d
        repeat (first | refine AWp.seq ?_ | refine AWp.block ?_)
        apply AWp.reg [] []
        · conv => lhs; simp [runD, mkRc, dstOk, guardOk, opEff, opEff0, effOp, pureOp, callOp, zEff, evA, constAV, frGet, memGet, startAS, frOf, isGoCall, idIn, AS.after, nextR, opnIds, objIds, AV.ids, idsL, AObj.ids, frNo, memNo, opnAny, isAny, mkVal, rdCells, wrCells, fldAddr, idxAddr, srcRows, litRows, toD1, toDs, setAt, sliceAV, optI, partAV, bldAV, fillAV, binAV, binI, AV.cells, callEff, calleeOf, frKill, memKill, AV.kill, AObj.kill, AV.has, AV.hasL, Op.operands, Call.operands, tyF, keepF, keepM, viewIds, cChk, renOf, moGet, moWs, moQ, cEff, moLike, moHave, AV.ren, renL, AObj.ren, AObj.like, kept, startC, moMem, AV.frz, frz1, frzL, frSub, memSub, frzs, AS.frz, frFrz, memFrz, AObj.frz, takeMap, takeLen, bleF, Nat.ble_eq, memAny, objAny]
        · trivial
        repeat (first | refine AWp.seq ?_ | refine AWp.block ?_)
        refine AWp.cond rfl (fun h7 => ?_) (fun h7 => ?_)
        · have h7' : e = 0 := by simpa using h7
          rw [if_pos h7'] at hst'
          subst hst'
          have hrl : r.length ≤ min k 61 := hI.roots
          repeat (first | refine AWp.seq ?_ | refine AWp.block ?_)
          apply AWp.reg [] []
          · conv => lhs; simp [runD, mkRc, dstOk, guardOk, opEff, opEff0, effOp, pureOp, callOp, zEff, evA, constAV, frGet, memGet, startAS, frOf, isGoCall, idIn, AS.after, nextR, opnIds, objIds, AV.ids, idsL, AObj.ids, frNo, memNo, opnAny, isAny, mkVal, rdCells, wrCells, fldAddr, idxAddr, srcRows, litRows, toD1, toDs, setAt, sliceAV, optI, partAV, bldAV, fillAV, binAV, binI, AV.cells, callEff, calleeOf, frKill, memKill, AV.kill, AObj.kill, AV.has, AV.hasL, Op.operands, Call.operands, tyF, keepF, keepM, viewIds, cChk, renOf, moGet, moWs, moQ, cEff, moLike, moHave, AV.ren, renL, AObj.ren, AObj.like, kept, startC, moMem, AV.frz, frz1, frzL, frSub, memSub, frzs, AS.frz, frFrz, memFrz, AObj.frz, takeMap, takeLen, bleF, Nat.ble_eq, memAny, objAny, hpAV]
          · trivial
          repeat (first | refine AWp.seq ?_ | refine AWp.block ?_)
          apply AWp.reg [] []
          · conv => lhs; simp [runD, mkRc, dstOk, guardOk, opEff, opEff0, effOp, pureOp, callOp, zEff, evA, constAV, frGet, memGet, startAS, frOf, isGoCall, idIn, AS.after, nextR, opnIds, objIds, AV.ids, idsL, AObj.ids, frNo, memNo, opnAny, isAny, mkVal, rdCells, wrCells, fldAddr, idxAddr, srcRows, litRows, toD1, toDs, setAt, sliceAV, optI, partAV, bldAV, fillAV, binAV, binI, AV.cells, callEff, calleeOf, frKill, memKill, AV.kill, AObj.kill, AV.has, AV.hasL, Op.operands, Call.operands, tyF, keepF, keepM, viewIds, cChk, renOf, moGet, moWs, moQ, cEff, moLike, moHave, AV.ren, renL, AObj.ren, AObj.like, kept, startC, moMem, AV.frz, frz1, frzL, frSub, memSub, frzs, AS.frz, frFrz, memFrz, AObj.frz, takeMap, takeLen, bleF, Nat.ble_eq, memAny, objAny]
          · simp [maxLen]; omega
          exact Le.sub (by simp [runD, mkRc, dstOk, guardOk, opEff, opEff0, effOp, pureOp, callOp, zEff, evA, constAV, frGet, memGet, startAS, frOf, isGoCall, idIn, AS.after, nextR, opnIds, objIds, AV.ids, idsL, AObj.ids, frNo, memNo, opnAny, isAny, mkVal, rdCells, wrCells, fldAddr, idxAddr, srcRows, litRows, toD1, toDs, setAt, sliceAV, optI, partAV, bldAV, fillAV, binAV, binI, AV.cells, callEff, calleeOf, frKill, memKill, AV.kill, AObj.kill, AV.has, AV.hasL, Op.operands, Call.operands, tyF, keepF, keepM, viewIds, cChk, renOf, moGet, moWs, moQ, cEff, moLike, moHave, AV.ren, renL, AObj.ren, AObj.like, kept, startC, moMem, AV.frz, frz1, frzL, frSub, memSub, frzs, AS.frz, frFrz, memFrz, AObj.frz, takeMap, takeLen, bleF, Nat.ble_eq, memAny, objAny, bFr, actsAV]) (by simp [runD, mkRc, dstOk, guardOk, opEff, opEff0, effOp, pureOp, callOp, zEff, evA, constAV, frGet, memGet, startAS, frOf, isGoCall, idIn, AS.after, nextR, opnIds, objIds, AV.ids, idsL, AObj.ids, frNo, memNo, opnAny, isAny, mkVal, rdCells, wrCells, fldAddr, idxAddr, srcRows, litRows, toD1, toDs, setAt, sliceAV, optI, partAV, bldAV, fillAV, binAV, binI, AV.cells, callEff, calleeOf, frKill, memKill, AV.kill, AObj.kill, AV.has, AV.hasL, Op.operands, Call.operands, tyF, keepF, keepM, viewIds, cChk, renOf, moGet, moWs, moQ, cEff, moLike, moHave, AV.ren, renL, AObj.ren, AObj.like, kept, startC, moMem, AV.frz, frz1, frzL, frSub, memSub, frzs, AS.frz, frFrz, memFrz, AObj.frz, takeMap, takeLen, bleF, Nat.ble_eq, memAny, objAny, bMem, Slt.row])
        · have h7' : e ≠ 0 := by simpa using h7
          rw [if_neg h7'] at hst'
          subst hst'
          refine AWp.skip ?_
          exact Le.sub (by simp [runD, mkRc, dstOk, guardOk, opEff, opEff0, effOp, pureOp, callOp, zEff, evA, constAV, frGet, memGet, startAS, frOf, isGoCall, idIn, AS.after, nextR, opnIds, objIds, AV.ids, idsL, AObj.ids, frNo, memNo, opnAny, isAny, mkVal, rdCells, wrCells, fldAddr, idxAddr, srcRows, litRows, toD1, toDs, setAt, sliceAV, optI, partAV, bldAV, fillAV, binAV, binI, AV.cells, callEff, calleeOf, frKill, memKill, AV.kill, AObj.kill, AV.has, AV.hasL, Op.operands, Call.operands, tyF, keepF, keepM, viewIds, cChk, renOf, moGet, moWs, moQ, cEff, moLike, moHave, AV.ren, renL, AObj.ren, AObj.like, kept, startC, moMem, AV.frz, frz1, frzL, frSub, memSub, frzs, AS.frz, frFrz, memFrz, AObj.frz, takeMap, takeLen, bleF, Nat.ble_eq, memAny, objAny, bFr, actsAV]) (by simp [runD, mkRc, dstOk, guardOk, opEff, opEff0, effOp, pureOp, callOp, zEff, evA, constAV, frGet, memGet, startAS, frOf, isGoCall, idIn, AS.after, nextR, opnIds, objIds, AV.ids, idsL, AObj.ids, frNo, memNo, opnAny, isAny, mkVal, rdCells, wrCells, fldAddr, idxAddr, srcRows, litRows, toD1, toDs, setAt, sliceAV, optI, partAV, bldAV, fillAV, binAV, binI, AV.cells, callEff, calleeOf, frKill, memKill, AV.kill, AObj.kill, AV.has, AV.hasL, Op.operands, Call.operands, tyF, keepF, keepM, viewIds, cChk, renOf, moGet, moWs, moQ, cEff, moLike, moHave, AV.ren, renL, AObj.ren, AObj.like, kept, startC, moMem, AV.frz, frz1, frzL, frSub, memSub, frzs, AS.frz, frFrz, memFrz, AObj.frz, takeMap, takeLen, bleF, Nat.ble_eq, memAny, objAny, bMem, Slt.row])
      have h6' : r4 ≠ 2 := by have := of_decide_eq_false h6; omega
      have hrl : r.length ≤ min k 61 := hI.roots
      rw [actB, if_neg (by omega), if_neg (by omega)] at hst
      dsimp only at hst
      repeat (first | refine AWp.seq ?_ | refine AWp.block ?_)
      apply AWp.reg [] []
      · conv => lhs; simp [runD, mkRc, dstOk, guardOk, opEff, opEff0, effOp, pureOp, callOp, zEff, evA, constAV, frGet, memGet, startAS, frOf, isGoCall, idIn, AS.after, nextR, opnIds, objIds, AV.ids, idsL, AObj.ids, frNo, memNo, opnAny, isAny, mkVal, rdCells, wrCells, fldAddr, idxAddr, srcRows, litRows, toD1, toDs, setAt, sliceAV, optI, partAV, bldAV, fillAV, binAV, binI, AV.cells, callEff, calleeOf, frKill, memKill, AV.kill, AObj.kill, AV.has, AV.hasL, Op.operands, Call.operands, tyF, keepF, keepM, viewIds, cChk, renOf, moGet, moWs, moQ, cEff, moLike, moHave, AV.ren, renL, AObj.ren, AObj.like, kept, startC, moMem, AV.frz, frz1, frzL, frSub, memSub, frzs, AS.frz, frFrz, memFrz, AObj.frz, takeMap, takeLen, bleF, Nat.ble_eq, memAny, objAny, bFr, bMem]
      · trivial
      repeat (first | refine AWp.seq ?_ | refine AWp.block ?_)
      refine AWp.cond rfl (fun h7 => ?_) (fun h7 => ?_)
      · have h7' : 0 < r.length := by simpa using h7
        obtain ⟨q4, hq4⟩ : ∃ q4, q4 = m / 4 := ⟨_, rfl⟩
        have t5 : Int.tdiv (m : Int) 4 = (q4 : Int) := by subst hq4; rfl
        have hq4' : q4 ≤ 1000 := by omega
        rw [← hq4] at hst
        have hkk : q4 % r.length < r.length := Nat.mod_lt _ h7'
        have t6 : Int.tmod (q4 : Int) (r.length : Int) = ((q4 % r.length : Nat) : Int) := rfl
        generalize q4 % r.length = kk at hst hkk t6
        have hx' : r[kk]? = some r[kk] := List.getElem?_eq_getElem hkk
        generalize r[kk] = x at hx'
        rw [hx'] at hst
        dsimp only at hst
        rw [dropB] at hst
        dsimp only at hst
        obtain ⟨sk, sn⟩ := x
        have hO := hI.sz.ok hI.right (by omega) (show r.length ≤ 70 by omega)
        have hdrop := sp_refDrop hO (by omega) ⟨sk, sn⟩
        repeat (first | refine AWp.seq ?_ | refine AWp.block ?_)
        apply AWp.reg [] []
        · conv => lhs; simp [runD, mkRc, dstOk, guardOk, opEff, opEff0, effOp, pureOp, callOp, zEff, evA, constAV, frGet, memGet, startAS, frOf, isGoCall, idIn, AS.after, nextR, opnIds, objIds, AV.ids, idsL, AObj.ids, frNo, memNo, opnAny, isAny, mkVal, rdCells, wrCells, fldAddr, idxAddr, srcRows, litRows, toD1, toDs, setAt, sliceAV, optI, partAV, bldAV, fillAV, binAV, binI, AV.cells, callEff, calleeOf, frKill, memKill, AV.kill, AObj.kill, AV.has, AV.hasL, Op.operands, Call.operands, tyF, keepF, keepM, viewIds, cChk, renOf, moGet, moWs, moQ, cEff, moLike, moHave, AV.ren, renL, AObj.ren, AObj.like, kept, startC, moMem, AV.frz, frz1, frzL, frSub, memSub, frzs, AS.frz, frFrz, memFrz, AObj.frz, takeMap, takeLen, bleF, Nat.ble_eq, memAny, objAny, t5, t6, show r.length ≠ 0 by omega]
        · simp [inI]; omega
        repeat (first | refine AWp.seq ?_ | refine AWp.block ?_)
        apply AWp.draw [] [.p (fun _ => .tuple [hpAV (hp.drop ⟨sk, sn⟩).1, .d (.int (hp.drop ⟨sk, sn⟩).2)]) none] mixed
        · conv => lhs; simp [runD, mkRc, dstOk, guardOk, opEff, opEff0, effOp, pureOp, callOp, zEff, evA, constAV, frGet, memGet, startAS, frOf, isGoCall, idIn, AS.after, nextR, opnIds, objIds, AV.ids, idsL, AObj.ids, frNo, memNo, opnAny, isAny, mkVal, rdCells, wrCells, fldAddr, idxAddr, srcRows, litRows, toD1, toDs, setAt, sliceAV, optI, partAV, bldAV, fillAV, binAV, binI, AV.cells, callEff, calleeOf, frKill, memKill, AV.kill, AObj.kill, AV.has, AV.hasL, Op.operands, Call.operands, tyF, keepF, keepM, viewIds, cChk, renOf, moGet, moWs, moQ, cEff, moLike, moHave, AV.ren, renL, AObj.ren, AObj.like, kept, startC, moMem, AV.frz, frz1, frzL, frSub, memSub, frzs, AS.frz, frFrz, memFrz, AObj.frz, takeMap, takeLen, bleF, Nat.ble_eq, memAny, objAny, hx', Slt.row]
        · rfl
        · exact ⟨by simpa using hkk, by simpa [hpAV, slAV] using hdrop⟩
        generalize hp.drop ⟨sk, sn⟩ = d at hst hdrop ⊢
        obtain ⟨hp', e⟩ := d
        repeat (first | refine AWp.seq ?_ | refine AWp.block ?_)
        apply AWp.reg [] []
        · conv => lhs; simp [runD, mkRc, dstOk, guardOk, opEff, opEff0, effOp, pureOp, callOp, zEff, evA, constAV, frGet, memGet, startAS, frOf, isGoCall, idIn, AS.after, nextR, opnIds, objIds, AV.ids, idsL, AObj.ids, frNo, memNo, opnAny, isAny, mkVal, rdCells, wrCells, fldAddr, idxAddr, srcRows, litRows, toD1, toDs, setAt, sliceAV, optI, partAV, bldAV, fillAV, binAV, binI, AV.cells, callEff, calleeOf, frKill, memKill, AV.kill, AObj.kill, AV.has, AV.hasL, Op.operands, Call.operands, tyF, keepF, keepM, viewIds, cChk, renOf, moGet, moWs, moQ, cEff, moLike, moHave, AV.ren, renL, AObj.ren, AObj.like, kept, startC, moMem, AV.frz, frz1, frzL, frSub, memSub, frzs, AS.frz, frFrz, memFrz, AObj.frz, takeMap, takeLen, bleF, Nat.ble_eq, memAny, objAny]
        · trivial
        repeat (first | refine AWp.seq ?_ | refine AWp.block ?_)
        refine AWp.cond rfl (fun h8 => ?_) (fun h8 => ?_)
        · have h8' : e = 0 := by simpa using h8
          rw [if_pos h8'] at hst
          subst hst
          repeat (first | refine AWp.seq ?_ | refine AWp.block ?_)
          apply AWp.reg [] []
          · conv => lhs; simp [runD, mkRc, dstOk, guardOk, opEff, opEff0, effOp, pureOp, callOp, zEff, evA, constAV, frGet, memGet, startAS, frOf, isGoCall, idIn, AS.after, nextR, opnIds, objIds, AV.ids, idsL, AObj.ids, frNo, memNo, opnAny, isAny, mkVal, rdCells, wrCells, fldAddr, idxAddr, srcRows, litRows, toD1, toDs, setAt, sliceAV, optI, partAV, bldAV, fillAV, binAV, binI, AV.cells, callEff, calleeOf, frKill, memKill, AV.kill, AObj.kill, AV.has, AV.hasL, Op.operands, Call.operands, tyF, keepF, keepM, viewIds, cChk, renOf, moGet, moWs, moQ, cEff, moLike, moHave, AV.ren, renL, AObj.ren, AObj.like, kept, startC, moMem, AV.frz, frz1, frzL, frSub, memSub, frzs, AS.frz, frFrz, memFrz, AObj.frz, takeMap, takeLen, bleF, Nat.ble_eq, memAny, objAny, hpAV]
          · trivial
          repeat (first | refine AWp.seq ?_ | refine AWp.block ?_)
          apply AWp.draw [] [] mixed
          · conv => lhs; simp [runD, mkRc, dstOk, guardOk, opEff, opEff0, effOp, pureOp, callOp, zEff, evA, constAV, frGet, memGet, startAS, frOf, isGoCall, idIn, AS.after, nextR, opnIds, objIds, AV.ids, idsL, AObj.ids, frNo, memNo, opnAny, isAny, mkVal, rdCells, wrCells, fldAddr, idxAddr, srcRows, litRows, toD1, toDs, setAt, sliceAV, optI, partAV, bldAV, fillAV, binAV, binI, AV.cells, callEff, calleeOf, frKill, memKill, AV.kill, AObj.kill, AV.has, AV.hasL, Op.operands, Call.operands, tyF, keepF, keepM, viewIds, cChk, renOf, moGet, moWs, moQ, cEff, moLike, moHave, AV.ren, renL, AObj.ren, AObj.like, kept, startC, moMem, AV.frz, frz1, frzL, frSub, memSub, frzs, AS.frz, frFrz, memFrz, AObj.frz, takeMap, takeLen, bleF, Nat.ble_eq, memAny, objAny]
          · rfl
          · simp [inI, maxLen]; omega
          exact Le.low [] [(400, 64)] rfl (by simp [runD, mkRc, dstOk, guardOk, opEff, opEff0, effOp, pureOp, callOp, zEff, evA, constAV, frGet, memGet, startAS, frOf, isGoCall, idIn, AS.after, nextR, opnIds, objIds, AV.ids, idsL, AObj.ids, frNo, memNo, opnAny, isAny, mkVal, rdCells, wrCells, fldAddr, idxAddr, srcRows, litRows, toD1, toDs, setAt, sliceAV, optI, partAV, bldAV, fillAV, binAV, binI, AV.cells, callEff, calleeOf, frKill, memKill, AV.kill, AObj.kill, AV.has, AV.hasL, Op.operands, Call.operands, tyF, keepF, keepM, viewIds, cChk, renOf, moGet, moWs, moQ, cEff, moLike, moHave, AV.ren, renL, AObj.ren, AObj.like, kept, startC, moMem, AV.frz, frz1, frzL, frSub, memSub, frzs, AS.frz, frFrz, memFrz, AObj.frz, takeMap, takeLen, bleF, Nat.ble_eq, memAny, objAny, frLow, memLow, memLow1, objLow, memEmpty, Low, LowL, bFr]) (by simp [runD, mkRc, dstOk, guardOk, opEff, opEff0, effOp, pureOp, callOp, zEff, evA, constAV, frGet, memGet, startAS, frOf, isGoCall, idIn, AS.after, nextR, opnIds, objIds, AV.ids, idsL, AObj.ids, frNo, memNo, opnAny, isAny, mkVal, rdCells, wrCells, fldAddr, idxAddr, srcRows, litRows, toD1, toDs, setAt, sliceAV, optI, partAV, bldAV, fillAV, binAV, binI, AV.cells, callEff, calleeOf, frKill, memKill, AV.kill, AObj.kill, AV.has, AV.hasL, Op.operands, Call.operands, tyF, keepF, keepM, viewIds, cChk, renOf, moGet, moWs, moQ, cEff, moLike, moHave, AV.ren, renL, AObj.ren, AObj.like, kept, startC, moMem, AV.frz, frz1, frzL, frSub, memSub, frzs, AS.frz, frFrz, memFrz, AObj.frz, takeMap, takeLen, bleF, Nat.ble_eq, memAny, objAny, frLow, memLow, memLow1, objLow, memEmpty, Low, LowL, bMem, List.map_take, List.map_drop, List.take_of_length_le])
        · have h8' : e ≠ 0 := by simpa using h8
          rw [if_neg h8'] at hst
          subst hst
          refine AWp.skip ?_
          exact Le.sub (by simp [runD, mkRc, dstOk, guardOk, opEff, opEff0, effOp, pureOp, callOp, zEff, evA, constAV, frGet, memGet, startAS, frOf, isGoCall, idIn, AS.after, nextR, opnIds, objIds, AV.ids, idsL, AObj.ids, frNo, memNo, opnAny, isAny, mkVal, rdCells, wrCells, fldAddr, idxAddr, srcRows, litRows, toD1, toDs, setAt, sliceAV, optI, partAV, bldAV, fillAV, binAV, binI, AV.cells, callEff, calleeOf, frKill, memKill, AV.kill, AObj.kill, AV.has, AV.hasL, Op.operands, Call.operands, tyF, keepF, keepM, viewIds, cChk, renOf, moGet, moWs, moQ, cEff, moLike, moHave, AV.ren, renL, AObj.ren, AObj.like, kept, startC, moMem, AV.frz, frz1, frzL, frSub, memSub, frzs, AS.frz, frFrz, memFrz, AObj.frz, takeMap, takeLen, bleF, Nat.ble_eq, memAny, objAny, bFr, actsAV]) (by simp [runD, mkRc, dstOk, guardOk, opEff, opEff0, effOp, pureOp, callOp, zEff, evA, constAV, frGet, memGet, startAS, frOf, isGoCall, idIn, AS.after, nextR, opnIds, objIds, AV.ids, idsL, AObj.ids, frNo, memNo, opnAny, isAny, mkVal, rdCells, wrCells, fldAddr, idxAddr, srcRows, litRows, toD1, toDs, setAt, sliceAV, optI, partAV, bldAV, fillAV, binAV, binI, AV.cells, callEff, calleeOf, frKill, memKill, AV.kill, AObj.kill, AV.has, AV.hasL, Op.operands, Call.operands, tyF, keepF, keepM, viewIds, cChk, renOf, moGet, moWs, moQ, cEff, moLike, moHave, AV.ren, renL, AObj.ren, AObj.like, kept, startC, moMem, AV.frz, frz1, frzL, frSub, memSub, frzs, AS.frz, frFrz, memFrz, AObj.frz, takeMap, takeLen, bleF, Nat.ble_eq, memAny, objAny, bMem, Slt.row])
      · have h7' : r = [] := List.eq_nil_of_length_eq_zero (by have : ¬ 0 < r.length := by simpa using h7
                                                               omega)
        subst h7'
        simp only [List.getElem?_nil] at hst
        subst hst
        refine AWp.skip ?_
        exact Le.sub (by simp [runD, mkRc, dstOk, guardOk, opEff, opEff0, effOp, pureOp, callOp, zEff, evA, constAV, frGet, memGet, startAS, frOf, isGoCall, idIn, AS.after, nextR, opnIds, objIds, AV.ids, idsL, AObj.ids, frNo, memNo, opnAny, isAny, mkVal, rdCells, wrCells, fldAddr, idxAddr, srcRows, litRows, toD1, toDs, setAt, sliceAV, optI, partAV, bldAV, fillAV, binAV, binI, AV.cells, callEff, calleeOf, frKill, memKill, AV.kill, AObj.kill, AV.has, AV.hasL, Op.operands, Call.operands, tyF, keepF, keepM, viewIds, cChk, renOf, moGet, moWs, moQ, cEff, moLike, moHave, AV.ren, renL, AObj.ren, AObj.like, kept, startC, moMem, AV.frz, frz1, frzL, frSub, memSub, frzs, AS.frz, frFrz, memFrz, AObj.frz, takeMap, takeLen, bleF, Nat.ble_eq, memAny, objAny, bFr, actsAV]) (by simp [runD, mkRc, dstOk, guardOk, opEff, opEff0, effOp, pureOp, callOp, zEff, evA, constAV, frGet, memGet, startAS, frOf, isGoCall, idIn, AS.after, nextR, opnIds, objIds, AV.ids, idsL, AObj.ids, frNo, memNo, opnAny, isAny, mkVal, rdCells, wrCells, fldAddr, idxAddr, srcRows, litRows, toD1, toDs, setAt, sliceAV, optI, partAV, bldAV, fillAV, binAV, binI, AV.cells, callEff, calleeOf, frKill, memKill, AV.kill, AObj.kill, AV.has, AV.hasL, Op.operands, Call.operands, tyF, keepF, keepM, viewIds, cChk, renOf, moGet, moWs, moQ, cEff, moLike, moHave, AV.ren, renL, AObj.ren, AObj.like, kept, startC, moMem, AV.frz, frz1, frzL, frSub, memSub, frzs, AS.frz, frFrz, memFrz, AObj.frz, takeMap, takeLen, bleF, Nat.ble_eq, memAny, objAny, bMem, Slt.row])
    · repeat (first | refine AWp.seq ?_ | refine AWp.block ?_)
      apply AWp.reg [] []
      · conv => lhs; simp [runD, mkRc, dstOk, guardOk, opEff, opEff0, effOp, pureOp, callOp, zEff, evA, constAV, frGet, memGet, startAS, frOf, isGoCall, idIn, AS.after, nextR, opnIds, objIds, AV.ids, idsL, AObj.ids, frNo, memNo, opnAny, isAny, mkVal, rdCells, wrCells, fldAddr, idxAddr, srcRows, litRows, toD1, toDs, setAt, sliceAV, optI, partAV, bldAV, fillAV, binAV, binI, AV.cells, callEff, calleeOf, frKill, memKill, AV.kill, AObj.kill, AV.has, AV.hasL, Op.operands, Call.operands, tyF, keepF, keepM, viewIds, cChk, renOf, moGet, moWs, moQ, cEff, moLike, moHave, AV.ren, renL, AObj.ren, AObj.like, kept, startC, moMem, AV.frz, frz1, frzL, frSub, memSub, frzs, AS.frz, frFrz, memFrz, AObj.frz, takeMap, takeLen, bleF, Nat.ble_eq, memAny, objAny, bFr]
      · simp [inI]; omega
      refine ⟨⟨k + 1, hlt⟩, by simp; omega, Le.sub (by simp [runD, mkRc, dstOk, guardOk, opEff, opEff0, effOp, pureOp, callOp, zEff, evA, constAV, frGet, memGet, startAS, frOf, isGoCall, idIn, AS.after, nextR, opnIds, objIds, AV.ids, idsL, AObj.ids, frNo, memNo, opnAny, isAny, mkVal, rdCells, wrCells, fldAddr, idxAddr, srcRows, litRows, toD1, toDs, setAt, sliceAV, optI, partAV, bldAV, fillAV, binAV, binI, AV.cells, callEff, calleeOf, frKill, memKill, AV.kill, AObj.kill, AV.has, AV.hasL, Op.operands, Call.operands, tyF, keepF, keepM, viewIds, cChk, renOf, moGet, moWs, moQ, cEff, moLike, moHave, AV.ren, renL, AObj.ren, AObj.like, kept, startC, moMem, AV.frz, frz1, frzL, frSub, memSub, frzs, AS.frz, frFrz, memFrz, AObj.frz, takeMap, takeLen, bleF, Nat.ble_eq, memAny, objAny, bFr]) (by simp [runD, mkRc, dstOk, guardOk, opEff, opEff0, effOp, pureOp, callOp, zEff, evA, constAV, frGet, memGet, startAS, frOf, isGoCall, idIn, AS.after, nextR, opnIds, objIds, AV.ids, idsL, AObj.ids, frNo, memNo, opnAny, isAny, mkVal, rdCells, wrCells, fldAddr, idxAddr, srcRows, litRows, toD1, toDs, setAt, sliceAV, optI, partAV, bldAV, fillAV, binAV, binI, AV.cells, callEff, calleeOf, frKill, memKill, AV.kill, AObj.kill, AV.has, AV.hasL, Op.operands, Call.operands, tyF, keepF, keepM, viewIds, cChk, renOf, moGet, moWs, moQ, cEff, moLike, moHave, AV.ren, renL, AObj.ren, AObj.like, kept, startC, moMem, AV.frz, frz1, frzL, frSub, memSub, frzs, AS.frz, frFrz, memFrz, AObj.frz, takeMap, takeLen, bleF, Nat.ble_eq, memAny, objAny, bMem])⟩
  · have hk' : k = acts.length := by have : ¬ k < acts.length := by simpa using h
                                     omega
    subst hk'
    refine AWp.exit ?_
    repeat (first | refine AWp.seq ?_ | refine AWp.block ?_)
    apply AWp.draw [] [] mixed
    · conv => lhs; simp [runD, mkRc, dstOk, guardOk, opEff, opEff0, effOp, pureOp, callOp, zEff, evA, constAV, frGet, memGet, startAS, frOf, isGoCall, idIn, AS.after, nextR, opnIds, objIds, AV.ids, idsL, AObj.ids, frNo, memNo, opnAny, isAny, mkVal, rdCells, wrCells, fldAddr, idxAddr, srcRows, litRows, toD1, toDs, setAt, sliceAV, optI, partAV, bldAV, fillAV, binAV, binI, AV.cells, callEff, calleeOf, frKill, memKill, AV.kill, AObj.kill, AV.has, AV.hasL, Op.operands, Call.operands, tyF, keepF, keepM, viewIds, cChk, renOf, moGet, moWs, moQ, cEff, moLike, moHave, AV.ren, renL, AObj.ren, AObj.like, kept, startC, moMem, AV.frz, frz1, frzL, frSub, memSub, frzs, AS.frz, frFrz, memFrz, AObj.frz, takeMap, takeLen, bleF, Nat.ble_eq, memAny, objAny, bFr, bMem]
    · rfl
    · trivial
    repeat (first | refine AWp.seq ?_ | refine AWp.block ?_)
    refine AWp.ret ?_
    try dsimp only [thenQ, blockQ]
    apply endQ.retF [400]
    · rfl
    · conv => lhs; simp [runD, mkRc, dstOk, guardOk, opEff, opEff0, effOp, pureOp, callOp, zEff, evA, constAV, frGet, memGet, startAS, frOf, isGoCall, idIn, AS.after, nextR, opnIds, objIds, AV.ids, idsL, AObj.ids, frNo, memNo, opnAny, isAny, mkVal, rdCells, wrCells, fldAddr, idxAddr, srcRows, litRows, toD1, toDs, setAt, sliceAV, optI, partAV, bldAV, fillAV, binAV, binI, AV.cells, callEff, calleeOf, frKill, memKill, AV.kill, AObj.kill, AV.has, AV.hasL, Op.operands, Call.operands, tyF, keepF, keepM, viewIds, cChk, renOf, moGet, moWs, moQ, cEff, moLike, moHave, AV.ren, renL, AObj.ren, AObj.like, kept, startC, moMem, AV.frz, frz1, frzL, frSub, memSub, frzs, AS.frz, frFrz, memFrz, AObj.frz, takeMap, takeLen, bleF, Nat.ble_eq, memAny, objAny]
    · conv => lhs; simp [runD, mkRc, dstOk, guardOk, opEff, opEff0, effOp, pureOp, callOp, zEff, evA, constAV, frGet, memGet, startAS, frOf, isGoCall, idIn, AS.after, nextR, opnIds, objIds, AV.ids, idsL, AObj.ids, frNo, memNo, opnAny, isAny, mkVal, rdCells, wrCells, fldAddr, idxAddr, srcRows, litRows, toD1, toDs, setAt, sliceAV, optI, partAV, bldAV, fillAV, binAV, binI, AV.cells, callEff, calleeOf, frKill, memKill, AV.kill, AObj.kill, AV.has, AV.hasL, Op.operands, Call.operands, tyF, keepF, keepM, viewIds, cChk, renOf, moGet, moWs, moQ, cEff, moLike, moHave, AV.ren, renL, AObj.ren, AObj.like, kept, startC, moMem, AV.frz, frz1, frzL, frSub, memSub, frzs, AS.frz, frFrz, memFrz, AObj.frz, takeMap, takeLen, bleF, Nat.ble_eq, memAny, objAny, resAV, Try.results7]
    rfl
end Go.Proofs.Ytcakhebnebcpcaa
