/- xclaw10.alive, by the abstract machine. -/
import Derived.Test.YtcakhebnebcpcaaBuiltB
namespace Go.Proofs.Ytcakhebnebcpcaa
open Go.RowKit
set_option linter.unusedVariables false
set_option linter.unusedSimpArgs false

theorem PSpec.nilArgs {P : Program} {k : Nat} {args : List AV} {r : Nat → AV} {x : Option AObj} (h : PSpec P k (args.map AV.nilD) r x) : PSpec P k args r x := by
  refine ⟨h.ent, h.rcl, h.nil, h.arr, fun d w ok vals hok hl hv => h.run d w ok vals hok (by simpa using hl) fun i c v hc hv' => ?_⟩
  rw [List.getElem?_map] at hc
  obtain ⟨c', hc', rfl⟩ := Option.map_eq_some_iff.1 hc
  exact (hv i c' v hc' hv').nilD

theorem pairEq_slot : PairEq Try.prog 24 := fun a b c d w => by
  have u3 := Try.underlying3
  have a3 := Try.isAgg3
  have z3 := Try.sizeOf3
  have hS : Try.prog.underlying 24 = some (.struct (Try.prog.fieldsOf 24)) := by kernel_rfl
  have hp : Try.prog.stoodInHeld 24 = false := by kernel_rfl
  refine ⟨?_, fun op x y => slot_guard op x y _ _ w⟩
  rw [show (10000 : Nat) = 9999 + 1 from rfl, run_equalIn_agg w 9999 24 _ _ hS hp]
  simp only [Program.fieldsOf, Try.underlying24]
  go_simp
  by_cases h1 : a = c <;> by_cases h2 : b = d <;> simp [h1, h2]

def H1 (c : Int) : Hp := ⟨[⟨c, 3, [⟨0, 7⟩]⟩], 1, 0, 1, 1⟩
theorem H1_ok (c : Int) (h : -1 ≤ c ∧ c ≤ 2) : (H1 c).Ok 10 := ⟨by simp [H1], by simp [H1], by simp [H1]; omega, by simp [H1], by simp [H1], by simp [H1], by simp [H1]⟩

theorem m_make : PSpec Try.prog 14 [hpAV Hp.zero, .d (.int 3), slsAV [⟨0, 7⟩]] (fun _ => .tuple [hpAV (H1 1), slAV ⟨2, 0⟩, .d (.int 0)]) none := by
  have := sp_heapMake (Hp.zero_ok (M := 10) (by omega)) (by omega) 3 [⟨0, 7⟩] (by simp)
  rwa [show Hp.zero.make 3 [⟨0, 7⟩] = (H1 1, ⟨2, 0⟩, 0) from by decide] at this
theorem m_dup : PSpec Try.prog 19 [hpAV (H1 1), slAV ⟨2, 0⟩] (fun _ => .tuple [hpAV (H1 2), .d (.int 0)]) none := by
  have := sp_heapDup (H1_ok 1 (by omega)) (by omega) (by omega) ⟨2, 0⟩
  rwa [show (H1 1).dup ⟨2, 0⟩ = (H1 2, 0) from by decide] at this
theorem m_drop : PSpec Try.prog 21 [hpAV (H1 1), slAV ⟨2, 0⟩] (fun _ => .tuple [hpAV ⟨[⟨0, 0, []⟩], 1, 0, 0, 1⟩, .d (.int 0)]) none := by
  have := sp_heapDrop (H1_ok 1 (by omega)) (by omega) ⟨2, 0⟩
  rwa [show (H1 1).drop ⟨2, 0⟩ = (⟨[⟨0, 0, []⟩], 1, 0, 0, 1⟩, 0) from by decide] at this
theorem m_take : PSpec Try.prog 23 [hpAV (H1 2), slAV ⟨2, 0⟩] (fun _ => .tuple [hpAV (H1 1), .d (.int 0)]) none := by
  have := sp_heapTake (H1_ok 2 (by omega)) (by omega) (by omega) ⟨2, 0⟩
  rwa [show (H1 2).open ⟨2, 0⟩ false = (H1 1, false, 0) from by decide] at this
theorem m_hold : PSpec Try.prog 16 [hpAV (H1 1), slAV ⟨2, 0⟩] (fun _ => .tuple [hpAV ⟨[⟨-1, 0, []⟩], 1, 0, 1, 1⟩, slAV ⟨2, 0⟩, .d (.int 0)]) none := by
  have := sp_heapHold (H1_ok 1 (by omega)) (by omega) (by omega) ⟨2, 0⟩
  rwa [show (H1 1).hold ⟨2, 0⟩ = (⟨[⟨-1, 0, []⟩], 1, 0, 1, 1⟩, ⟨2, 0⟩, 0) from by decide] at this
theorem Hk_ok : (⟨[⟨-1, 0, []⟩], 1, 0, 1, 1⟩ : Hp).Ok 10 := ⟨by simp, by simp, by simp, by simp, by simp, by simp, by simp⟩
theorem m_use : PSpec Try.prog 17 [hpAV ⟨[⟨-1, 0, []⟩], 1, 0, 1, 1⟩, slAV ⟨2, 0⟩, .d (.int 4), slsAV []] (fun _ => .tuple [hpAV ⟨[⟨1, 4, []⟩], 1, 1, 1, 1⟩, slAV ⟨2, 0⟩, .d (.int 0)]) none := by
  have := sp_heapUse Hk_ok (by omega) ⟨2, 0⟩ 4 [] (by simp)
  rwa [show (⟨[⟨-1, 0, []⟩], 1, 0, 1, 1⟩ : Hp).use ⟨2, 0⟩ 4 [] = (⟨[⟨1, 4, []⟩], 1, 1, 1, 1⟩, ⟨2, 0⟩, 0) from by decide] at this
theorem m_free : PSpec Try.prog 25 [hpAV ⟨[⟨-1, 0, []⟩], 1, 0, 1, 1⟩, slAV ⟨2, 0⟩] (fun _ => .tuple [hpAV ⟨[⟨0, 0, []⟩], 1, 0, 0, 1⟩, .d (.int 0)]) none := by
  have := sp_heapFree Hk_ok (by omega) ⟨2, 0⟩
  rwa [show (⟨[⟨-1, 0, []⟩], 1, 0, 1, 1⟩ : Hp).free ⟨2, 0⟩ = (⟨[⟨0, 0, []⟩], 1, 0, 0, 1⟩, 0) from by decide] at this
theorem m_get : PSpec Try.prog 11 [hpAV (H1 1), slAV ⟨2, 0⟩] (fun _ => .tuple [.d (.int 3), slsAV [⟨0, 7⟩], .d (.int 0)]) none := by
  have := sp_heapGet (H1 1) ⟨2, 0⟩ (by simp [H1]) (by simp [H1, inI])
  rwa [show (H1 1).get ⟨2, 0⟩ = (3, [⟨0, 7⟩], 0) from by decide] at this
theorem m_own : PSpec Try.prog 10 [hpAV (H1 1)] (fun d => .agg [.arr d 0 1, .d (.int 1), .d (.int 0), .d (.int 1), .d (.int 1)]) (some (.arr 51 3 ((H1 1).cells.map Cll.row))) :=
  sp_heapOwn (H1 1) (by simp [H1]) (by simp [H1])

set_option maxRecDepth 20000 in
set_option maxHeartbeats 8000000 in
theorem sp_alive : PSpec Try.prog 27 [] (fun _ => .d (.bool true)) none := by
  refine PSpec.of Try.func27 rfl rfl rfl (Nat.le_of_ble_eq_true rfl) ?_
  show AWp _ _ (endQ _ Try.f27 _ _ _) (startAS 161 _)
  repeat (first | refine AWp.seq ?_ | refine AWp.block ?_)
  apply AWp.reg [] []
  · conv => lhs; simp [runD, mkRc, dstOk, guardOk, opEff, opEff0, effOp, pureOp, callOp, zEff, evA, constAV, frGet, memGet, startAS, frOf, isGoCall, idIn, AS.after, nextR, opnIds, objIds, AV.ids, idsL, AObj.ids, frNo, memNo, opnAny, isAny, mkVal, rdCells, wrCells, fldAddr, idxAddr, srcRows, litRows, toD1, toDs, setAt, sliceAV, optI, partAV, bldAV, fillAV, binAV, binI, AV.cells, callEff, calleeOf, frKill, memKill, AV.kill, AObj.kill, AV.has, AV.hasL, Op.operands, Call.operands, tyF, keepF, keepM, viewIds, cChk, renOf, moGet, moWs, moQ, cEff, moLike, moHave, AV.ren, renL, AObj.ren, AObj.like, kept, startC, moMem, AV.frz, frz1, frzL, frSub, memSub, frzs, AS.frz, frFrz, memFrz, AObj.frz, takeMap, takeLen, bleF, Nat.ble_eq, memAny, objAny]
  · trivial
  repeat (first | refine AWp.seq ?_ | refine AWp.block ?_)
  apply AWp.reg [2] [.p (fun _ => .tuple [hpAV (H1 1), slAV ⟨2, 0⟩, .d (.int 0)]) none]
  · conv => lhs; simp [runD, mkRc, dstOk, guardOk, opEff, opEff0, effOp, pureOp, callOp, zEff, evA, constAV, frGet, memGet, startAS, frOf, isGoCall, idIn, AS.after, nextR, opnIds, objIds, AV.ids, idsL, AObj.ids, frNo, memNo, opnAny, isAny, mkVal, rdCells, wrCells, fldAddr, idxAddr, srcRows, litRows, toD1, toDs, setAt, sliceAV, optI, partAV, bldAV, fillAV, binAV, binI, AV.cells, callEff, calleeOf, frKill, memKill, AV.kill, AObj.kill, AV.has, AV.hasL, Op.operands, Call.operands, tyF, keepF, keepM, viewIds, cChk, renOf, moGet, moWs, moQ, cEff, moLike, moHave, AV.ren, renL, AObj.ren, AObj.like, kept, startC, moMem, AV.frz, frz1, frzL, frSub, memSub, frzs, AS.frz, frFrz, memFrz, AObj.frz, takeMap, takeLen, bleF, Nat.ble_eq, memAny, objAny, hpAV, slAV, slsAV, H1, Cll.row, Slt.row]
  · refine PSpec.nilArgs ?_
    exact m_make
  repeat (first | refine AWp.seq ?_ | refine AWp.block ?_)
  apply AWp.draw [] [.p (fun _ => slAV ⟨2, 0⟩) none] mixed
  · conv => lhs; simp [runD, mkRc, dstOk, guardOk, opEff, opEff0, effOp, pureOp, callOp, zEff, evA, constAV, frGet, memGet, startAS, frOf, isGoCall, idIn, AS.after, nextR, opnIds, objIds, AV.ids, idsL, AObj.ids, frNo, memNo, opnAny, isAny, mkVal, rdCells, wrCells, fldAddr, idxAddr, srcRows, litRows, toD1, toDs, setAt, sliceAV, optI, partAV, bldAV, fillAV, binAV, binI, AV.cells, callEff, calleeOf, frKill, memKill, AV.kill, AObj.kill, AV.has, AV.hasL, Op.operands, Call.operands, tyF, keepF, keepM, viewIds, cChk, renOf, moGet, moWs, moQ, cEff, moLike, moHave, AV.ren, renL, AObj.ren, AObj.like, kept, startC, moMem, AV.frz, frz1, frzL, frSub, memSub, frzs, AS.frz, frFrz, memFrz, AObj.frz, takeMap, takeLen, bleF, Nat.ble_eq, memAny, objAny, slAV]
  · rfl
  · exact ⟨sp_cell 0, pairEq_slot⟩
  repeat (first | refine AWp.seq ?_ | refine AWp.block ?_)
  refine AWp.cond rfl (fun h => ?_) (fun h => ?_)
  · cases h
  refine AWp.skip ?_
  repeat (first | refine AWp.seq ?_ | refine AWp.block ?_)
  apply AWp.reg [] [.p (fun _ => .tuple [hpAV (H1 2), .d (.int 0)]) none]
  · conv => lhs; simp [runD, mkRc, dstOk, guardOk, opEff, opEff0, effOp, pureOp, callOp, zEff, evA, constAV, frGet, memGet, startAS, frOf, isGoCall, idIn, AS.after, nextR, opnIds, objIds, AV.ids, idsL, AObj.ids, frNo, memNo, opnAny, isAny, mkVal, rdCells, wrCells, fldAddr, idxAddr, srcRows, litRows, toD1, toDs, setAt, sliceAV, optI, partAV, bldAV, fillAV, binAV, binI, AV.cells, callEff, calleeOf, frKill, memKill, AV.kill, AObj.kill, AV.has, AV.hasL, Op.operands, Call.operands, tyF, keepF, keepM, viewIds, cChk, renOf, moGet, moWs, moQ, cEff, moLike, moHave, AV.ren, renL, AObj.ren, AObj.like, kept, startC, moMem, AV.frz, frz1, frzL, frSub, memSub, frzs, AS.frz, frFrz, memFrz, AObj.frz, takeMap, takeLen, bleF, Nat.ble_eq, memAny, objAny, hpAV, slAV, slsAV, H1, Cll.row, Slt.row]
  · exact m_dup
  repeat (first | refine AWp.seq ?_ | refine AWp.block ?_)
  apply AWp.reg [] [.p (fun _ => .tuple [hpAV ⟨[⟨0, 0, []⟩], 1, 0, 0, 1⟩, .d (.int 0)]) none]
  · conv => lhs; simp [runD, mkRc, dstOk, guardOk, opEff, opEff0, effOp, pureOp, callOp, zEff, evA, constAV, frGet, memGet, startAS, frOf, isGoCall, idIn, AS.after, nextR, opnIds, objIds, AV.ids, idsL, AObj.ids, frNo, memNo, opnAny, isAny, mkVal, rdCells, wrCells, fldAddr, idxAddr, srcRows, litRows, toD1, toDs, setAt, sliceAV, optI, partAV, bldAV, fillAV, binAV, binI, AV.cells, callEff, calleeOf, frKill, memKill, AV.kill, AObj.kill, AV.has, AV.hasL, Op.operands, Call.operands, tyF, keepF, keepM, viewIds, cChk, renOf, moGet, moWs, moQ, cEff, moLike, moHave, AV.ren, renL, AObj.ren, AObj.like, kept, startC, moMem, AV.frz, frz1, frzL, frSub, memSub, frzs, AS.frz, frFrz, memFrz, AObj.frz, takeMap, takeLen, bleF, Nat.ble_eq, memAny, objAny, hpAV, slAV, slsAV, H1, Cll.row, Slt.row]
  · exact m_drop
  repeat (first | refine AWp.seq ?_ | refine AWp.block ?_)
  apply AWp.reg [] [.p (fun _ => .tuple [hpAV (H1 1), .d (.int 0)]) none]
  · conv => lhs; simp [runD, mkRc, dstOk, guardOk, opEff, opEff0, effOp, pureOp, callOp, zEff, evA, constAV, frGet, memGet, startAS, frOf, isGoCall, idIn, AS.after, nextR, opnIds, objIds, AV.ids, idsL, AObj.ids, frNo, memNo, opnAny, isAny, mkVal, rdCells, wrCells, fldAddr, idxAddr, srcRows, litRows, toD1, toDs, setAt, sliceAV, optI, partAV, bldAV, fillAV, binAV, binI, AV.cells, callEff, calleeOf, frKill, memKill, AV.kill, AObj.kill, AV.has, AV.hasL, Op.operands, Call.operands, tyF, keepF, keepM, viewIds, cChk, renOf, moGet, moWs, moQ, cEff, moLike, moHave, AV.ren, renL, AObj.ren, AObj.like, kept, startC, moMem, AV.frz, frz1, frzL, frSub, memSub, frzs, AS.frz, frFrz, memFrz, AObj.frz, takeMap, takeLen, bleF, Nat.ble_eq, memAny, objAny, hpAV, slAV, slsAV, H1, Cll.row, Slt.row]
  · exact m_take
  repeat (first | refine AWp.seq ?_ | refine AWp.block ?_)
  apply AWp.reg [] [.p (fun _ => .tuple [hpAV ⟨[⟨-1, 0, []⟩], 1, 0, 1, 1⟩, slAV ⟨2, 0⟩, .d (.int 0)]) none]
  · conv => lhs; simp [runD, mkRc, dstOk, guardOk, opEff, opEff0, effOp, pureOp, callOp, zEff, evA, constAV, frGet, memGet, startAS, frOf, isGoCall, idIn, AS.after, nextR, opnIds, objIds, AV.ids, idsL, AObj.ids, frNo, memNo, opnAny, isAny, mkVal, rdCells, wrCells, fldAddr, idxAddr, srcRows, litRows, toD1, toDs, setAt, sliceAV, optI, partAV, bldAV, fillAV, binAV, binI, AV.cells, callEff, calleeOf, frKill, memKill, AV.kill, AObj.kill, AV.has, AV.hasL, Op.operands, Call.operands, tyF, keepF, keepM, viewIds, cChk, renOf, moGet, moWs, moQ, cEff, moLike, moHave, AV.ren, renL, AObj.ren, AObj.like, kept, startC, moMem, AV.frz, frz1, frzL, frSub, memSub, frzs, AS.frz, frFrz, memFrz, AObj.frz, takeMap, takeLen, bleF, Nat.ble_eq, memAny, objAny, hpAV, slAV, slsAV, H1, Cll.row, Slt.row]
  · exact m_hold
  repeat (first | refine AWp.seq ?_ | refine AWp.block ?_)
  apply AWp.reg [] [.p (fun _ => .tuple [hpAV ⟨[⟨1, 4, []⟩], 1, 1, 1, 1⟩, slAV ⟨2, 0⟩, .d (.int 0)]) none]
  · conv => lhs; simp [runD, mkRc, dstOk, guardOk, opEff, opEff0, effOp, pureOp, callOp, zEff, evA, constAV, frGet, memGet, startAS, frOf, isGoCall, idIn, AS.after, nextR, opnIds, objIds, AV.ids, idsL, AObj.ids, frNo, memNo, opnAny, isAny, mkVal, rdCells, wrCells, fldAddr, idxAddr, srcRows, litRows, toD1, toDs, setAt, sliceAV, optI, partAV, bldAV, fillAV, binAV, binI, AV.cells, callEff, calleeOf, frKill, memKill, AV.kill, AObj.kill, AV.has, AV.hasL, Op.operands, Call.operands, tyF, keepF, keepM, viewIds, cChk, renOf, moGet, moWs, moQ, cEff, moLike, moHave, AV.ren, renL, AObj.ren, AObj.like, kept, startC, moMem, AV.frz, frz1, frzL, frSub, memSub, frzs, AS.frz, frFrz, memFrz, AObj.frz, takeMap, takeLen, bleF, Nat.ble_eq, memAny, objAny, hpAV, slAV, slsAV, H1, Cll.row, Slt.row]
  · exact PSpec.nilArgs m_use
  repeat (first | refine AWp.seq ?_ | refine AWp.block ?_)
  apply AWp.reg [] [.p (fun _ => .tuple [hpAV ⟨[⟨0, 0, []⟩], 1, 0, 0, 1⟩, .d (.int 0)]) none]
  · conv => lhs; simp [runD, mkRc, dstOk, guardOk, opEff, opEff0, effOp, pureOp, callOp, zEff, evA, constAV, frGet, memGet, startAS, frOf, isGoCall, idIn, AS.after, nextR, opnIds, objIds, AV.ids, idsL, AObj.ids, frNo, memNo, opnAny, isAny, mkVal, rdCells, wrCells, fldAddr, idxAddr, srcRows, litRows, toD1, toDs, setAt, sliceAV, optI, partAV, bldAV, fillAV, binAV, binI, AV.cells, callEff, calleeOf, frKill, memKill, AV.kill, AObj.kill, AV.has, AV.hasL, Op.operands, Call.operands, tyF, keepF, keepM, viewIds, cChk, renOf, moGet, moWs, moQ, cEff, moLike, moHave, AV.ren, renL, AObj.ren, AObj.like, kept, startC, moMem, AV.frz, frz1, frzL, frSub, memSub, frzs, AS.frz, frFrz, memFrz, AObj.frz, takeMap, takeLen, bleF, Nat.ble_eq, memAny, objAny, hpAV, slAV, slsAV, H1, Cll.row, Slt.row]
  · exact m_free
  repeat (first | refine AWp.seq ?_ | refine AWp.block ?_)
  apply AWp.reg [] [.p (fun _ => .tuple [.d (.int 3), slsAV [⟨0, 7⟩], .d (.int 0)]) none]
  · conv => lhs; simp [runD, mkRc, dstOk, guardOk, opEff, opEff0, effOp, pureOp, callOp, zEff, evA, constAV, frGet, memGet, startAS, frOf, isGoCall, idIn, AS.after, nextR, opnIds, objIds, AV.ids, idsL, AObj.ids, frNo, memNo, opnAny, isAny, mkVal, rdCells, wrCells, fldAddr, idxAddr, srcRows, litRows, toD1, toDs, setAt, sliceAV, optI, partAV, bldAV, fillAV, binAV, binI, AV.cells, callEff, calleeOf, frKill, memKill, AV.kill, AObj.kill, AV.has, AV.hasL, Op.operands, Call.operands, tyF, keepF, keepM, viewIds, cChk, renOf, moGet, moWs, moQ, cEff, moLike, moHave, AV.ren, renL, AObj.ren, AObj.like, kept, startC, moMem, AV.frz, frz1, frzL, frSub, memSub, frzs, AS.frz, frFrz, memFrz, AObj.frz, takeMap, takeLen, bleF, Nat.ble_eq, memAny, objAny, hpAV, slAV, slsAV, H1, Cll.row, Slt.row]
  · exact m_get
  refine AWp.le (Le.keep _ [5, 7, 9, 12, 15, 17, 20, 4, 6, 8, 13, 14, 2, 16, 18, 19, 1] [4, 6, 8, 13, 14, 2, 16, 1]) ?_
  repeat (first | refine AWp.seq ?_ | refine AWp.block ?_)
  repeat (first | refine AWp.seq ?_ | refine AWp.block ?_)
  apply AWp.reg [] [.p (fun d => .agg [.arr d 0 1, .d (.int 1), .d (.int 0), .d (.int 1), .d (.int 1)]) (some (.arr 51 3 ((H1 1).cells.map Cll.row)))]
  · conv => lhs; simp [runD, mkRc, dstOk, guardOk, opEff, opEff0, effOp, pureOp, callOp, zEff, evA, constAV, frGet, memGet, startAS, frOf, isGoCall, idIn, AS.after, nextR, opnIds, objIds, AV.ids, idsL, AObj.ids, frNo, memNo, opnAny, isAny, mkVal, rdCells, wrCells, fldAddr, idxAddr, srcRows, litRows, toD1, toDs, setAt, sliceAV, optI, partAV, bldAV, fillAV, binAV, binI, AV.cells, callEff, calleeOf, frKill, memKill, AV.kill, AObj.kill, AV.has, AV.hasL, Op.operands, Call.operands, tyF, keepF, keepM, viewIds, cChk, renOf, moGet, moWs, moQ, cEff, moLike, moHave, AV.ren, renL, AObj.ren, AObj.like, kept, startC, moMem, AV.frz, frz1, frzL, frSub, memSub, frzs, AS.frz, frFrz, memFrz, AObj.frz, takeMap, takeLen, bleF, Nat.ble_eq, memAny, objAny, hpAV, slAV, slsAV, H1, Cll.row, Slt.row]
  · exact ⟨pairEq_slot, m_own⟩
  refine AWp.ret ?_
  try dsimp only [thenQ, blockQ]
  apply endQ.ret
  · rfl
  · conv => lhs; simp [runD, mkRc, dstOk, guardOk, opEff, opEff0, effOp, pureOp, callOp, zEff, evA, constAV, frGet, memGet, startAS, frOf, isGoCall, idIn, AS.after, nextR, opnIds, objIds, AV.ids, idsL, AObj.ids, frNo, memNo, opnAny, isAny, mkVal, rdCells, wrCells, fldAddr, idxAddr, srcRows, litRows, toD1, toDs, setAt, sliceAV, optI, partAV, bldAV, fillAV, binAV, binI, AV.cells, callEff, calleeOf, frKill, memKill, AV.kill, AObj.kill, AV.has, AV.hasL, Op.operands, Call.operands, tyF, keepF, keepM, viewIds, cChk, renOf, moGet, moWs, moQ, cEff, moLike, moHave, AV.ren, renL, AObj.ren, AObj.like, kept, startC, moMem, AV.frz, frz1, frzL, frSub, memSub, frzs, AS.frz, frFrz, memFrz, AObj.frz, takeMap, takeLen, bleF, Nat.ble_eq, memAny, objAny, resAV, Try.results27]
  rfl
end Go.Proofs.Ytcakhebnebcpcaa
