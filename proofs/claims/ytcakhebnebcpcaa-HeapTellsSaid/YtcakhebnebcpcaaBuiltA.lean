/- The heaps that the acts build: what the functions of a heap give, in the abstract machine's words; one of the roots. -/
import Derived.Test.YtcakhebnebcpcaaHeapW
import Derived.Test.YtcakhebnebcpcaaHeapY
import Derived.Test.YtcakhebnebcpcaaEng2
namespace Go.Proofs.Ytcakhebnebcpcaa
open Go.RowKit
set_option linter.unusedVariables false
set_option linter.unusedSimpArgs false
set_option maxHeartbeats 1000000

theorem sp_heapOwn (h : Hp) (hlen : h.cells.length ≤ 1000000) (hs : ∀ x ∈ h.cells, x.slots.length ≤ 8796093022208) :
    PSpec Try.prog 10 [hpAV h] (fun d => .agg [.arr d 0 h.cells.length, .d (.int h.made), .d (.int h.used), .d (.int h.live), .d (.int h.peak)]) (some (.arr 51 3 (h.cells.map Cll.row))) := by
  refine ⟨⟨_, Try.func10, rfl, rfl⟩, fun d => by simp [AV.has, AV.hasL], (fun h => by cases h), fun y hy => ⟨_, _, _, (by cases hy; rfl)⟩, fun d w ok vals hok hl hv => ?_⟩
  obtain ⟨v, rfl, h1⟩ := args1 hl hv
  obtain ⟨a, n, c, rfl, hR, r1, r2, r3, r4⟩ := h1.hp
  have hn := hR.len_inv.1
  rw [List.length_map] at hn
  refine (heap_Own' h.cells h.made h.used h.live h.peak ok a n c w hn (by omega) hs hok hR).mono ?_
  rintro e w' ⟨a', c', rfl, hA, hb⟩
  have hown := hA.own
  obtain ⟨k1, k2⟩ := hA.toOR (ok' := fun b => okU ok w.heap.size w' b ∧ (Value.slice a' n c').ownBlock ≠ some b) (by omega) (fun b h1 h2 => ⟨h1, h2⟩) d (oneM d (some (.arr 51 3 (h.cells.map Cll.row))))
  rw [List.length_map] at k2
  have kok : ∀ b, ok b → okU ok w.heap.size w' b ∧ (Value.slice a' n c').ownBlock ≠ some b := fun b hb => ⟨.inl hb, fun e => by
    have := (hown b e).1
    have := hok b hb
    omega⟩
  refine ⟨_, fun b => okU ok w.heap.size w' b ∧ (Value.slice a' n c').ownBlock ≠ some b, ⟨fun _ => (Value.slice a' n c').ownBlock, fun _ => capOf (Value.slice a' n c')⟩, rfl, hb, kok, fun b hb => hb.1, VR.ofAgg5 k2 (VR.ofInt r1) (VR.ofInt r2) (VR.ofInt r3) (VR.ofInt r4) rfl, fun y hy => ?_⟩
  · cases hy
    refine ⟨k1, fun b hb => ⟨fun h => h.2 hb, (hown b hb).1, (hown b hb).2⟩⟩

theorem sp_heapGet (h : Hp) (s : Slt) (hsl : ∀ x ∈ h.cells, x.slots.length ≤ 8796093022208) (ht : ∀ x ∈ h.cells, inI x.tag) : PSpec Try.prog 11 [hpAV h, slAV s] (fun _ => .tuple [.d (.int (h.get s).1), slsAV (h.get s).2.1, .d (.int (h.get s).2.2)]) none :=
  sp_get _ ⟨_, Try.func11, rfl, rfl⟩ s ht fun w ok a n c hok hR => heap_Get h s ok a n c w hsl hok hR
theorem sp_refGet (h : Hp) (s : Slt) (ht : ∀ x ∈ h.cells, inI x.tag) : PSpec Try.prog 12 [hpAV h, slAV s] (fun _ => .tuple [.d (.int (h.get s).1), slsAV (h.get s).2.1, .d (.int (h.get s).2.2)]) none :=
  sp_get _ ⟨_, Try.func12, rfl, rfl⟩ s ht fun w ok a n c hok hR => ref_Get h s ok a n c w hok hR

theorem sp_cell (n : Int) : PSpec Try.prog 41 [.d (.int n)] (fun _ => slAV ⟨2, n⟩) none := by
  refine PSpec.of Try.func41 rfl rfl rfl (Nat.le_of_ble_eq_true rfl) ?_
  show AWp _ _ (endQ _ Try.f41 _ _ _) (startAS 5 _)
  repeat (first | refine AWp.seq ?_ | refine AWp.block ?_)
  apply AWp.reg [] []
  · conv => lhs; simp [runD, mkRc, dstOk, guardOk, opEff, opEff0, effOp, pureOp, callOp, zEff, evA, constAV, frGet, memGet, startAS, frOf, isGoCall, idIn, AS.after, nextR, opnIds, objIds, AV.ids, idsL, AObj.ids, frNo, memNo, opnAny, isAny, mkVal, rdCells, wrCells, fldAddr, idxAddr, srcRows, litRows, toD1, toDs, setAt, sliceAV, optI, partAV, bldAV, fillAV, binAV, binI, AV.cells, callEff, calleeOf, frKill, memKill, AV.kill, AObj.kill, AV.has, AV.hasL, Op.operands, Call.operands, tyF, keepF, keepM, viewIds, cChk, renOf, moGet, moWs, moQ, cEff, moLike, moHave, AV.ren, renL, AObj.ren, AObj.like, kept, startC, moMem, AV.frz, frz1, frzL, frSub, memSub, frzs, AS.frz, frFrz, memFrz, AObj.frz, takeMap, takeLen, bleF, Nat.ble_eq, memAny, objAny]
  · trivial
  repeat (first | refine AWp.seq ?_ | refine AWp.block ?_)
  apply AWp.reg [] []
  · conv => lhs; simp [runD, mkRc, dstOk, guardOk, opEff, opEff0, effOp, pureOp, callOp, zEff, evA, constAV, frGet, memGet, startAS, frOf, isGoCall, idIn, AS.after, nextR, opnIds, objIds, AV.ids, idsL, AObj.ids, frNo, memNo, opnAny, isAny, mkVal, rdCells, wrCells, fldAddr, idxAddr, srcRows, litRows, toD1, toDs, setAt, sliceAV, optI, partAV, bldAV, fillAV, binAV, binI, AV.cells, callEff, calleeOf, frKill, memKill, AV.kill, AObj.kill, AV.has, AV.hasL, Op.operands, Call.operands, tyF, keepF, keepM, viewIds, cChk, renOf, moGet, moWs, moQ, cEff, moLike, moHave, AV.ren, renL, AObj.ren, AObj.like, kept, startC, moMem, AV.frz, frz1, frzL, frSub, memSub, frzs, AS.frz, frFrz, memFrz, AObj.frz, takeMap, takeLen, bleF, Nat.ble_eq, memAny, objAny]
  · trivial
  refine AWp.ret ?_
  try dsimp only [thenQ, blockQ]
  apply endQ.ret
  · rfl
  · conv => lhs; simp [runD, mkRc, dstOk, guardOk, opEff, opEff0, effOp, pureOp, callOp, zEff, evA, constAV, frGet, memGet, startAS, frOf, isGoCall, idIn, AS.after, nextR, opnIds, objIds, AV.ids, idsL, AObj.ids, frNo, memNo, opnAny, isAny, mkVal, rdCells, wrCells, fldAddr, idxAddr, srcRows, litRows, toD1, toDs, setAt, sliceAV, optI, partAV, bldAV, fillAV, binAV, binI, AV.cells, callEff, calleeOf, frKill, memKill, AV.kill, AObj.kill, AV.has, AV.hasL, Op.operands, Call.operands, tyF, keepF, keepM, viewIds, cChk, renOf, moGet, moWs, moQ, cEff, moLike, moHave, AV.ren, renL, AObj.ren, AObj.like, kept, startC, moMem, AV.frz, frz1, frzL, frSub, memSub, frzs, AS.frz, frFrz, memFrz, AObj.frz, takeMap, takeLen, bleF, Nat.ble_eq, memAny, objAny, resAV, Try.results41]
  rfl

/-- One of the roots, by a number. -/
def pickS (r : List Slt) (k : Nat) : Slt := if r = [] then ⟨0, k⟩ else (r[k % r.length]?).getD ⟨0, 0⟩

theorem cs_pick (r : List Slt) (k : Nat) (hk : k ≤ 1000000) : CSpec Try.prog 29 [.d (.int k), .ptr 1000 0] [(1000, .blk 25 [.arr 1001 0 r.length]), (1001, .arr 24 2 (r.map Slt.row))] (slAV (pickS r k)) [(1000, .blk 25 [.arr 1001 0 r.length]), (1001, .arr 24 2 (r.map Slt.row))] := by
  refine CSpec.of Try.func29 rfl rfl (Nat.le_of_ble_eq_true rfl) ?_
  show AWp _ _ (endC _ Try.f29 _ _) (startC 16 _ _)
  repeat (first | refine AWp.seq ?_ | refine AWp.block ?_)
  apply AWp.reg [] []
  · conv => lhs; simp [runD, mkRc, dstOk, guardOk, opEff, opEff0, effOp, pureOp, callOp, zEff, evA, constAV, frGet, memGet, startAS, frOf, isGoCall, idIn, AS.after, nextR, opnIds, objIds, AV.ids, idsL, AObj.ids, frNo, memNo, opnAny, isAny, mkVal, rdCells, wrCells, fldAddr, idxAddr, srcRows, litRows, toD1, toDs, setAt, sliceAV, optI, partAV, bldAV, fillAV, binAV, binI, AV.cells, callEff, calleeOf, frKill, memKill, AV.kill, AObj.kill, AV.has, AV.hasL, Op.operands, Call.operands, tyF, keepF, keepM, viewIds, cChk, renOf, moGet, moWs, moQ, cEff, moLike, moHave, AV.ren, renL, AObj.ren, AObj.like, kept, startC, moMem, AV.frz, frz1, frzL, frSub, memSub, frzs, AS.frz, frFrz, memFrz, AObj.frz, takeMap, takeLen, bleF, Nat.ble_eq, memAny, objAny]
  · trivial
  repeat (first | refine AWp.seq ?_ | refine AWp.block ?_)
  apply AWp.reg [] []
  · conv => lhs; simp [runD, mkRc, dstOk, guardOk, opEff, opEff0, effOp, pureOp, callOp, zEff, evA, constAV, frGet, memGet, startAS, frOf, isGoCall, idIn, AS.after, nextR, opnIds, objIds, AV.ids, idsL, AObj.ids, frNo, memNo, opnAny, isAny, mkVal, rdCells, wrCells, fldAddr, idxAddr, srcRows, litRows, toD1, toDs, setAt, sliceAV, optI, partAV, bldAV, fillAV, binAV, binI, AV.cells, callEff, calleeOf, frKill, memKill, AV.kill, AObj.kill, AV.has, AV.hasL, Op.operands, Call.operands, tyF, keepF, keepM, viewIds, cChk, renOf, moGet, moWs, moQ, cEff, moLike, moHave, AV.ren, renL, AObj.ren, AObj.like, kept, startC, moMem, AV.frz, frz1, frzL, frSub, memSub, frzs, AS.frz, frFrz, memFrz, AObj.frz, takeMap, takeLen, bleF, Nat.ble_eq, memAny, objAny]
  · trivial
  repeat (first | refine AWp.seq ?_ | refine AWp.block ?_)
  refine AWp.cond rfl (fun h => ?_) (fun h => ?_)
  · have hr : r = [] := List.eq_nil_of_length_eq_zero (by simpa using h)
    repeat (first | refine AWp.seq ?_ | refine AWp.block ?_)
    apply AWp.reg [] []
    · conv => lhs; simp [runD, mkRc, dstOk, guardOk, opEff, opEff0, effOp, pureOp, callOp, zEff, evA, constAV, frGet, memGet, startAS, frOf, isGoCall, idIn, AS.after, nextR, opnIds, objIds, AV.ids, idsL, AObj.ids, frNo, memNo, opnAny, isAny, mkVal, rdCells, wrCells, fldAddr, idxAddr, srcRows, litRows, toD1, toDs, setAt, sliceAV, optI, partAV, bldAV, fillAV, binAV, binI, AV.cells, callEff, calleeOf, frKill, memKill, AV.kill, AObj.kill, AV.has, AV.hasL, Op.operands, Call.operands, tyF, keepF, keepM, viewIds, cChk, renOf, moGet, moWs, moQ, cEff, moLike, moHave, AV.ren, renL, AObj.ren, AObj.like, kept, startC, moMem, AV.frz, frz1, frzL, frSub, memSub, frzs, AS.frz, frFrz, memFrz, AObj.frz, takeMap, takeLen, bleF, Nat.ble_eq, memAny, objAny]
    · trivial
    refine AWp.ret ?_
    try dsimp only [thenQ, blockQ]
    apply endC.ret
    · rfl
    · conv => lhs; simp [runD, mkRc, dstOk, guardOk, opEff, opEff0, effOp, pureOp, callOp, zEff, evA, constAV, frGet, memGet, startAS, frOf, isGoCall, idIn, AS.after, nextR, opnIds, objIds, AV.ids, idsL, AObj.ids, frNo, memNo, opnAny, isAny, mkVal, rdCells, wrCells, fldAddr, idxAddr, srcRows, litRows, toD1, toDs, setAt, sliceAV, optI, partAV, bldAV, fillAV, binAV, binI, AV.cells, callEff, calleeOf, frKill, memKill, AV.kill, AObj.kill, AV.has, AV.hasL, Op.operands, Call.operands, tyF, keepF, keepM, viewIds, cChk, renOf, moGet, moWs, moQ, cEff, moLike, moHave, AV.ren, renL, AObj.ren, AObj.like, kept, startC, moMem, AV.frz, frz1, frzL, frSub, memSub, frzs, AS.frz, frFrz, memFrz, AObj.frz, takeMap, takeLen, bleF, Nat.ble_eq, memAny, objAny, resAV, Try.results29]
    · subst hr; rfl
    · simp [moEnd, memGet]
  have hr : r.length ≠ 0 := by simpa using h
  refine AWp.skip ?_
  have hm : k % r.length < r.length := Nat.mod_lt _ (by omega)
  have hmt : Int.tmod (k : Int) (r.length : Int) = ((k % r.length : Nat) : Int) := rfl
  have hpk : pickS r k = (r[k % r.length]?).getD ⟨0, 0⟩ := if_neg (fun h => hr (by rw [h]; rfl))
  have hqk : k % r.length ≤ k := Nat.mod_le ..
  generalize k % r.length = q at hm hmt hpk hqk
  have hx : r[q]? = some r[q] := List.getElem?_eq_getElem hm
  generalize hy : r[q] = y at hx
  repeat (first | refine AWp.seq ?_ | refine AWp.block ?_)
  apply AWp.draw [] [] mixed
  · conv => lhs; simp [runD, mkRc, dstOk, guardOk, opEff, opEff0, effOp, pureOp, callOp, zEff, evA, constAV, frGet, memGet, startAS, frOf, isGoCall, idIn, AS.after, nextR, opnIds, objIds, AV.ids, idsL, AObj.ids, frNo, memNo, opnAny, isAny, mkVal, rdCells, wrCells, fldAddr, idxAddr, srcRows, litRows, toD1, toDs, setAt, sliceAV, optI, partAV, bldAV, fillAV, binAV, binI, AV.cells, callEff, calleeOf, frKill, memKill, AV.kill, AObj.kill, AV.has, AV.hasL, Op.operands, Call.operands, tyF, keepF, keepM, viewIds, cChk, renOf, moGet, moWs, moQ, cEff, moLike, moHave, AV.ren, renL, AObj.ren, AObj.like, kept, startC, moMem, AV.frz, frz1, frzL, frSub, memSub, frzs, AS.frz, frFrz, memFrz, AObj.frz, takeMap, takeLen, bleF, Nat.ble_eq, memAny, objAny, hmt, hx, hr, Slt.row]
  · rfl
  · simp [inI]; omega
  refine AWp.ret ?_
  try dsimp only [thenQ, blockQ]
  apply endC.ret
  · rfl
  · conv => lhs; simp [runD, mkRc, dstOk, guardOk, opEff, opEff0, effOp, pureOp, callOp, zEff, evA, constAV, frGet, memGet, startAS, frOf, isGoCall, idIn, AS.after, nextR, opnIds, objIds, AV.ids, idsL, AObj.ids, frNo, memNo, opnAny, isAny, mkVal, rdCells, wrCells, fldAddr, idxAddr, srcRows, litRows, toD1, toDs, setAt, sliceAV, optI, partAV, bldAV, fillAV, binAV, binI, AV.cells, callEff, calleeOf, frKill, memKill, AV.kill, AObj.kill, AV.has, AV.hasL, Op.operands, Call.operands, tyF, keepF, keepM, viewIds, cChk, renOf, moGet, moWs, moQ, cEff, moLike, moHave, AV.ren, renL, AObj.ren, AObj.like, kept, startC, moMem, AV.frz, frz1, frzL, frSub, memSub, frzs, AS.frz, frFrz, memFrz, AObj.frz, takeMap, takeLen, bleF, Nat.ble_eq, memAny, objAny, resAV, Try.results29]
  · rw [hpk, hx]; rfl
  · simp [moEnd, memGet]
end Go.Proofs.Ytcakhebnebcpcaa
