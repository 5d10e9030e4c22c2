/- xcref10.Right, by the abstract machine: of a heap whose counts are right it is true. -/
import Derived.Test.YtcakhebnebcpcaaRightC
namespace Go.Proofs.Ytcakhebnebcpcaa
open Go.RowKit
set_option linter.unusedVariables false
set_option linter.unusedSimpArgs false

/-- How often each cell was met. -/
def cntRows (L : Nat) (l : List Slt) : List (List D) := (List.range L).map fun i => [.int (cnt l i : Nat)]
theorem cntRows_len (L : Nat) (l : List Slt) : (cntRows L l).length = L := by simp [cntRows]
theorem cntRows_get {L : Nat} {l : List Slt} {i : Nat} (hi : i < L) : (cntRows L l)[i]? = some [.int (cnt l i : Nat)] := by
  simp [cntRows, hi]
theorem cntRows_not {L : Nat} {l : List Slt} {s : Slt} (hk : s.kind ≠ 2) : cntRows L (l ++ [s]) = cntRows L l := by
  unfold cntRows
  refine List.map_congr_left fun i _ => ?_
  rw [cnt_append, cnt_not hk]; rfl
theorem cntRows_set {L : Nat} {l : List Slt} {s : Slt} {i : Nat} (hk : s.kind = 2) (hn : s.n = (i : Int)) (hi : i < L) : (cntRows L l).set i [.int ((cnt l i : Nat) + 1 : Int)] = cntRows L (l ++ [s]) := by
  apply List.ext_getElem?
  intro j
  by_cases hj : j < L
  · rw [cntRows_get hj, List.getElem?_set]
    by_cases e : i = j
    · subst e
      rw [if_pos rfl, if_pos (by rw [cntRows_len]; exact hj), cnt_append, cnt_here hk hn]; rfl
    · rw [if_neg e, cntRows_get hj, cnt_append, cnt_there (by omega)]; rfl
  · rw [List.getElem?_eq_none (by rw [List.length_set, cntRows_len]; omega), List.getElem?_eq_none (by rw [cntRows_len]; omega)]
theorem cntRows_nil (L : Nat) : cntRows L [] = List.replicate L [.int 0] := by
  apply List.ext_getElem?
  intro j
  by_cases hj : j < L
  · rw [cntRows_get hj, List.getElem?_replicate, if_pos hj]; rfl
  · rw [List.getElem?_eq_none (by rw [cntRows_len]; omega), List.getElem?_eq_none (by simpa using hj)]

abbrev hpBlk (h : Hp) : AObj := .blk 28 [.d (.sl (h.cells.map Cll.row)), .d (.int h.made), .d (.int h.used), .d (.int h.live), .d (.int h.peak)]

set_option maxHeartbeats 4000000 in
theorem cs_put (h : Hp) (s : Slt) (l : List Slt) (L : Nat) (hL : h.cells.length = L) (hl : l.length ≤ 1000000) (hc : ∀ c ∈ h.cells, c.count ≤ 1000000) (ht : s.kind = 2 → h.there s = true) : CSpec Try.prog 42 [slAV s, .ptr 1000 0, .ptr 1001 0]
    [(1000, hpBlk h), (1001, .blk 22 [.arr 1002 0 L]), (1002, .arr 3 1 (cntRows L l))] (.d (.bool true)) [(1000, hpBlk h), (1001, .blk 22 [.arr 1002 0 L]), (1002, .arr 3 1 (cntRows L (l ++ [s])))] := by
  obtain ⟨sk, sn⟩ := s
  refine CSpec.of Try.func42 rfl rfl (Nat.le_of_ble_eq_true rfl) ?_
  show AWp _ _ (endC _ Try.f42 _ _) (startC 19 _ _)
  repeat (first | refine AWp.seq ?_ | refine AWp.block ?_)
  apply AWp.reg [] []
  · conv => lhs; simp [runD, mkRc, dstOk, guardOk, opEff, opEff0, effOp, pureOp, callOp, zEff, evA, constAV, frGet, memGet, startAS, frOf, isGoCall, idIn, AS.after, nextR, opnIds, objIds, AV.ids, idsL, AObj.ids, frNo, memNo, opnAny, isAny, mkVal, rdCells, wrCells, fldAddr, idxAddr, srcRows, litRows, toD1, toDs, setAt, sliceAV, optI, partAV, bldAV, fillAV, binAV, binI, AV.cells, callEff, calleeOf, frKill, memKill, AV.kill, AObj.kill, AV.has, AV.hasL, Op.operands, Call.operands, tyF, keepF, keepM, viewIds, cChk, renOf, moGet, moWs, moQ, cEff, moLike, moHave, AV.ren, renL, AObj.ren, AObj.like, kept, startC, moMem, AV.frz, frz1, frzL, frSub, memSub, frzs, AS.frz, frFrz, memFrz, AObj.frz, takeMap, takeLen, bleF, Nat.ble_eq, memAny, objAny]
  · trivial
  repeat (first | refine AWp.seq ?_ | refine AWp.block ?_)
  apply AWp.reg [] []
  · conv => lhs; simp [runD, mkRc, dstOk, guardOk, opEff, opEff0, effOp, pureOp, callOp, zEff, evA, constAV, frGet, memGet, startAS, frOf, isGoCall, idIn, AS.after, nextR, opnIds, objIds, AV.ids, idsL, AObj.ids, frNo, memNo, opnAny, isAny, mkVal, rdCells, wrCells, fldAddr, idxAddr, srcRows, litRows, toD1, toDs, setAt, sliceAV, optI, partAV, bldAV, fillAV, binAV, binI, AV.cells, callEff, calleeOf, frKill, memKill, AV.kill, AObj.kill, AV.has, AV.hasL, Op.operands, Call.operands, tyF, keepF, keepM, viewIds, cChk, renOf, moGet, moWs, moQ, cEff, moLike, moHave, AV.ren, renL, AObj.ren, AObj.like, kept, startC, moMem, AV.frz, frz1, frzL, frSub, memSub, frzs, AS.frz, frFrz, memFrz, AObj.frz, takeMap, takeLen, bleF, Nat.ble_eq, memAny, objAny]
  · trivial
  repeat (first | refine AWp.seq ?_ | refine AWp.block ?_)
  refine AWp.cond rfl (fun hq => ?_) (fun hq => ?_)
  · have hk : sk = 2 := by simpa using hq
    subst hk
    have hth := ht rfl
    obtain ⟨_, a, x, b, hat, hcl, hal, hxc⟩ := RightP.split hth
    dsimp only at hal hat
    obtain ⟨i, rfl⟩ : ∃ i : Nat, sn = i := ⟨sn.toNat, by omega⟩
    have hiL : i < L := by rw [← hL, hcl]; simp; omega
    repeat (first | refine AWp.seq ?_ | refine AWp.block ?_)
    apply AWp.reg [] [.p (fun _ => .d (.bool true)) none]
    · conv => lhs; simp [runD, mkRc, dstOk, guardOk, opEff, opEff0, effOp, pureOp, callOp, zEff, evA, constAV, frGet, memGet, startAS, frOf, isGoCall, idIn, AS.after, nextR, opnIds, objIds, AV.ids, idsL, AObj.ids, frNo, memNo, opnAny, isAny, mkVal, rdCells, wrCells, fldAddr, idxAddr, srcRows, litRows, toD1, toDs, setAt, sliceAV, optI, partAV, bldAV, fillAV, binAV, binI, AV.cells, callEff, calleeOf, frKill, memKill, AV.kill, AObj.kill, AV.has, AV.hasL, Op.operands, Call.operands, tyF, keepF, keepM, viewIds, cChk, renOf, moGet, moWs, moQ, cEff, moLike, moHave, AV.ren, renL, AObj.ren, AObj.like, kept, startC, moMem, AV.frz, frz1, frzL, frSub, memSub, frzs, AS.frz, frFrz, memFrz, AObj.frz, takeMap, takeLen, bleF, Nat.ble_eq, memAny, objAny]
    · have := sp_There h ⟨2, i⟩
      rw [hth] at this
      exact this
    repeat (first | refine AWp.seq ?_ | refine AWp.block ?_)
    refine AWp.cond rfl (fun h2 => ?_) (fun h2 => ?_)
    · cases h2
    refine AWp.skip ?_
    have hg := cntRows_get (l := l) hiL
    have hle := cnt_le l i
    have hset := cntRows_set (L := L) (l := l) (s := ⟨2, i⟩) (i := i) rfl rfl hiL
    generalize cntRows L (l ++ [⟨2, i⟩]) = rows' at hset ⊢
    have hlen := cntRows_len L l
    generalize cntRows L l = rows at hset hg hlen ⊢
    generalize cnt l i = n at hle hset hg
    subst hlen
    repeat (first | refine AWp.seq ?_ | refine AWp.block ?_)
    apply AWp.reg [] []
    · conv => lhs; simp [runD, mkRc, dstOk, guardOk, opEff, opEff0, effOp, pureOp, callOp, zEff, evA, constAV, frGet, memGet, startAS, frOf, isGoCall, idIn, AS.after, nextR, opnIds, objIds, AV.ids, idsL, AObj.ids, frNo, memNo, opnAny, isAny, mkVal, rdCells, wrCells, fldAddr, idxAddr, srcRows, litRows, toD1, toDs, setAt, sliceAV, optI, partAV, bldAV, fillAV, binAV, binI, AV.cells, callEff, calleeOf, frKill, memKill, AV.kill, AObj.kill, AV.has, AV.hasL, Op.operands, Call.operands, tyF, keepF, keepM, viewIds, cChk, renOf, moGet, moWs, moQ, cEff, moLike, moHave, AV.ren, renL, AObj.ren, AObj.like, kept, startC, moMem, AV.frz, frz1, frzL, frSub, memSub, frzs, AS.frz, frFrz, memFrz, AObj.frz, takeMap, takeLen, bleF, Nat.ble_eq, memAny, objAny, hg]
    · first | trivial | (simp [inI, maxLen]; done) | (simp [inI, maxLen]; omega)
    repeat (first | refine AWp.seq ?_ | refine AWp.block ?_)
    apply AWp.reg [] []
    · conv => lhs; simp [runD, mkRc, dstOk, guardOk, opEff, opEff0, effOp, pureOp, callOp, zEff, evA, constAV, frGet, memGet, startAS, frOf, isGoCall, idIn, AS.after, nextR, opnIds, objIds, AV.ids, idsL, AObj.ids, frNo, memNo, opnAny, isAny, mkVal, rdCells, wrCells, fldAddr, idxAddr, srcRows, litRows, toD1, toDs, setAt, sliceAV, optI, partAV, bldAV, fillAV, binAV, binI, AV.cells, callEff, calleeOf, frKill, memKill, AV.kill, AObj.kill, AV.has, AV.hasL, Op.operands, Call.operands, tyF, keepF, keepM, viewIds, cChk, renOf, moGet, moWs, moQ, cEff, moLike, moHave, AV.ren, renL, AObj.ren, AObj.like, kept, startC, moMem, AV.frz, frz1, frzL, frSub, memSub, frzs, AS.frz, frFrz, memFrz, AObj.frz, takeMap, takeLen, bleF, Nat.ble_eq, memAny, objAny]
    · trivial
    refine AWp.ret ?_
    try dsimp only [thenQ, blockQ]
    apply endC.ret
    · rfl
    · conv => lhs; simp [runD, mkRc, dstOk, guardOk, opEff, opEff0, effOp, pureOp, callOp, zEff, evA, constAV, frGet, memGet, startAS, frOf, isGoCall, idIn, AS.after, nextR, opnIds, objIds, AV.ids, idsL, AObj.ids, frNo, memNo, opnAny, isAny, mkVal, rdCells, wrCells, fldAddr, idxAddr, srcRows, litRows, toD1, toDs, setAt, sliceAV, optI, partAV, bldAV, fillAV, binAV, binI, AV.cells, callEff, calleeOf, frKill, memKill, AV.kill, AObj.kill, AV.has, AV.hasL, Op.operands, Call.operands, tyF, keepF, keepM, viewIds, cChk, renOf, moGet, moWs, moQ, cEff, moLike, moHave, AV.ren, renL, AObj.ren, AObj.like, kept, startC, moMem, AV.frz, frz1, frzL, frSub, memSub, frzs, AS.frz, frFrz, memFrz, AObj.frz, takeMap, takeLen, bleF, Nat.ble_eq, memAny, objAny, resAV, Try.results42]
    · rfl
    · simp [moEnd, memGet]
      first | exact hset | (simp [hset]; done) | skip
  · have hk : sk ≠ 2 := by simpa using hq
    rw [cntRows_not (s := ⟨sk, sn⟩) hk]
    refine AWp.skip ?_
    repeat (first | refine AWp.seq ?_ | refine AWp.block ?_)
    apply AWp.reg [] []
    · conv => lhs; simp [runD, mkRc, dstOk, guardOk, opEff, opEff0, effOp, pureOp, callOp, zEff, evA, constAV, frGet, memGet, startAS, frOf, isGoCall, idIn, AS.after, nextR, opnIds, objIds, AV.ids, idsL, AObj.ids, frNo, memNo, opnAny, isAny, mkVal, rdCells, wrCells, fldAddr, idxAddr, srcRows, litRows, toD1, toDs, setAt, sliceAV, optI, partAV, bldAV, fillAV, binAV, binI, AV.cells, callEff, calleeOf, frKill, memKill, AV.kill, AObj.kill, AV.has, AV.hasL, Op.operands, Call.operands, tyF, keepF, keepM, viewIds, cChk, renOf, moGet, moWs, moQ, cEff, moLike, moHave, AV.ren, renL, AObj.ren, AObj.like, kept, startC, moMem, AV.frz, frz1, frzL, frSub, memSub, frzs, AS.frz, frFrz, memFrz, AObj.frz, takeMap, takeLen, bleF, Nat.ble_eq, memAny, objAny]
    · trivial
    refine AWp.ret ?_
    try dsimp only [thenQ, blockQ]
    apply endC.ret
    · rfl
    · conv => lhs; simp [runD, mkRc, dstOk, guardOk, opEff, opEff0, effOp, pureOp, callOp, zEff, evA, constAV, frGet, memGet, startAS, frOf, isGoCall, idIn, AS.after, nextR, opnIds, objIds, AV.ids, idsL, AObj.ids, frNo, memNo, opnAny, isAny, mkVal, rdCells, wrCells, fldAddr, idxAddr, srcRows, litRows, toD1, toDs, setAt, sliceAV, optI, partAV, bldAV, fillAV, binAV, binI, AV.cells, callEff, calleeOf, frKill, memKill, AV.kill, AObj.kill, AV.has, AV.hasL, Op.operands, Call.operands, tyF, keepF, keepM, viewIds, cChk, renOf, moGet, moWs, moQ, cEff, moLike, moHave, AV.ren, renL, AObj.ren, AObj.like, kept, startC, moMem, AV.frz, frz1, frzL, frSub, memSub, frzs, AS.frz, frFrz, memFrz, AObj.frz, takeMap, takeLen, bleF, Nat.ble_eq, memAny, objAny, resAV, Try.results42]
    · rfl
    · simp [moEnd, memGet]
end Go.Proofs.Ytcakhebnebcpcaa
