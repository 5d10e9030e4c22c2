/- xcref1.Free, by the abstract machine. -/
import Derived.Test.YtialccgjbanmcaaDoorFreeB
namespace Go.Proofs.YtialccgjbanmcaaDoor
open Go.RowKit
attribute [local simp] runD mkRc ldOf ldArg noAny dstOk guardOk opEff opEff0 effOp pureOp callOp zEff evA constAV frGet memGet startAS frOf isGoCall idIn AS.after nextR opnIds objIds AV.ids idsL AObj.ids frNo memNo opnAny isAny mkVal rdCells wrCells fldAddr idxAddr srcRows litRows toD1 toDs setAt sliceAV optI partAV bldAV fillAV binAV binI AV.cells callEff calleeOf frKill memKill AV.kill AObj.kill AV.has AV.hasL Op.operands Call.operands keepF keepM viewIds cChk renOf moGet moWs moQ cEff moLike moHave AV.ren renL AObj.ren AObj.like kept startC moMem AV.frz frz1 frzL frSub memSub frzs AS.frz frFrz memFrz AObj.frz takeMap takeLen bleF Nat.ble_eq memAny objAny mapOp D.keyOk rowAV valRow extOp wrapOp phO
set_option linter.unusedVariables false
set_option linter.unusedSimpArgs false

/-- The names of a list that are not skipped go into another. -/
theorem addN_woN (skip : List ByteArray) (l : List ByteArray) {L : List ByteArray} {i : Nat} {x : ByteArray} (hx : l[i]? = some x) :
    addN L (woN (l.take (i + 1)) skip) = if !hasB skip x && !hasB (addN L (woN (l.take i) skip)) x then addN L (woN (l.take i) skip) ++ [x] else addN L (woN (l.take i) skip) := by
  rw [List.take_add_one, hx]
  simp only [woN, List.filter_append, addN, List.foldl_append, Option.toList_some]
  cases h : hasB skip x
  · simp only [List.filter_cons, h, Bool.not_false, if_true, List.filter_nil, List.foldl_cons, List.foldl_nil, Bool.true_and]
    cases hasB (List.foldl (fun l s => if hasB l s = true then l else l ++ [s]) L (List.filter (fun s => !hasB skip s) (List.take i l))) x <;> rfl
  · simp [List.filter_cons, h]

set_option maxRecDepth 20000 in
set_option maxHeartbeats 4000000 in
theorem cs_Free1 (L l skip : List ByteArray) (hl : L.length + l.length ≤ 1048576) (hs : skip.length ≤ 8796093022207) :
    CSpec Tryd.prog 107 [strsAV l, strsAV skip, .ptr 1000 0] [(1000, .blk 28 [.arr 500 0 L.length]), (500, .arr 9 1 (L.map strR))] (resVal [])
      [(1000, .blk 28 [.arr 500 0 (addN L (woN l skip)).length]), (500, .arr 9 1 ((addN L (woN l skip)).map strR))] := by
  refine CSpec.of Tryd.func107 rfl rfl (Nat.le_of_ble_eq_true rfl) ?_
  show AWp _ _ (endC _ Tryd.f107 _ _) (startC 28 _ _)
  repeat (first | refine AWp.seq ?_ | refine AWp.block ?_)
  apply AWp.reg [] []
  · conv => lhs; simp
  · trivial
  repeat (first | refine AWp.seq ?_ | refine AWp.block ?_)
  refine AWp.loop (σ := fun u : {i : Nat // i ≤ l.length} => ⟨28, [(1, strsAV skip), (2, .ptr 1000 0), (7, strsAV l), (8, .d (.int l.length)), (9, .d (.int u.1))], [(1000, some (.blk 28 [.arr 500 0 (addN L (woN (l.take u.1) skip)).length])), (500, some (.arr 9 1 ((addN L (woN (l.take u.1) skip)).map strR)))]⟩)
    (μ := fun u => l.length - u.1) ⟨0, Nat.zero_le _⟩ (Le.sub (by simp [addN, woN]) (by simp [addN, woN])) (fun ⟨i, hi⟩ => ?_)
  dsimp only
  have hN := addN_len (woN (l.take i) skip) L
  have hw := woN_len (l.take i) skip
  have hti : (l.take i).length = i := by simp; omega
  have hS : ∀ x, l[i]? = some x → _ := fun x => addN_woN skip l (L := L) (i := i) (x := x)
  obtain ⟨M, hM⟩ : ∃ M, M = addN L (woN (l.take i) skip) := ⟨_, rfl⟩
  rw [← hM] at hN hS ⊢
  repeat (first | refine AWp.seq ?_ | refine AWp.block ?_)
  apply AWp.reg [] []
  · conv => lhs; simp
  · trivial
  repeat (first | refine AWp.seq ?_ | refine AWp.block ?_)
  refine AWp.cond rfl (fun h => ?_) (fun h => ?_)
  · have hi1 : i < l.length := by have := of_decide_eq_true h; omega
    have h1 : l[i]? = some l[i] := List.getElem?_eq_getElem hi1
    generalize l[i] = x at h1
    have hs1 := hS x h1
    have hp := sp_Has skip x (by omega)
    have hc := cs_Has 1001 M x (by omega)
    obtain ⟨A, hA⟩ : ∃ A, A = hasB skip x := ⟨_, rfl⟩
    obtain ⟨B, hB⟩ : ∃ B, B = hasB M x := ⟨_, rfl⟩
    rw [← hA, ← hB] at hs1
    rw [← hA] at hp
    rw [← hB] at hc
    refine AWp.skip ?_
    repeat (first | refine AWp.seq ?_ | refine AWp.block ?_)
    apply AWp.reg [] []
    · conv => lhs; simp [h1]
    · first | trivial | omega | (simp [inI, maxLen]; done) | (simp [inI, maxLen]; omega)
    cases A with
    | true =>
      repeat (first | refine AWp.seq ?_ | refine AWp.block ?_)
      apply AWp.reg [] [.p (fun _ => .d (.bool true)) none, .c [(1001, 500)] [.arr 1001 0 M.length, .d (.str x)] [(1001, .arr 9 1 (M.map strR))] (.d (.bool B)) [(1001, .arr 9 1 (M.map strR))]]
      · conv => lhs; simp
      · exact hp
      repeat (first | refine AWp.seq ?_ | refine AWp.block ?_)
      refine AWp.cond rfl (fun h2 => ?_) (fun h2 => ?_)
      · cases h2
      refine AWp.skip ?_
      repeat (first | refine AWp.seq ?_ | refine AWp.block ?_)
      apply AWp.reg [] []
      · conv => lhs; simp
      · first | trivial | omega | (simp [inI, maxLen]; done) | (simp [inI, maxLen]; omega)
      refine ⟨⟨i + 1, hi1⟩, by simp; omega, ?_⟩
      dsimp only
      rw [hs1]
      exact Le.sub (by simp) (by simp)
    | false =>
      cases B with
      | true =>
        repeat (first | refine AWp.seq ?_ | refine AWp.block ?_)
        apply AWp.reg [] [.p (fun _ => .d (.bool false)) none, .c [(1001, 500)] [.arr 1001 0 M.length, .d (.str x)] [(1001, .arr 9 1 (M.map strR))] (.d (.bool true)) [(1001, .arr 9 1 (M.map strR))]]
        · conv => lhs; simp
        · exact ⟨hp, hc⟩
        repeat (first | refine AWp.seq ?_ | refine AWp.block ?_)
        refine AWp.cond rfl (fun h2 => ?_) (fun h2 => ?_)
        · cases h2
        refine AWp.skip ?_
        repeat (first | refine AWp.seq ?_ | refine AWp.block ?_)
        apply AWp.reg [] []
        · conv => lhs; simp
        · first | trivial | omega | (simp [inI, maxLen]; done) | (simp [inI, maxLen]; omega)
        refine ⟨⟨i + 1, hi1⟩, by simp; omega, ?_⟩
        dsimp only
        rw [hs1]
        exact Le.sub (by simp) (by simp)
      | false =>
        repeat (first | refine AWp.seq ?_ | refine AWp.block ?_)
        apply AWp.reg [] [.p (fun _ => .d (.bool false)) none, .c [(1001, 500)] [.arr 1001 0 M.length, .d (.str x)] [(1001, .arr 9 1 (M.map strR))] (.d (.bool false)) [(1001, .arr 9 1 (M.map strR))]]
        · conv => lhs; simp
        · exact ⟨hp, hc⟩
        repeat (first | refine AWp.seq ?_ | refine AWp.block ?_)
        refine AWp.cond rfl (fun h2 => ?_) (fun h2 => ?_)
        rotate_left
        · cases h2
        repeat (first | refine AWp.seq ?_ | refine AWp.block ?_)
        apply AWp.reg [] []
        · conv => lhs; simp
        · first | trivial | omega | (simp [inI, maxLen]; done) | (simp [inI, maxLen]; omega)
        repeat (first | refine AWp.seq ?_ | refine AWp.block ?_)
        apply AWp.reg [] []
        · conv => lhs; simp
        · first | trivial | omega | (simp [inI, maxLen]; done) | (simp [inI, maxLen]; omega)
        refine ⟨⟨i + 1, hi1⟩, by simp; omega, ?_⟩
        dsimp only
        rw [hs1]
        exact Le.sub (by simp) (by simp)
  have hi1 : i = l.length := by have := of_decide_eq_false h; omega
  subst hi1
  rw [List.take_length] at hM
  refine AWp.exit ?_
  rw [← hM]
  try dsimp only [thenQ, blockQ]
  apply endC.normal
  · rfl
  · conv => lhs; simp [resAV, Tryd.results107]
  · rfl
  · simp [moEnd, memGet]
end Go.Proofs.YtialccgjbanmcaaDoor
