/- (*scope.looker).cases, by the abstract machine; both together. Printed by walk_cases.py. -/
import Derived.Test.YtialccgjbanmcaaDoorLookA
namespace Go.Proofs.YtialccgjbanmcaaDoor
open Go.RowKit
attribute [local simp] runD mkRc ldOf ldArg noAny dstOk guardOk opEff opEff0 effOp pureOp callOp zEff evA constAV frGet memGet startAS frOf isGoCall idIn AS.after nextR opnIds objIds AV.ids idsL AObj.ids frNo memNo opnAny isAny mkVal rdCells wrCells fldAddr idxAddr srcRows litRows toD1 toDs setAt sliceAV optI partAV bldAV fillAV binAV binI AV.cells callEff calleeOf frKill memKill AV.kill AObj.kill AV.has AV.hasL Op.operands Call.operands keepF keepM viewIds cChk renOf moGet moWs moQ cEff moLike moHave AV.ren renL AObj.ren AObj.like kept startC moMem AV.frz frz1 frzL frSub memSub frzs AS.frz frFrz memFrz AObj.frz takeMap takeLen bleF Nat.ble_eq memAny objAny mapOp D.keyOk rowAV valRow extOp wrapOp phO
set_option linter.unusedVariables false
set_option linter.unusedSimpArgs false

/-- The tags that were had. -/
def hadD (l : List Int) : List (D × List D) := l.map fun t => (.int t, [.bool true])
def hadT (l : List Cs) (i : Nat) : List Int := ((l.take i).map Cs.tag).reverse
def inH (l : List Int) (g : Int) : Bool := l.contains g
theorem hadD_get (g : Int) : ∀ l : List Int, D.aget (.int g) (hadD l) = if inH l g = true then some [.bool true] else none
  | [] => by simp [hadD, D.aget, inH]
  | x :: l => by
    have ih := hadD_get g l
    unfold hadD inH at ih
    unfold hadD inH
    by_cases h : x = g
    · subst h; simp [D.aget, D.keq]
    · have h' : ¬ g = x := fun e => h e.symm
      simp only [List.map_cons]
      rw [show D.aget (.int g) ((D.int x, [D.bool true]) :: List.map (fun t => (D.int t, [D.bool true])) l) = D.aget (.int g) (List.map (fun t => (D.int t, [D.bool true])) l) by simp [D.aget, D.keq, h], ih]
      simp [h']
theorem hadD_put {g : Int} {l : List Int} (h : inH l g = false) : D.aput (.int g) [.bool true] (hadD l) = hadD (g :: l) := by
  unfold D.aput
  rw [D.adel_all]
  · rfl
  · intro p hp
    unfold hadD at hp
    obtain ⟨t, ht, rfl⟩ := List.mem_map.1 hp
    intro e
    simp only [D.int.injEq] at e
    subst e
    have : l.contains t = true := List.contains_iff_mem.2 ht
    unfold inH at h
    rw [this] at h; cases h

end Go.Proofs.YtialccgjbanmcaaDoor
