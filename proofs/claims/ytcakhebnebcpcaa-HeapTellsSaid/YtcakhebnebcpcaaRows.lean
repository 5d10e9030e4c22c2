/-
  No cell of these rows narrows 'for every input' (looked for: loops, veiled, ifaces, maps, wideKeys, modest, calm, conditions, laid).
  DERIVED. THE GIVEN ROWS OF THIS SEAT. 4 by the template 'for every input the law returns true; each argument reads behind the call as it read before'; 0 by the template 'total and deterministic' (their statements: YtcakhebnebcpcaaTotals.lean).
  GIVEN WITH THE SEED: the statements are not yours to turn. If you find one false, say at which input.
  Laid BY PROGRAM, IN A SANDBOX (cutbox-rows.mjs): the forced cells as the released guide's own fill.sh prints them over the translation 52b5c3716d66bd4b… (all of the seat's roots in one cut). By AI agents, Wed Nov 11 2026. No macro, syntax, notation, axiom, sorry.
-/
import Derived.Test.YtcakhebnebcpcaaChecked
import GoSem.Claim
import GoSem.ClaimJoined
import GoSem.ClaimMapViews
import Derived.JoinedTies
import Derived.KernelRfl
namespace Go.Proofs.Ytcakhebnebcpcaa
/- THE CELL 'sum', in the pinned program and in every row, IS THE sha256 OF THE DUMP (.gsa) THAT YtcakhebnebcpcaaProg.lean LOADS. Nothing in Lean hashes anything: it is a label: what it is worth is what the hold of that sum in a sandbox is worth. -/
noncomputable def Try.pinned : Pinned := { name := "ytcakhebnebcpcaa", sum := "52b5c3716d66bd4b3779068b19dd99ce287a77fa321a76511bc2a57fd8593d52", checked := Try.checked }
namespace Rows
def none {H : Type} : Left H := { results := [], args := [] }

/-- 'xclaw10.HeapTells': WHATEVER THE INPUT: true; the input reads as it did. -/
def heapTellsSpec : ChangeSpec := { name := "heapTells", fn := fun _ => fun
  | [d1, d2, d3, d4, d5, d6] => { results := [.lit (.bool true)], args := [d1, d2, d3, d4, d5, d6] }
  | _ => none }
def heapTellsRow : OpenClaim := { program := "ytcakhebnebcpcaa", sum := "52b5c3716d66bd4b3779068b19dd99ce287a77fa321a76511bc2a57fd8593d52", func := "exactchange/xclaw10.HeapTells", spec := "heapTells", unfollowed := true, recurses := true, apart := false }
def HeapTellsSaid : Prop := heapTellsRow.holds Try.pinned (OpenSpec.ofChange heapTellsSpec)

/-- ITS FALSE NEIGHBOUR: 'it returns false'. Refute it at one input. -/
def heapTellsWrong : ChangeSpec := { name := "heapTells", fn := fun _ => fun
  | [d1, d2, d3, d4, d5, d6] => { results := [.lit (.bool false)], args := [d1, d2, d3, d4, d5, d6] }
  | _ => none }
def HeapTellsWrongFalsely : Prop := heapTellsRow.holds Try.pinned (OpenSpec.ofChange heapTellsWrong)

/-- 'xclaw10.HeapRight': WHATEVER THE INPUT: true; the input reads as it did. -/
def heapRightSpec : ChangeSpec := { name := "heapRight", fn := fun _ => fun
  | [d] => { results := [.lit (.bool true)], args := [d] }
  | _ => none }
def heapRightRow : OpenClaim := { program := "ytcakhebnebcpcaa", sum := "52b5c3716d66bd4b3779068b19dd99ce287a77fa321a76511bc2a57fd8593d52", func := "exactchange/xclaw10.HeapRight", spec := "heapRight", unfollowed := true, recurses := true, apart := false }
def HeapRightSaid : Prop := heapRightRow.holds Try.pinned (OpenSpec.ofChange heapRightSpec)

/-- ITS FALSE NEIGHBOUR: 'it returns false'. Refute it at one input. -/
def heapRightWrong : ChangeSpec := { name := "heapRight", fn := fun _ => fun
  | [d] => { results := [.lit (.bool false)], args := [d] }
  | _ => none }
def HeapRightWrongFalsely : Prop := heapRightRow.holds Try.pinned (OpenSpec.ofChange heapRightWrong)

/-- 'xclaw10.HeapTake': WHATEVER THE INPUT: true; the input reads as it did. -/
def heapTakeSpec : ChangeSpec := { name := "heapTake", fn := fun _ => fun
  | [d1, d2] => { results := [.lit (.bool true)], args := [d1, d2] }
  | _ => none }
def heapTakeRow : OpenClaim := { program := "ytcakhebnebcpcaa", sum := "52b5c3716d66bd4b3779068b19dd99ce287a77fa321a76511bc2a57fd8593d52", func := "exactchange/xclaw10.HeapTake", spec := "heapTake", unfollowed := true, recurses := true, apart := false }
def HeapTakeSaid : Prop := heapTakeRow.holds Try.pinned (OpenSpec.ofChange heapTakeSpec)

/-- ITS FALSE NEIGHBOUR: 'it returns false'. Refute it at one input. -/
def heapTakeWrong : ChangeSpec := { name := "heapTake", fn := fun _ => fun
  | [d1, d2] => { results := [.lit (.bool false)], args := [d1, d2] }
  | _ => none }
def HeapTakeWrongFalsely : Prop := heapTakeRow.holds Try.pinned (OpenSpec.ofChange heapTakeWrong)

/-- 'xclaw10.HeapUse': WHATEVER THE INPUT: true; the input reads as it did. -/
def heapUseSpec : ChangeSpec := { name := "heapUse", fn := fun _ => fun
  | [d1, d2, d3, d4] => { results := [.lit (.bool true)], args := [d1, d2, d3, d4] }
  | _ => none }
def heapUseRow : OpenClaim := { program := "ytcakhebnebcpcaa", sum := "52b5c3716d66bd4b3779068b19dd99ce287a77fa321a76511bc2a57fd8593d52", func := "exactchange/xclaw10.HeapUse", spec := "heapUse", unfollowed := true, recurses := true, apart := false }
def HeapUseSaid : Prop := heapUseRow.holds Try.pinned (OpenSpec.ofChange heapUseSpec)

/-- ITS FALSE NEIGHBOUR: 'it returns false'. Refute it at one input. -/
def heapUseWrong : ChangeSpec := { name := "heapUse", fn := fun _ => fun
  | [d1, d2, d3, d4] => { results := [.lit (.bool false)], args := [d1, d2, d3, d4] }
  | _ => none }
def HeapUseWrongFalsely : Prop := heapUseRow.holds Try.pinned (OpenSpec.ofChange heapUseWrong)

/- THE SECOND FORM. 'bulk': how many values and letters a reading holds, each counted each time it is reached (what is shared counts as often as it is met; a slice's spare places count too). A statement '..UptoSaid' is the law's where the arguments, and the package variables that the reading takes, are together of bulk at most 1048576: NARROWER than '..Said'. Prove '..Said' where nothing that the law and all that it calls make is longer than what came in: it says more and counts as full. Else prove '..UptoSaid'. A law counts once. -/
mutual
def uptoBulk {H : Type} : DataW H → Nat
  | .lit (.string bytes) => bytes.length + 1
  | .lit _ => 1
  | .nil => 1
  | .ptr d => uptoBulk d + 1
  | .slice elems spare => uptoBulkAll elems + uptoBulkAll spare + 1
  | .agg parts => uptoBulkAll parts + 1
  | .iface _ d => uptoBulk d + 1
  | .map entries => uptoBulkEntries entries + 1
  | .held _ => 1
def uptoBulkAll {H : Type} : List (DataW H) → Nat
  | [] => 0
  | d :: r => uptoBulk d + uptoBulkAll r
def uptoBulkEntries {H : Type} : List (Lit × DataW H) → Nat
  | [] => 0
  | x :: r => uptoBulkEntry x + uptoBulkEntries r
def uptoBulkEntry {H : Type} : Lit × DataW H → Nat
  | (.string bytes, d) => bytes.length + uptoBulk d + 1
  | (_, d) => uptoBulk d + 1
 end
def uptoSmall : (H : Type) → List (DataW H) → Bool := fun _ ds => decide (uptoBulkAll ds ≤ 1048576)
def OpenSpec.upto (s : _root_.Go.ChangeSpec) : _root_.Go.OpenSpec := { _root_.Go.OpenSpec.ofChange s with cond := some uptoSmall }

/-- 'xclaw10.HeapTells', WHERE WHAT IT READS IS OF BULK AT MOST 1048576: true; the input reads as it did. -/
def heapTellsUptoRow : OpenClaim := { program := "ytcakhebnebcpcaa", sum := "52b5c3716d66bd4b3779068b19dd99ce287a77fa321a76511bc2a57fd8593d52", func := "exactchange/xclaw10.HeapTells", spec := "heapTells", unfollowed := true, recurses := true, apart := false, narrowed := true }
def HeapTellsUptoSaid : Prop := heapTellsUptoRow.holds Try.pinned (OpenSpec.upto heapTellsSpec)

/-- 'xclaw10.HeapRight', WHERE WHAT IT READS IS OF BULK AT MOST 1048576: true; the input reads as it did. -/
def heapRightUptoRow : OpenClaim := { program := "ytcakhebnebcpcaa", sum := "52b5c3716d66bd4b3779068b19dd99ce287a77fa321a76511bc2a57fd8593d52", func := "exactchange/xclaw10.HeapRight", spec := "heapRight", unfollowed := true, recurses := true, apart := false, narrowed := true }
def HeapRightUptoSaid : Prop := heapRightUptoRow.holds Try.pinned (OpenSpec.upto heapRightSpec)

/-- 'xclaw10.HeapTake', WHERE WHAT IT READS IS OF BULK AT MOST 1048576: true; the input reads as it did. -/
def heapTakeUptoRow : OpenClaim := { program := "ytcakhebnebcpcaa", sum := "52b5c3716d66bd4b3779068b19dd99ce287a77fa321a76511bc2a57fd8593d52", func := "exactchange/xclaw10.HeapTake", spec := "heapTake", unfollowed := true, recurses := true, apart := false, narrowed := true }
def HeapTakeUptoSaid : Prop := heapTakeUptoRow.holds Try.pinned (OpenSpec.upto heapTakeSpec)

/-- 'xclaw10.HeapUse', WHERE WHAT IT READS IS OF BULK AT MOST 1048576: true; the input reads as it did. -/
def heapUseUptoRow : OpenClaim := { program := "ytcakhebnebcpcaa", sum := "52b5c3716d66bd4b3779068b19dd99ce287a77fa321a76511bc2a57fd8593d52", func := "exactchange/xclaw10.HeapUse", spec := "heapUse", unfollowed := true, recurses := true, apart := false, narrowed := true }
def HeapUseUptoSaid : Prop := heapUseUptoRow.holds Try.pinned (OpenSpec.upto heapUseSpec)

end Rows
end Go.Proofs.Ytcakhebnebcpcaa
