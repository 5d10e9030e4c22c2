/-
  NARROWER THAN 'FOR EVERY INPUT', by the rows' own cells (each row's printed sentence says how): EvalTells: loops · ScopeTells: loops · ScopeLet: loops · ScopeNeeds: loops.
  DERIVED. THE GIVEN ROWS OF THIS SEAT. 4 by the template 'for every input the law returns true; each argument reads behind the call as it read before'; 0 by the template 'total and deterministic' (their statements: YtialccgjbanmcaaTotals.lean).
  GIVEN WITH THE SEED: the statements are not yours to turn. If you find one false, say at which input.
  Laid BY PROGRAM, IN A SANDBOX (cutbox-rows.mjs): the forced cells as the released guide's own fill.sh prints them over the translation dd50cd641d1e1c98… (all of the seat's roots in one cut). By AI agents, Wed Nov 11 2026. No macro, syntax, notation, axiom, sorry.
-/
import Derived.Test.YtialccgjbanmcaaChecked
import GoSem.Claim
import GoSem.ClaimJoined
import GoSem.ClaimMapViews
import Derived.JoinedTies
import Derived.KernelRfl
namespace Go.Proofs.Ytialccgjbanmcaa
/- THE CELL 'sum', in the pinned program and in every row, IS THE sha256 OF THE DUMP (.gsa) THAT YtialccgjbanmcaaProg.lean LOADS. Nothing in Lean hashes anything: it is a label: what it is worth is what the hold of that sum in a sandbox is worth. -/
noncomputable def Try.pinned : Pinned := { name := "ytialccgjbanmcaa", sum := "dd50cd641d1e1c987631b220f7267285a4c9a51ef4072f9826df5ccb37fba546", checked := Try.checked }
namespace Rows
def none {H : Type} : Left H := { results := [], args := [] }

/-- 'xclaw3.EvalTells': WHATEVER THE INPUT: true; the input reads as it did. -/
def evalTellsSpec : ChangeSpec := { name := "evalTells", fn := fun _ => fun
  | [d1, d2, d3, d4, d5, d6, d7, d8, d9] => { results := [.lit (.bool true)], args := [d1, d2, d3, d4, d5, d6, d7, d8, d9] }
  | _ => none }
def evalTellsRow : OpenClaim := { program := "ytialccgjbanmcaa", sum := "dd50cd641d1e1c987631b220f7267285a4c9a51ef4072f9826df5ccb37fba546", func := "exactchange/xclaw3.EvalTells", spec := "evalTells", unfollowed := true, recurses := true, loops := true, apart := false }
def EvalTellsSaid : Prop := evalTellsRow.holds Try.pinned (OpenSpec.ofChange evalTellsSpec)

/-- ITS FALSE NEIGHBOUR: 'it returns false'. Refute it at one input. -/
def evalTellsWrong : ChangeSpec := { name := "evalTells", fn := fun _ => fun
  | [d1, d2, d3, d4, d5, d6, d7, d8, d9] => { results := [.lit (.bool false)], args := [d1, d2, d3, d4, d5, d6, d7, d8, d9] }
  | _ => none }
def EvalTellsWrongFalsely : Prop := evalTellsRow.holds Try.pinned (OpenSpec.ofChange evalTellsWrong)

/-- 'xclaw2.ScopeTells': WHATEVER THE INPUT: true; the input reads as it did. -/
def scopeTellsSpec : ChangeSpec := { name := "scopeTells", fn := fun _ => fun
  | [d1, d2, d3] => { results := [.lit (.bool true)], args := [d1, d2, d3] }
  | _ => none }
def scopeTellsRow : OpenClaim := { program := "ytialccgjbanmcaa", sum := "dd50cd641d1e1c987631b220f7267285a4c9a51ef4072f9826df5ccb37fba546", func := "exactchange/xclaw2.ScopeTells", spec := "scopeTells", unfollowed := true, recurses := true, loops := true, apart := false }
def ScopeTellsSaid : Prop := scopeTellsRow.holds Try.pinned (OpenSpec.ofChange scopeTellsSpec)

/-- ITS FALSE NEIGHBOUR: 'it returns false'. Refute it at one input. -/
def scopeTellsWrong : ChangeSpec := { name := "scopeTells", fn := fun _ => fun
  | [d1, d2, d3] => { results := [.lit (.bool false)], args := [d1, d2, d3] }
  | _ => none }
def ScopeTellsWrongFalsely : Prop := scopeTellsRow.holds Try.pinned (OpenSpec.ofChange scopeTellsWrong)

/-- 'xclaw2.ScopeLet': WHATEVER THE INPUT: true; the input reads as it did. -/
def scopeLetSpec : ChangeSpec := { name := "scopeLet", fn := fun _ => fun
  | [d1, d2] => { results := [.lit (.bool true)], args := [d1, d2] }
  | _ => none }
def scopeLetRow : OpenClaim := { program := "ytialccgjbanmcaa", sum := "dd50cd641d1e1c987631b220f7267285a4c9a51ef4072f9826df5ccb37fba546", func := "exactchange/xclaw2.ScopeLet", spec := "scopeLet", unfollowed := true, recurses := true, loops := true, apart := false }
def ScopeLetSaid : Prop := scopeLetRow.holds Try.pinned (OpenSpec.ofChange scopeLetSpec)

/-- ITS FALSE NEIGHBOUR: 'it returns false'. Refute it at one input. -/
def scopeLetWrong : ChangeSpec := { name := "scopeLet", fn := fun _ => fun
  | [d1, d2] => { results := [.lit (.bool false)], args := [d1, d2] }
  | _ => none }
def ScopeLetWrongFalsely : Prop := scopeLetRow.holds Try.pinned (OpenSpec.ofChange scopeLetWrong)

/-- 'xclaw2.ScopeNeeds': WHATEVER THE INPUT: true; the input reads as it did. -/
def scopeNeedsSpec : ChangeSpec := { name := "scopeNeeds", fn := fun _ => fun
  | [d1, d2, d3] => { results := [.lit (.bool true)], args := [d1, d2, d3] }
  | _ => none }
def scopeNeedsRow : OpenClaim := { program := "ytialccgjbanmcaa", sum := "dd50cd641d1e1c987631b220f7267285a4c9a51ef4072f9826df5ccb37fba546", func := "exactchange/xclaw2.ScopeNeeds", spec := "scopeNeeds", unfollowed := true, recurses := true, loops := true, apart := false }
def ScopeNeedsSaid : Prop := scopeNeedsRow.holds Try.pinned (OpenSpec.ofChange scopeNeedsSpec)

/-- ITS FALSE NEIGHBOUR: 'it returns false'. Refute it at one input. -/
def scopeNeedsWrong : ChangeSpec := { name := "scopeNeeds", fn := fun _ => fun
  | [d1, d2, d3] => { results := [.lit (.bool false)], args := [d1, d2, d3] }
  | _ => none }
def ScopeNeedsWrongFalsely : Prop := scopeNeedsRow.holds Try.pinned (OpenSpec.ofChange scopeNeedsWrong)

/- THE SECOND FORM. 'bulk': how many values and letters a reading holds, each counted each time it is reached (what is shared counts as often as it is met; a slice's spare places count too). A statement '..UptoSaid' is the law's where the arguments, and the package variables that the reading takes, are together of bulk at most 1048576: NARROWER than '..Said'. Prove '..Said' where nothing that the law and all that it calls make is longer than what came in: it says more and counts as full. Else prove '..UptoSaid'. A law counts once. -/
mutual
def uptoBulk {H : Type} : DataW H → Nat
  | .lit (.string bytes) => bytes.length + 1
  | .lit _ => 1
  | .nil => 1
  | .ptr d => uptoBulk d + 1
  | .slice elems spare => uptoBulkAll elems + uptoBulkAll spare + 1
  | .agg parts => uptoBulkAll parts + 1
  | .iface _ d => uptoBulk d + 1
  | .map entries => uptoBulkEntries entries + 1
  | .held _ => 1
def uptoBulkAll {H : Type} : List (DataW H) → Nat
  | [] => 0
  | d :: r => uptoBulk d + uptoBulkAll r
def uptoBulkEntries {H : Type} : List (Lit × DataW H) → Nat
  | [] => 0
  | x :: r => uptoBulkEntry x + uptoBulkEntries r
def uptoBulkEntry {H : Type} : Lit × DataW H → Nat
  | (.string bytes, d) => bytes.length + uptoBulk d + 1
  | (_, d) => uptoBulk d + 1
 end
def uptoSmall : (H : Type) → List (DataW H) → Bool := fun _ ds => decide (uptoBulkAll ds ≤ 1048576)
def OpenSpec.upto (s : _root_.Go.ChangeSpec) : _root_.Go.OpenSpec := { _root_.Go.OpenSpec.ofChange s with cond := some uptoSmall }

/-- 'xclaw3.EvalTells', WHERE WHAT IT READS IS OF BULK AT MOST 1048576: true; the input reads as it did. -/
def evalTellsUptoRow : OpenClaim := { program := "ytialccgjbanmcaa", sum := "dd50cd641d1e1c987631b220f7267285a4c9a51ef4072f9826df5ccb37fba546", func := "exactchange/xclaw3.EvalTells", spec := "evalTells", unfollowed := true, recurses := true, loops := true, apart := false, narrowed := true }
def EvalTellsUptoSaid : Prop := evalTellsUptoRow.holds Try.pinned (OpenSpec.upto evalTellsSpec)

/-- 'xclaw2.ScopeTells', WHERE WHAT IT READS IS OF BULK AT MOST 1048576: true; the input reads as it did. -/
def scopeTellsUptoRow : OpenClaim := { program := "ytialccgjbanmcaa", sum := "dd50cd641d1e1c987631b220f7267285a4c9a51ef4072f9826df5ccb37fba546", func := "exactchange/xclaw2.ScopeTells", spec := "scopeTells", unfollowed := true, recurses := true, loops := true, apart := false, narrowed := true }
def ScopeTellsUptoSaid : Prop := scopeTellsUptoRow.holds Try.pinned (OpenSpec.upto scopeTellsSpec)

/-- 'xclaw2.ScopeLet', WHERE WHAT IT READS IS OF BULK AT MOST 1048576: true; the input reads as it did. -/
def scopeLetUptoRow : OpenClaim := { program := "ytialccgjbanmcaa", sum := "dd50cd641d1e1c987631b220f7267285a4c9a51ef4072f9826df5ccb37fba546", func := "exactchange/xclaw2.ScopeLet", spec := "scopeLet", unfollowed := true, recurses := true, loops := true, apart := false, narrowed := true }
def ScopeLetUptoSaid : Prop := scopeLetUptoRow.holds Try.pinned (OpenSpec.upto scopeLetSpec)

/-- 'xclaw2.ScopeNeeds', WHERE WHAT IT READS IS OF BULK AT MOST 1048576: true; the input reads as it did. -/
def scopeNeedsUptoRow : OpenClaim := { program := "ytialccgjbanmcaa", sum := "dd50cd641d1e1c987631b220f7267285a4c9a51ef4072f9826df5ccb37fba546", func := "exactchange/xclaw2.ScopeNeeds", spec := "scopeNeeds", unfollowed := true, recurses := true, loops := true, apart := false, narrowed := true }
def ScopeNeedsUptoSaid : Prop := scopeNeedsUptoRow.holds Try.pinned (OpenSpec.upto scopeNeedsSpec)

end Rows
end Go.Proofs.Ytialccgjbanmcaa
