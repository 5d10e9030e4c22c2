/-
  DERIVED. GIVEN WITH THE SEED: THE CARDS: each row of YtnddiddkmhiclaaGreatDoorRows.lean that lists a variable, with what it lists TIED to the program's text (the seventh form; the later family's looks); each row that meets fmt, with fmt's text TOLD by the authors' own Lean function (tested against real Go, not proved from fmt's source: count such statements apart). THE CARD IS WHAT COUNTS. Prove the row's statement (the work); the ties are given (YtnddiddkmhiclaaGreatDoorTie.lean); close each card by the builder's one call (the guide's Derived/Test/ToyasCard.lean, 'card_holds'). Laid BY PROGRAM, IN A SANDBOX (cutbox-door.mjs). By AI agents, Wed Nov 11 2026. No macro, syntax, notation, axiom, sorry.
-/
import Derived.Test.YtnddiddkmhiclaaGreatDoorRows
import GoSem.ClaimSeven
namespace Go.Proofs.YtnddiddkmhiclaaGreatDoor
namespace Rows

/-- THE TIED CARD OF 'xclaw11.RunSame'. -/
def runSameCard : Claim7 := { stood := { row := runSameRow, standIns := [], harness := (true, "7a241fc330ebf04a3e24468360fd8adba8f4391932b4637fdd58f5f5fa37cac2"), looks := true }, kinds := [], alts := [], laidByText := true, laidKinds := [.data, .data, .data, .sentinel, .sentinel], laidTests := true, laidLooks := .later }
def RunSameCardSaid : Prop := Claim7.holds Tryz.pinned (.plain (OpenSpec.ofChange runSameSpec)) runSameCard

/-- THE TIED CARD OF 'xclaw11.RunNone'. -/
def runNoneCard : Claim7 := { stood := { row := runNoneRow, standIns := [], harness := (true, "7a241fc330ebf04a3e24468360fd8adba8f4391932b4637fdd58f5f5fa37cac2"), looks := true }, kinds := [], alts := [], laidByText := true, laidKinds := [.data, .data, .data, .sentinel, .sentinel], laidTests := true, laidLooks := .later }
def RunNoneCardSaid : Prop := Claim7.holds Tryz.pinned (.plain (OpenSpec.ofChange runNoneSpec)) runNoneCard

/-- THE SECOND FORM's CARD OF 'xclaw11.RunSame'. -/
def runSameUptoCard : Claim7 := { stood := { row := runSameUptoRow, standIns := [], harness := (true, "7a241fc330ebf04a3e24468360fd8adba8f4391932b4637fdd58f5f5fa37cac2"), looks := true }, kinds := [], alts := [], laidByText := true, laidKinds := [.data, .data, .data, .sentinel, .sentinel], laidTests := true, laidLooks := .later }
def RunSameUptoCardSaid : Prop := Claim7.holds Tryz.pinned (.plain (OpenSpec.upto runSameSpec)) runSameUptoCard

/-- THE SECOND FORM's CARD OF 'xclaw11.RunNone'. -/
def runNoneUptoCard : Claim7 := { stood := { row := runNoneUptoRow, standIns := [], harness := (true, "7a241fc330ebf04a3e24468360fd8adba8f4391932b4637fdd58f5f5fa37cac2"), looks := true }, kinds := [], alts := [], laidByText := true, laidKinds := [.data, .data, .data, .sentinel, .sentinel], laidTests := true, laidLooks := .later }
def RunNoneUptoCardSaid : Prop := Claim7.holds Tryz.pinned (.plain (OpenSpec.upto runNoneSpec)) runNoneUptoCard
end Rows
end Go.Proofs.YtnddiddkmhiclaaGreatDoor
