/-
  DERIVED. GIVEN WITH THE SEED: THE CARDS: each row of YtlbcipohiepjmaaDoorRows.lean that lists a variable, with what it lists TIED to the program's text (the seventh form; the later family's looks); each row that meets fmt, with fmt's text TOLD by the authors' own Lean function (tested against real Go, not proved from fmt's source: count such statements apart). THE CARD IS WHAT COUNTS. Prove the row's statement (the work); the ties are given (YtlbcipohiepjmaaDoorTie.lean); close each card by the builder's one call (the guide's Derived/Test/ToyasCard.lean, 'card_holds'). Laid BY PROGRAM, IN A SANDBOX (cutbox-door.mjs). By AI agents, Wed Nov 11 2026. No macro, syntax, notation, axiom, sorry.
-/
import Derived.Test.YtlbcipohiepjmaaDoorRows
import GoSem.ClaimSeven
namespace Go.Proofs.YtlbcipohiepjmaaDoor
namespace Rows

/-- THE TIED CARD OF 'xclaw9.ReuseTells'. -/
def reuseTellsCard : Claim7 := { stood := { row := reuseTellsRow, standIns := [], harness := (true, "871234c87a918fc03be79fa7a183bb8c3803c21a5b6373e1d97a8b18f62009b5"), looks := true }, kinds := [], alts := [], laidByText := true, laidKinds := [.data, .data, .data], laidTests := true, laidLooks := .later }
def ReuseTellsCardSaid : Prop := Claim7.holds Tryd.pinned (.plain (OpenSpec.ofChange reuseTellsSpec)) reuseTellsCard

/-- THE TIED CARD OF 'xclaw9.ReuseFits'. -/
def reuseFitsCard : Claim7 := { stood := { row := reuseFitsRow, standIns := [], harness := (true, "871234c87a918fc03be79fa7a183bb8c3803c21a5b6373e1d97a8b18f62009b5"), looks := true }, kinds := [], alts := [], laidByText := true, laidKinds := [.data, .data, .data, .sentinel, .sentinel], laidTests := true, laidLooks := .later }
def ReuseFitsCardSaid : Prop := Claim7.holds Tryd.pinned (.plain (OpenSpec.ofChange reuseFitsSpec)) reuseFitsCard

/-- THE SECOND FORM's CARD OF 'xclaw9.ReuseTells'. -/
def reuseTellsUptoCard : Claim7 := { stood := { row := reuseTellsUptoRow, standIns := [], harness := (true, "871234c87a918fc03be79fa7a183bb8c3803c21a5b6373e1d97a8b18f62009b5"), looks := true }, kinds := [], alts := [], laidByText := true, laidKinds := [.data, .data, .data], laidTests := true, laidLooks := .later }
def ReuseTellsUptoCardSaid : Prop := Claim7.holds Tryd.pinned (.plain (OpenSpec.upto reuseTellsSpec)) reuseTellsUptoCard

/-- THE SECOND FORM's CARD OF 'xclaw9.ReuseFits'. -/
def reuseFitsUptoCard : Claim7 := { stood := { row := reuseFitsUptoRow, standIns := [], harness := (true, "871234c87a918fc03be79fa7a183bb8c3803c21a5b6373e1d97a8b18f62009b5"), looks := true }, kinds := [], alts := [], laidByText := true, laidKinds := [.data, .data, .data, .sentinel, .sentinel], laidTests := true, laidLooks := .later }
def ReuseFitsUptoCardSaid : Prop := Claim7.holds Tryd.pinned (.plain (OpenSpec.upto reuseFitsSpec)) reuseFitsUptoCard
end Rows
end Go.Proofs.YtlbcipohiepjmaaDoor
