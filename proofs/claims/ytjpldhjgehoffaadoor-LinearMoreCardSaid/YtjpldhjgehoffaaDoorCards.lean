/-
  DERIVED. GIVEN WITH THE SEED: THE CARDS: each row of YtjpldhjgehoffaaDoorRows.lean that lists a variable, with what it lists TIED to the program's text (the seventh form; the later family's looks); each row that meets fmt, with fmt's text TOLD by the authors' own Lean function (tested against real Go, not proved from fmt's source: count such statements apart). THE CARD IS WHAT COUNTS. Prove the row's statement (the work); the ties are given (YtjpldhjgehoffaaDoorTie.lean); close each card by the builder's one call (the guide's Derived/Test/ToyasCard.lean, 'card_holds'). Laid BY PROGRAM, IN A SANDBOX (cutbox-door.mjs). By AI agents, Wed Nov 11 2026. No macro, syntax, notation, axiom, sorry.
-/
import Derived.Test.YtjpldhjgehoffaaDoorRows
import GoSem.ClaimSeven
namespace Go.Proofs.YtjpldhjgehoffaaDoor
namespace Rows

/-- THE TIED CARD OF 'xclaw9.ReuseTells'. -/
def reuseTellsCard : Claim7 := { stood := { row := reuseTellsRow, standIns := [], harness := (true, "ca3fffe41152b069e65989282f83b1248a6c63b13b50ad3148beed9f2bfe8215"), looks := true }, kinds := [], alts := [], laidByText := true, laidKinds := [.data, .data, .data], laidTests := true, laidLooks := .later }
def ReuseTellsCardSaid : Prop := Claim7.holds Tryd.pinned (.plain (OpenSpec.ofChange reuseTellsSpec)) reuseTellsCard

/-- THE TIED CARD OF 'xclaw9.ReuseFits'. -/
def reuseFitsCard : Claim7 := { stood := { row := reuseFitsRow, standIns := [], harness := (true, "ca3fffe41152b069e65989282f83b1248a6c63b13b50ad3148beed9f2bfe8215"), looks := true }, kinds := [], alts := [], laidByText := true, laidKinds := [.data, .data, .data, .sentinel, .sentinel], laidTests := true, laidLooks := .later }
def ReuseFitsCardSaid : Prop := Claim7.holds Tryd.pinned (.plain (OpenSpec.ofChange reuseFitsSpec)) reuseFitsCard

/-- THE TIED CARD OF 'xclaw11.RunTells'. -/
def runTellsCard : Claim7 := { stood := { row := runTellsRow, standIns := [], harness := (true, "ca3fffe41152b069e65989282f83b1248a6c63b13b50ad3148beed9f2bfe8215"), looks := true }, kinds := [], alts := [], laidByText := true, laidKinds := [.data, .data, .data], laidTests := true, laidLooks := .later }
def RunTellsCardSaid : Prop := Claim7.holds Tryd.pinned (.plain (OpenSpec.ofChange runTellsSpec)) runTellsCard

/-- THE TIED CARD OF 'xclaw7.LinearOnce'. -/
def linearOnceCard : Claim7 := { stood := { row := linearOnceRow, standIns := [], harness := (true, "ca3fffe41152b069e65989282f83b1248a6c63b13b50ad3148beed9f2bfe8215"), looks := true }, kinds := [], alts := [], laidByText := true, laidKinds := [.data, .data, .data], laidTests := true, laidLooks := .later }
def LinearOnceCardSaid : Prop := Claim7.holds Tryd.pinned (.plain (OpenSpec.ofChange linearOnceSpec)) linearOnceCard

/-- THE TIED CARD OF 'xclaw7.LinearLeft'. -/
def linearLeftCard : Claim7 := { stood := { row := linearLeftRow, standIns := [], harness := (true, "ca3fffe41152b069e65989282f83b1248a6c63b13b50ad3148beed9f2bfe8215"), looks := true }, kinds := [], alts := [], laidByText := true, laidKinds := [.data, .data, .data], laidTests := true, laidLooks := .later }
def LinearLeftCardSaid : Prop := Claim7.holds Tryd.pinned (.plain (OpenSpec.ofChange linearLeftSpec)) linearLeftCard

/-- THE TIED CARD OF 'xclaw7.LinearMore'. -/
def linearMoreCard : Claim7 := { stood := { row := linearMoreRow, standIns := [], harness := (true, "ca3fffe41152b069e65989282f83b1248a6c63b13b50ad3148beed9f2bfe8215"), looks := true }, kinds := [], alts := [], laidByText := true, laidKinds := [.data, .data, .data], laidTests := true, laidLooks := .later }
def LinearMoreCardSaid : Prop := Claim7.holds Tryd.pinned (.plain (OpenSpec.ofChange linearMoreSpec)) linearMoreCard

/-- THE SECOND FORM's CARD OF 'xclaw9.ReuseTells'. -/
def reuseTellsUptoCard : Claim7 := { stood := { row := reuseTellsUptoRow, standIns := [], harness := (true, "ca3fffe41152b069e65989282f83b1248a6c63b13b50ad3148beed9f2bfe8215"), looks := true }, kinds := [], alts := [], laidByText := true, laidKinds := [.data, .data, .data], laidTests := true, laidLooks := .later }
def ReuseTellsUptoCardSaid : Prop := Claim7.holds Tryd.pinned (.plain (OpenSpec.upto reuseTellsSpec)) reuseTellsUptoCard

/-- THE SECOND FORM's CARD OF 'xclaw9.ReuseFits'. -/
def reuseFitsUptoCard : Claim7 := { stood := { row := reuseFitsUptoRow, standIns := [], harness := (true, "ca3fffe41152b069e65989282f83b1248a6c63b13b50ad3148beed9f2bfe8215"), looks := true }, kinds := [], alts := [], laidByText := true, laidKinds := [.data, .data, .data, .sentinel, .sentinel], laidTests := true, laidLooks := .later }
def ReuseFitsUptoCardSaid : Prop := Claim7.holds Tryd.pinned (.plain (OpenSpec.upto reuseFitsSpec)) reuseFitsUptoCard

/-- THE SECOND FORM's CARD OF 'xclaw11.RunTells'. -/
def runTellsUptoCard : Claim7 := { stood := { row := runTellsUptoRow, standIns := [], harness := (true, "ca3fffe41152b069e65989282f83b1248a6c63b13b50ad3148beed9f2bfe8215"), looks := true }, kinds := [], alts := [], laidByText := true, laidKinds := [.data, .data, .data], laidTests := true, laidLooks := .later }
def RunTellsUptoCardSaid : Prop := Claim7.holds Tryd.pinned (.plain (OpenSpec.upto runTellsSpec)) runTellsUptoCard

/-- THE SECOND FORM's CARD OF 'xclaw7.LinearOnce'. -/
def linearOnceUptoCard : Claim7 := { stood := { row := linearOnceUptoRow, standIns := [], harness := (true, "ca3fffe41152b069e65989282f83b1248a6c63b13b50ad3148beed9f2bfe8215"), looks := true }, kinds := [], alts := [], laidByText := true, laidKinds := [.data, .data, .data], laidTests := true, laidLooks := .later }
def LinearOnceUptoCardSaid : Prop := Claim7.holds Tryd.pinned (.plain (OpenSpec.upto linearOnceSpec)) linearOnceUptoCard

/-- THE SECOND FORM's CARD OF 'xclaw7.LinearLeft'. -/
def linearLeftUptoCard : Claim7 := { stood := { row := linearLeftUptoRow, standIns := [], harness := (true, "ca3fffe41152b069e65989282f83b1248a6c63b13b50ad3148beed9f2bfe8215"), looks := true }, kinds := [], alts := [], laidByText := true, laidKinds := [.data, .data, .data], laidTests := true, laidLooks := .later }
def LinearLeftUptoCardSaid : Prop := Claim7.holds Tryd.pinned (.plain (OpenSpec.upto linearLeftSpec)) linearLeftUptoCard

/-- THE SECOND FORM's CARD OF 'xclaw7.LinearMore'. -/
def linearMoreUptoCard : Claim7 := { stood := { row := linearMoreUptoRow, standIns := [], harness := (true, "ca3fffe41152b069e65989282f83b1248a6c63b13b50ad3148beed9f2bfe8215"), looks := true }, kinds := [], alts := [], laidByText := true, laidKinds := [.data, .data, .data], laidTests := true, laidLooks := .later }
def LinearMoreUptoCardSaid : Prop := Claim7.holds Tryd.pinned (.plain (OpenSpec.upto linearMoreSpec)) linearMoreUptoCard
end Rows
end Go.Proofs.YtjpldhjgehoffaaDoor
