/-
  DERIVED. GIVEN WITH THE SEED: THE CARDS: each row of YtjpldhjgehoffaaGreatDoorRows.lean that lists a variable, with what it lists TIED to the program's text (the seventh form; the later family's looks); each row that meets fmt, with fmt's text TOLD by the authors' own Lean function (tested against real Go, not proved from fmt's source: count such statements apart). THE CARD IS WHAT COUNTS. Prove the row's statement (the work); the ties are given (YtjpldhjgehoffaaGreatDoorTie.lean); close each card by the builder's one call (the guide's Derived/Test/ToyasCard.lean, 'card_holds'). Laid BY PROGRAM, IN A SANDBOX (cutbox-door.mjs). By AI agents, Wed Nov 11 2026. No macro, syntax, notation, axiom, sorry.
-/
import Derived.Test.YtjpldhjgehoffaaGreatDoorRows
import GoSem.ClaimSeven
namespace Go.Proofs.YtjpldhjgehoffaaGreatDoor
namespace Rows

/-- THE TIED CARD OF 'xclaw11.RunSame'. -/
def runSameCard : Claim7 := { stood := { row := runSameRow, standIns := [], harness := (true, "ce02ec2ee3fa66574a2aed4545d0d2043352b54f6990d6bb5a062ad0d772d44b"), looks := true }, kinds := [], alts := [], laidByText := true, laidKinds := [.data, .data, .data, .sentinel, .sentinel], laidTests := true, laidLooks := .later }
def RunSameCardSaid : Prop := Claim7.holds Tryz.pinned (.plain (OpenSpec.ofChange runSameSpec)) runSameCard

/-- THE TIED CARD OF 'xclaw11.RunNone'. -/
def runNoneCard : Claim7 := { stood := { row := runNoneRow, standIns := [], harness := (true, "ce02ec2ee3fa66574a2aed4545d0d2043352b54f6990d6bb5a062ad0d772d44b"), looks := true }, kinds := [], alts := [], laidByText := true, laidKinds := [.data, .data, .data, .sentinel, .sentinel], laidTests := true, laidLooks := .later }
def RunNoneCardSaid : Prop := Claim7.holds Tryz.pinned (.plain (OpenSpec.ofChange runNoneSpec)) runNoneCard

/-- THE TIED CARD OF 'xclaw11.RunRooms'. -/
def runRoomsCard : Claim7 := { stood := { row := runRoomsRow, standIns := [], harness := (true, "ce02ec2ee3fa66574a2aed4545d0d2043352b54f6990d6bb5a062ad0d772d44b"), looks := true }, kinds := [], alts := [], laidByText := true, laidKinds := [.data, .data, .data, .sentinel, .sentinel], laidTests := true, laidLooks := .later }
def RunRoomsCardSaid : Prop := Claim7.holds Tryz.pinned (.plain (OpenSpec.ofChange runRoomsSpec)) runRoomsCard

/-- THE TIED CARD OF 'xclaw9.ReuseKeeps'. -/
def reuseKeepsCard : Claim7 := { stood := { row := reuseKeepsRow, standIns := [], harness := (true, "ce02ec2ee3fa66574a2aed4545d0d2043352b54f6990d6bb5a062ad0d772d44b"), looks := true }, kinds := [], alts := [], laidByText := true, laidKinds := [.data, .data, .data, .sentinel, .sentinel], laidTests := true, laidLooks := .later }
def ReuseKeepsCardSaid : Prop := Claim7.holds Tryz.pinned (.plain (OpenSpec.ofChange reuseKeepsSpec)) reuseKeepsCard

/-- THE TIED CARD OF 'xclaw8.FuseKeeps'. -/
def fuseKeepsCard : Claim7 := { stood := { row := fuseKeepsRow, standIns := [], harness := (true, "ce02ec2ee3fa66574a2aed4545d0d2043352b54f6990d6bb5a062ad0d772d44b"), looks := true }, kinds := [], alts := [], laidByText := true, laidKinds := [.data, .data, .data, .sentinel, .sentinel], laidTests := true, laidLooks := .later }
def FuseKeepsCardSaid : Prop := Claim7.holds Tryz.pinned (.plain (OpenSpec.ofChange fuseKeepsSpec)) fuseKeepsCard

/-- THE SECOND FORM's CARD OF 'xclaw11.RunSame'. -/
def runSameUptoCard : Claim7 := { stood := { row := runSameUptoRow, standIns := [], harness := (true, "ce02ec2ee3fa66574a2aed4545d0d2043352b54f6990d6bb5a062ad0d772d44b"), looks := true }, kinds := [], alts := [], laidByText := true, laidKinds := [.data, .data, .data, .sentinel, .sentinel], laidTests := true, laidLooks := .later }
def RunSameUptoCardSaid : Prop := Claim7.holds Tryz.pinned (.plain (OpenSpec.upto runSameSpec)) runSameUptoCard

/-- THE SECOND FORM's CARD OF 'xclaw11.RunNone'. -/
def runNoneUptoCard : Claim7 := { stood := { row := runNoneUptoRow, standIns := [], harness := (true, "ce02ec2ee3fa66574a2aed4545d0d2043352b54f6990d6bb5a062ad0d772d44b"), looks := true }, kinds := [], alts := [], laidByText := true, laidKinds := [.data, .data, .data, .sentinel, .sentinel], laidTests := true, laidLooks := .later }
def RunNoneUptoCardSaid : Prop := Claim7.holds Tryz.pinned (.plain (OpenSpec.upto runNoneSpec)) runNoneUptoCard

/-- THE SECOND FORM's CARD OF 'xclaw11.RunRooms'. -/
def runRoomsUptoCard : Claim7 := { stood := { row := runRoomsUptoRow, standIns := [], harness := (true, "ce02ec2ee3fa66574a2aed4545d0d2043352b54f6990d6bb5a062ad0d772d44b"), looks := true }, kinds := [], alts := [], laidByText := true, laidKinds := [.data, .data, .data, .sentinel, .sentinel], laidTests := true, laidLooks := .later }
def RunRoomsUptoCardSaid : Prop := Claim7.holds Tryz.pinned (.plain (OpenSpec.upto runRoomsSpec)) runRoomsUptoCard

/-- THE SECOND FORM's CARD OF 'xclaw9.ReuseKeeps'. -/
def reuseKeepsUptoCard : Claim7 := { stood := { row := reuseKeepsUptoRow, standIns := [], harness := (true, "ce02ec2ee3fa66574a2aed4545d0d2043352b54f6990d6bb5a062ad0d772d44b"), looks := true }, kinds := [], alts := [], laidByText := true, laidKinds := [.data, .data, .data, .sentinel, .sentinel], laidTests := true, laidLooks := .later }
def ReuseKeepsUptoCardSaid : Prop := Claim7.holds Tryz.pinned (.plain (OpenSpec.upto reuseKeepsSpec)) reuseKeepsUptoCard

/-- THE SECOND FORM's CARD OF 'xclaw8.FuseKeeps'. -/
def fuseKeepsUptoCard : Claim7 := { stood := { row := fuseKeepsUptoRow, standIns := [], harness := (true, "ce02ec2ee3fa66574a2aed4545d0d2043352b54f6990d6bb5a062ad0d772d44b"), looks := true }, kinds := [], alts := [], laidByText := true, laidKinds := [.data, .data, .data, .sentinel, .sentinel], laidTests := true, laidLooks := .later }
def FuseKeepsUptoCardSaid : Prop := Claim7.holds Tryz.pinned (.plain (OpenSpec.upto fuseKeepsSpec)) fuseKeepsUptoCard
end Rows
end Go.Proofs.YtjpldhjgehoffaaGreatDoor
