/-
  DERIVED. GIVEN WITH THE SEED: THE CARDS: each row of YtialccgjbanmcaaDoorRows.lean that lists a variable, with what it lists TIED to the program's text (the seventh form; the later family's looks); each row that meets fmt, with fmt's text TOLD by the authors' own Lean function (tested against real Go, not proved from fmt's source: count such statements apart). THE CARD IS WHAT COUNTS. Prove the row's statement (the work); the ties are given (YtialccgjbanmcaaDoorTie.lean); close each card by the builder's one call (the guide's Derived/Test/ToyasCard.lean, 'card_holds'). Laid BY PROGRAM, IN A SANDBOX (cutbox-door.mjs). By AI agents, Wed Nov 11 2026. No macro, syntax, notation, axiom, sorry.
-/
import Derived.Test.YtialccgjbanmcaaDoorRows
import GoSem.ClaimSeven
namespace Go.Proofs.YtialccgjbanmcaaDoor
namespace Rows

/-- THE TIED CARD OF 'xclaw9.ReuseTells'. -/
def reuseTellsCard : Claim7 := { stood := { row := reuseTellsRow, standIns := [], harness := (true, "19fd81ab712a9bc4359527c4614852734175f7e3a0ecccdf921ac47a1dae925b"), looks := true }, kinds := [], alts := [], laidByText := true, laidKinds := [.data, .data, .data], laidTests := true, laidLooks := .later }
def ReuseTellsCardSaid : Prop := Claim7.holds Tryd.pinned (.plain (OpenSpec.ofChange reuseTellsSpec)) reuseTellsCard

/-- THE TIED CARD OF 'xclaw8.FuseTells'. -/
def fuseTellsCard : Claim7 := { stood := { row := fuseTellsRow, standIns := [], harness := (true, "19fd81ab712a9bc4359527c4614852734175f7e3a0ecccdf921ac47a1dae925b"), looks := true }, kinds := [], alts := [], laidByText := true, laidKinds := [.data, .data, .data], laidTests := true, laidLooks := .later }
def FuseTellsCardSaid : Prop := Claim7.holds Tryd.pinned (.plain (OpenSpec.ofChange fuseTellsSpec)) fuseTellsCard

/-- THE TIED CARD OF 'xclaw4.NamesTells'. -/
def namesTellsCard : Claim7 := { stood := { row := namesTellsRow, standIns := [], harness := (true, "19fd81ab712a9bc4359527c4614852734175f7e3a0ecccdf921ac47a1dae925b"), looks := true }, kinds := [], alts := [], laidByText := true, laidKinds := [.data, .data, .data], laidTests := true, laidLooks := .later }
def NamesTellsCardSaid : Prop := Claim7.holds Tryd.pinned (.plain (OpenSpec.ofChange namesTellsSpec)) namesTellsCard

/-- THE TIED CARD OF 'xclaw5.PlainTells'. -/
def plainTellsCard : Claim7 := { stood := { row := plainTellsRow, standIns := [], harness := (true, "19fd81ab712a9bc4359527c4614852734175f7e3a0ecccdf921ac47a1dae925b"), looks := true }, kinds := [], alts := [], laidByText := true, laidKinds := [.data, .data, .data], laidTests := true, laidLooks := .later }
def PlainTellsCardSaid : Prop := Claim7.holds Tryd.pinned (.plain (OpenSpec.ofChange plainTellsSpec)) plainTellsCard

/-- THE TIED CARD OF 'xclaw6.OwnTells'. -/
def ownTellsCard : Claim7 := { stood := { row := ownTellsRow, standIns := [], harness := (true, "19fd81ab712a9bc4359527c4614852734175f7e3a0ecccdf921ac47a1dae925b"), looks := true }, kinds := [], alts := [], laidByText := true, laidKinds := [.data, .data, .data], laidTests := true, laidLooks := .later }
def OwnTellsCardSaid : Prop := Claim7.holds Tryd.pinned (.plain (OpenSpec.ofChange ownTellsSpec)) ownTellsCard

/-- THE TIED CARD OF 'xclaw9.ReuseFits'. -/
def reuseFitsCard : Claim7 := { stood := { row := reuseFitsRow, standIns := [], harness := (true, "19fd81ab712a9bc4359527c4614852734175f7e3a0ecccdf921ac47a1dae925b"), looks := true }, kinds := [], alts := [], laidByText := true, laidKinds := [.data, .data, .data, .sentinel, .sentinel], laidTests := true, laidLooks := .later }
def ReuseFitsCardSaid : Prop := Claim7.holds Tryd.pinned (.plain (OpenSpec.ofChange reuseFitsSpec)) reuseFitsCard

/-- THE TIED CARD OF 'xclaw8.FuseOnce'. -/
def fuseOnceCard : Claim7 := { stood := { row := fuseOnceRow, standIns := [], harness := (true, "19fd81ab712a9bc4359527c4614852734175f7e3a0ecccdf921ac47a1dae925b"), looks := true }, kinds := [], alts := [], laidByText := true, laidKinds := [.data, .data, .data, .sentinel, .sentinel], laidTests := true, laidLooks := .later }
def FuseOnceCardSaid : Prop := Claim7.holds Tryd.pinned (.plain (OpenSpec.ofChange fuseOnceSpec)) fuseOnceCard

/-- THE TIED CARD OF 'xclaw4.NamesOnce'. -/
def namesOnceCard : Claim7 := { stood := { row := namesOnceRow, standIns := [], harness := (true, "19fd81ab712a9bc4359527c4614852734175f7e3a0ecccdf921ac47a1dae925b"), looks := true }, kinds := [], alts := [], laidByText := true, laidKinds := [.data, .data, .data, .sentinel, .sentinel], laidTests := true, laidLooks := .later }
def NamesOnceCardSaid : Prop := Claim7.holds Tryd.pinned (.plain (OpenSpec.ofChange namesOnceSpec)) namesOnceCard

/-- THE SECOND FORM's CARD OF 'xclaw9.ReuseTells'. -/
def reuseTellsUptoCard : Claim7 := { stood := { row := reuseTellsUptoRow, standIns := [], harness := (true, "19fd81ab712a9bc4359527c4614852734175f7e3a0ecccdf921ac47a1dae925b"), looks := true }, kinds := [], alts := [], laidByText := true, laidKinds := [.data, .data, .data], laidTests := true, laidLooks := .later }
def ReuseTellsUptoCardSaid : Prop := Claim7.holds Tryd.pinned (.plain (OpenSpec.upto reuseTellsSpec)) reuseTellsUptoCard

/-- THE SECOND FORM's CARD OF 'xclaw8.FuseTells'. -/
def fuseTellsUptoCard : Claim7 := { stood := { row := fuseTellsUptoRow, standIns := [], harness := (true, "19fd81ab712a9bc4359527c4614852734175f7e3a0ecccdf921ac47a1dae925b"), looks := true }, kinds := [], alts := [], laidByText := true, laidKinds := [.data, .data, .data], laidTests := true, laidLooks := .later }
def FuseTellsUptoCardSaid : Prop := Claim7.holds Tryd.pinned (.plain (OpenSpec.upto fuseTellsSpec)) fuseTellsUptoCard

/-- THE SECOND FORM's CARD OF 'xclaw4.NamesTells'. -/
def namesTellsUptoCard : Claim7 := { stood := { row := namesTellsUptoRow, standIns := [], harness := (true, "19fd81ab712a9bc4359527c4614852734175f7e3a0ecccdf921ac47a1dae925b"), looks := true }, kinds := [], alts := [], laidByText := true, laidKinds := [.data, .data, .data], laidTests := true, laidLooks := .later }
def NamesTellsUptoCardSaid : Prop := Claim7.holds Tryd.pinned (.plain (OpenSpec.upto namesTellsSpec)) namesTellsUptoCard

/-- THE SECOND FORM's CARD OF 'xclaw5.PlainTells'. -/
def plainTellsUptoCard : Claim7 := { stood := { row := plainTellsUptoRow, standIns := [], harness := (true, "19fd81ab712a9bc4359527c4614852734175f7e3a0ecccdf921ac47a1dae925b"), looks := true }, kinds := [], alts := [], laidByText := true, laidKinds := [.data, .data, .data], laidTests := true, laidLooks := .later }
def PlainTellsUptoCardSaid : Prop := Claim7.holds Tryd.pinned (.plain (OpenSpec.upto plainTellsSpec)) plainTellsUptoCard

/-- THE SECOND FORM's CARD OF 'xclaw6.OwnTells'. -/
def ownTellsUptoCard : Claim7 := { stood := { row := ownTellsUptoRow, standIns := [], harness := (true, "19fd81ab712a9bc4359527c4614852734175f7e3a0ecccdf921ac47a1dae925b"), looks := true }, kinds := [], alts := [], laidByText := true, laidKinds := [.data, .data, .data], laidTests := true, laidLooks := .later }
def OwnTellsUptoCardSaid : Prop := Claim7.holds Tryd.pinned (.plain (OpenSpec.upto ownTellsSpec)) ownTellsUptoCard

/-- THE SECOND FORM's CARD OF 'xclaw9.ReuseFits'. -/
def reuseFitsUptoCard : Claim7 := { stood := { row := reuseFitsUptoRow, standIns := [], harness := (true, "19fd81ab712a9bc4359527c4614852734175f7e3a0ecccdf921ac47a1dae925b"), looks := true }, kinds := [], alts := [], laidByText := true, laidKinds := [.data, .data, .data, .sentinel, .sentinel], laidTests := true, laidLooks := .later }
def ReuseFitsUptoCardSaid : Prop := Claim7.holds Tryd.pinned (.plain (OpenSpec.upto reuseFitsSpec)) reuseFitsUptoCard

/-- THE SECOND FORM's CARD OF 'xclaw8.FuseOnce'. -/
def fuseOnceUptoCard : Claim7 := { stood := { row := fuseOnceUptoRow, standIns := [], harness := (true, "19fd81ab712a9bc4359527c4614852734175f7e3a0ecccdf921ac47a1dae925b"), looks := true }, kinds := [], alts := [], laidByText := true, laidKinds := [.data, .data, .data, .sentinel, .sentinel], laidTests := true, laidLooks := .later }
def FuseOnceUptoCardSaid : Prop := Claim7.holds Tryd.pinned (.plain (OpenSpec.upto fuseOnceSpec)) fuseOnceUptoCard

/-- THE SECOND FORM's CARD OF 'xclaw4.NamesOnce'. -/
def namesOnceUptoCard : Claim7 := { stood := { row := namesOnceUptoRow, standIns := [], harness := (true, "19fd81ab712a9bc4359527c4614852734175f7e3a0ecccdf921ac47a1dae925b"), looks := true }, kinds := [], alts := [], laidByText := true, laidKinds := [.data, .data, .data, .sentinel, .sentinel], laidTests := true, laidLooks := .later }
def NamesOnceUptoCardSaid : Prop := Claim7.holds Tryd.pinned (.plain (OpenSpec.upto namesOnceSpec)) namesOnceUptoCard
end Rows
end Go.Proofs.YtialccgjbanmcaaDoor
