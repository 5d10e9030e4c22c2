/-
  DERIVED. GIVEN WITH THE SEED: THE CARDS: each row of YtapiiklnnkkdlaaDoorRows.lean that lists a variable, with what it lists TIED to the program's text (the seventh form; the later family's looks); each row that meets fmt, with fmt's text TOLD by the authors' own Lean function (tested against real Go, not proved from fmt's source: count such statements apart). THE CARD IS WHAT COUNTS. Prove the row's statement (the work); the ties are given (YtapiiklnnkkdlaaDoorTie.lean); close each card by the builder's one call (the guide's Derived/Test/ToyasCard.lean, 'card_holds'). Laid BY PROGRAM, IN A SANDBOX (cutbox-door.mjs). By AI agents, Wed Nov 11 2026. No macro, syntax, notation, axiom, sorry.
-/
import Derived.Test.YtapiiklnnkkdlaaDoorRows
import GoSem.ClaimSeven
namespace Go.Proofs.YtapiiklnnkkdlaaDoor
namespace Rows

/-- THE TIED CARD OF 'xclaw8.FuseOnce'. -/
def fuseOnceCard : Claim7 := { stood := { row := fuseOnceRow, standIns := [], harness := (true, "fe2fae6ff82c58dfd0b59c819f53057d7e11849afd26d074d8b73dfbafab4eed"), looks := true }, kinds := [], alts := [], laidByText := true, laidKinds := [.data, .data, .data, .sentinel, .sentinel], laidTests := true, laidLooks := .later }
def FuseOnceCardSaid : Prop := Claim7.holds Tryd.pinned (.plain (OpenSpec.ofChange fuseOnceSpec)) fuseOnceCard

/-- THE TIED CARD OF 'xclaw4.NamesOnce'. -/
def namesOnceCard : Claim7 := { stood := { row := namesOnceRow, standIns := [], harness := (true, "fe2fae6ff82c58dfd0b59c819f53057d7e11849afd26d074d8b73dfbafab4eed"), looks := true }, kinds := [], alts := [], laidByText := true, laidKinds := [.data, .data, .data, .sentinel, .sentinel], laidTests := true, laidLooks := .later }
def NamesOnceCardSaid : Prop := Claim7.holds Tryd.pinned (.plain (OpenSpec.ofChange namesOnceSpec)) namesOnceCard

/-- THE TIED CARD OF 'xclaw5.PlainNeeds'. -/
def plainNeedsCard : Claim7 := { stood := { row := plainNeedsRow, standIns := [], harness := (true, "fe2fae6ff82c58dfd0b59c819f53057d7e11849afd26d074d8b73dfbafab4eed"), looks := true }, kinds := [], alts := [], laidByText := true, laidKinds := [.data, .data, .data, .sentinel, .sentinel], laidTests := true, laidLooks := .later }
def PlainNeedsCardSaid : Prop := Claim7.holds Tryd.pinned (.plain (OpenSpec.ofChange plainNeedsSpec)) plainNeedsCard

/-- THE TIED CARD OF 'xclaw3.EvalFuel'. -/
def evalFuelCard : Claim7 := { stood := { row := evalFuelRow, standIns := [], harness := (true, "fe2fae6ff82c58dfd0b59c819f53057d7e11849afd26d074d8b73dfbafab4eed"), looks := true }, kinds := [], alts := [], laidByText := true, laidKinds := [.data, .data, .data, .sentinel, .sentinel], laidTests := true, laidLooks := .later }
def EvalFuelCardSaid : Prop := Claim7.holds Tryd.pinned (.plain (OpenSpec.ofChange evalFuelSpec)) evalFuelCard

/-- THE TIED CARD OF 'xclaw3.EvalUnused'. -/
def evalUnusedCard : Claim7 := { stood := { row := evalUnusedRow, standIns := [], harness := (true, "fe2fae6ff82c58dfd0b59c819f53057d7e11849afd26d074d8b73dfbafab4eed"), looks := true }, kinds := [], alts := [], laidByText := true, laidKinds := [.data, .data, .data, .sentinel, .sentinel], laidTests := true, laidLooks := .later }
def EvalUnusedCardSaid : Prop := Claim7.holds Tryd.pinned (.plain (OpenSpec.ofChange evalUnusedSpec)) evalUnusedCard

/-- THE TIED CARD OF 'xclaw6.OwnErase'. -/
def ownEraseCard : Claim7 := { stood := { row := ownEraseRow, standIns := [], harness := (true, "fe2fae6ff82c58dfd0b59c819f53057d7e11849afd26d074d8b73dfbafab4eed"), looks := true }, kinds := [], alts := [], laidByText := true, laidKinds := [.data, .data, .data, .sentinel, .sentinel], laidTests := true, laidLooks := .later }
def OwnEraseCardSaid : Prop := Claim7.holds Tryd.pinned (.plain (OpenSpec.ofChange ownEraseSpec)) ownEraseCard

/-- THE TIED CARD OF 'xclaw6.OwnFirst'. -/
def ownFirstCard : Claim7 := { stood := { row := ownFirstRow, standIns := [], harness := (true, "fe2fae6ff82c58dfd0b59c819f53057d7e11849afd26d074d8b73dfbafab4eed"), looks := true }, kinds := [], alts := [], laidByText := true, laidKinds := [.data, .data, .data, .sentinel, .sentinel], laidTests := true, laidLooks := .later }
def OwnFirstCardSaid : Prop := Claim7.holds Tryd.pinned (.plain (OpenSpec.ofChange ownFirstSpec)) ownFirstCard

/-- THE TIED CARD OF 'xclaw1.TextTells'. -/
def textTellsCard : Claim7 := { stood := { row := textTellsRow, standIns := [], harness := (true, "fe2fae6ff82c58dfd0b59c819f53057d7e11849afd26d074d8b73dfbafab4eed"), looks := true }, kinds := [], alts := [], laidByText := true, laidKinds := [.data, .data, .data, .sentinel, .sentinel], laidTests := true, laidLooks := .later }
def TextTellsCardSaid : Prop := Claim7.holds Tryd.pinned (.plain (OpenSpec.ofChange textTellsSpec)) textTellsCard

/-- THE TIED CARD OF 'xclaw1.TextTurns'. -/
def textTurnsCard : Claim7 := { stood := { row := textTurnsRow, standIns := [], harness := (true, "fe2fae6ff82c58dfd0b59c819f53057d7e11849afd26d074d8b73dfbafab4eed"), looks := true }, kinds := [], alts := [], laidByText := true, laidKinds := [.data, .data, .data, .sentinel, .sentinel], laidTests := true, laidLooks := .later }
def TextTurnsCardSaid : Prop := Claim7.holds Tryd.pinned (.plain (OpenSpec.ofChange textTurnsSpec)) textTurnsCard

/-- THE TIED CARD OF 'xclaw1.TextJoined'. -/
def textJoinedCard : Claim7 := { stood := { row := textJoinedRow, standIns := [], harness := (true, "fe2fae6ff82c58dfd0b59c819f53057d7e11849afd26d074d8b73dfbafab4eed"), looks := true }, kinds := [], alts := [], laidByText := true, laidKinds := [.data, .data, .data, .sentinel, .sentinel], laidTests := true, laidLooks := .later }
def TextJoinedCardSaid : Prop := Claim7.holds Tryd.pinned (.plain (OpenSpec.ofChange textJoinedSpec)) textJoinedCard

/-- THE TIED CARD OF 'xclaw4.NamesSame'. -/
def namesSameCard : Claim7 := { stood := { row := namesSameRow, standIns := [], harness := (true, "fe2fae6ff82c58dfd0b59c819f53057d7e11849afd26d074d8b73dfbafab4eed"), looks := true }, kinds := [], alts := [], laidByText := true, laidKinds := [.data, .data, .data, .sentinel, .sentinel], laidTests := true, laidLooks := .later }
def NamesSameCardSaid : Prop := Claim7.holds Tryd.pinned (.plain (OpenSpec.ofChange namesSameSpec)) namesSameCard

/-- THE TIED CARD OF 'xclaw5.PlainSame'. -/
def plainSameCard : Claim7 := { stood := { row := plainSameRow, standIns := [], harness := (true, "fe2fae6ff82c58dfd0b59c819f53057d7e11849afd26d074d8b73dfbafab4eed"), looks := true }, kinds := [], alts := [], laidByText := true, laidKinds := [.data, .data, .data, .sentinel, .sentinel], laidTests := true, laidLooks := .later }
def PlainSameCardSaid : Prop := Claim7.holds Tryd.pinned (.plain (OpenSpec.ofChange plainSameSpec)) plainSameCard

/-- THE SECOND FORM's CARD OF 'xclaw8.FuseOnce'. -/
def fuseOnceUptoCard : Claim7 := { stood := { row := fuseOnceUptoRow, standIns := [], harness := (true, "fe2fae6ff82c58dfd0b59c819f53057d7e11849afd26d074d8b73dfbafab4eed"), looks := true }, kinds := [], alts := [], laidByText := true, laidKinds := [.data, .data, .data, .sentinel, .sentinel], laidTests := true, laidLooks := .later }
def FuseOnceUptoCardSaid : Prop := Claim7.holds Tryd.pinned (.plain (OpenSpec.upto fuseOnceSpec)) fuseOnceUptoCard

/-- THE SECOND FORM's CARD OF 'xclaw4.NamesOnce'. -/
def namesOnceUptoCard : Claim7 := { stood := { row := namesOnceUptoRow, standIns := [], harness := (true, "fe2fae6ff82c58dfd0b59c819f53057d7e11849afd26d074d8b73dfbafab4eed"), looks := true }, kinds := [], alts := [], laidByText := true, laidKinds := [.data, .data, .data, .sentinel, .sentinel], laidTests := true, laidLooks := .later }
def NamesOnceUptoCardSaid : Prop := Claim7.holds Tryd.pinned (.plain (OpenSpec.upto namesOnceSpec)) namesOnceUptoCard

/-- THE SECOND FORM's CARD OF 'xclaw5.PlainNeeds'. -/
def plainNeedsUptoCard : Claim7 := { stood := { row := plainNeedsUptoRow, standIns := [], harness := (true, "fe2fae6ff82c58dfd0b59c819f53057d7e11849afd26d074d8b73dfbafab4eed"), looks := true }, kinds := [], alts := [], laidByText := true, laidKinds := [.data, .data, .data, .sentinel, .sentinel], laidTests := true, laidLooks := .later }
def PlainNeedsUptoCardSaid : Prop := Claim7.holds Tryd.pinned (.plain (OpenSpec.upto plainNeedsSpec)) plainNeedsUptoCard

/-- THE SECOND FORM's CARD OF 'xclaw3.EvalFuel'. -/
def evalFuelUptoCard : Claim7 := { stood := { row := evalFuelUptoRow, standIns := [], harness := (true, "fe2fae6ff82c58dfd0b59c819f53057d7e11849afd26d074d8b73dfbafab4eed"), looks := true }, kinds := [], alts := [], laidByText := true, laidKinds := [.data, .data, .data, .sentinel, .sentinel], laidTests := true, laidLooks := .later }
def EvalFuelUptoCardSaid : Prop := Claim7.holds Tryd.pinned (.plain (OpenSpec.upto evalFuelSpec)) evalFuelUptoCard

/-- THE SECOND FORM's CARD OF 'xclaw3.EvalUnused'. -/
def evalUnusedUptoCard : Claim7 := { stood := { row := evalUnusedUptoRow, standIns := [], harness := (true, "fe2fae6ff82c58dfd0b59c819f53057d7e11849afd26d074d8b73dfbafab4eed"), looks := true }, kinds := [], alts := [], laidByText := true, laidKinds := [.data, .data, .data, .sentinel, .sentinel], laidTests := true, laidLooks := .later }
def EvalUnusedUptoCardSaid : Prop := Claim7.holds Tryd.pinned (.plain (OpenSpec.upto evalUnusedSpec)) evalUnusedUptoCard

/-- THE SECOND FORM's CARD OF 'xclaw6.OwnErase'. -/
def ownEraseUptoCard : Claim7 := { stood := { row := ownEraseUptoRow, standIns := [], harness := (true, "fe2fae6ff82c58dfd0b59c819f53057d7e11849afd26d074d8b73dfbafab4eed"), looks := true }, kinds := [], alts := [], laidByText := true, laidKinds := [.data, .data, .data, .sentinel, .sentinel], laidTests := true, laidLooks := .later }
def OwnEraseUptoCardSaid : Prop := Claim7.holds Tryd.pinned (.plain (OpenSpec.upto ownEraseSpec)) ownEraseUptoCard

/-- THE SECOND FORM's CARD OF 'xclaw6.OwnFirst'. -/
def ownFirstUptoCard : Claim7 := { stood := { row := ownFirstUptoRow, standIns := [], harness := (true, "fe2fae6ff82c58dfd0b59c819f53057d7e11849afd26d074d8b73dfbafab4eed"), looks := true }, kinds := [], alts := [], laidByText := true, laidKinds := [.data, .data, .data, .sentinel, .sentinel], laidTests := true, laidLooks := .later }
def OwnFirstUptoCardSaid : Prop := Claim7.holds Tryd.pinned (.plain (OpenSpec.upto ownFirstSpec)) ownFirstUptoCard

/-- THE SECOND FORM's CARD OF 'xclaw1.TextTells'. -/
def textTellsUptoCard : Claim7 := { stood := { row := textTellsUptoRow, standIns := [], harness := (true, "fe2fae6ff82c58dfd0b59c819f53057d7e11849afd26d074d8b73dfbafab4eed"), looks := true }, kinds := [], alts := [], laidByText := true, laidKinds := [.data, .data, .data, .sentinel, .sentinel], laidTests := true, laidLooks := .later }
def TextTellsUptoCardSaid : Prop := Claim7.holds Tryd.pinned (.plain (OpenSpec.upto textTellsSpec)) textTellsUptoCard

/-- THE SECOND FORM's CARD OF 'xclaw1.TextTurns'. -/
def textTurnsUptoCard : Claim7 := { stood := { row := textTurnsUptoRow, standIns := [], harness := (true, "fe2fae6ff82c58dfd0b59c819f53057d7e11849afd26d074d8b73dfbafab4eed"), looks := true }, kinds := [], alts := [], laidByText := true, laidKinds := [.data, .data, .data, .sentinel, .sentinel], laidTests := true, laidLooks := .later }
def TextTurnsUptoCardSaid : Prop := Claim7.holds Tryd.pinned (.plain (OpenSpec.upto textTurnsSpec)) textTurnsUptoCard

/-- THE SECOND FORM's CARD OF 'xclaw1.TextJoined'. -/
def textJoinedUptoCard : Claim7 := { stood := { row := textJoinedUptoRow, standIns := [], harness := (true, "fe2fae6ff82c58dfd0b59c819f53057d7e11849afd26d074d8b73dfbafab4eed"), looks := true }, kinds := [], alts := [], laidByText := true, laidKinds := [.data, .data, .data, .sentinel, .sentinel], laidTests := true, laidLooks := .later }
def TextJoinedUptoCardSaid : Prop := Claim7.holds Tryd.pinned (.plain (OpenSpec.upto textJoinedSpec)) textJoinedUptoCard

/-- THE SECOND FORM's CARD OF 'xclaw4.NamesSame'. -/
def namesSameUptoCard : Claim7 := { stood := { row := namesSameUptoRow, standIns := [], harness := (true, "fe2fae6ff82c58dfd0b59c819f53057d7e11849afd26d074d8b73dfbafab4eed"), looks := true }, kinds := [], alts := [], laidByText := true, laidKinds := [.data, .data, .data, .sentinel, .sentinel], laidTests := true, laidLooks := .later }
def NamesSameUptoCardSaid : Prop := Claim7.holds Tryd.pinned (.plain (OpenSpec.upto namesSameSpec)) namesSameUptoCard

/-- THE SECOND FORM's CARD OF 'xclaw5.PlainSame'. -/
def plainSameUptoCard : Claim7 := { stood := { row := plainSameUptoRow, standIns := [], harness := (true, "fe2fae6ff82c58dfd0b59c819f53057d7e11849afd26d074d8b73dfbafab4eed"), looks := true }, kinds := [], alts := [], laidByText := true, laidKinds := [.data, .data, .data, .sentinel, .sentinel], laidTests := true, laidLooks := .later }
def PlainSameUptoCardSaid : Prop := Claim7.holds Tryd.pinned (.plain (OpenSpec.upto plainSameSpec)) plainSameUptoCard
end Rows
end Go.Proofs.YtapiiklnnkkdlaaDoor
