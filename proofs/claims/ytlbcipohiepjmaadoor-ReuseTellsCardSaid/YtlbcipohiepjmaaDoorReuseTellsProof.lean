import Derived.Test.YtlbcipohiepjmaaDoorMakerD
import Derived.Test.YtlbcipohiepjmaaDoorCards
import Derived.Test.YtlbcipohiepjmaaDoorTie
import Derived.LaidMore
import Derived.Stop.LaidErr
import Derived.Stop.Joined
import Derived.SevenTiedAt
/-
  What is proved: exactchange/xclaw9.ReuseTells returns true, whatever it is handed, and leaves its arguments as they were (the statement as given: no condition of ours).
  The frame of this text was printed by a small program of ours; it is modelled on the seat's proof-skeleton.
-/
namespace Go.Proofs.YtlbcipohiepjmaaDoor
open Go.ChangeShapes Go.WideShapes Go.ChangeAt Go.RowKit
set_option linter.unusedVariables false
theorem spec_ReuseTells (cs : List AV) (h : Qf Tryd.prog [22] cs) : Qv Tryd.prog 3 cs (fun _ => .d (.bool true)) none := by
  obtain ⟨c, r, rfl, h1, h⟩ := h.cons_inv
  cases h.nil_inv
  obtain ⟨l, rfl, hl⟩ := fns_inv h1
  exact sp_ReuseTells l hl
namespace reuseTells
theorem own : ownKnob Tryd.prog.godebug = none := by kernel_rfl
theorem plain : plainSet Tryd.prog [3, 4, 9, 22, 28, 29, 30, 32, 34, 42] = true := by kernel_rfl
theorem laid : laidOutB Tryd.prog = true := by kernel_rfl
theorem rowed : ([22] : List TypeId).all (fun t => ([3, 4, 9, 22, 28, 29, 30, 32, 34, 42] : List TypeId).contains t && Tryd.prog.readableRec t && decide (t < Tryd.prog.types.size)) = true := by kernel_rfl
theorem door_met (os : Os) (args : Array Value) : laidMetH Tryd.prog Rows.reuseTellsRow.laid ((World.doorLaid Tryd.prog 400 os).forCall (fun _ _ => 0) ⟨#[], args, []⟩).memory :=
  laidMetH_of_parts3 (fuel := 8) (laidMet_of_run' 8 (by kernel_rfl) (by kernel_rfl)) (by kernel_rfl) (by kernel_rfl)
theorem gi_of_laid {W : World} (h : laidMetH Tryd.prog Rows.reuseTellsRow.laid W) : GI W := by
  rw [MakeChecks.laidMetH_plain _ _ _ (by kernel_rfl)] at h
  exact Lib.tabIs_of_head (g := 0) (by kernel_rfl) (by kernel_rfl) Tryd.underlying116 Tryd.underlying107 (by kernel_rfl) (by kernel_rfl) h.tail.tail
set_option maxRecDepth 100000 in
theorem lifted (os : Os) (started : os.Started) (H : Type) (enc : TypeId × Value → H) :
    ReturnsInHanded {} Tryd.checked os 3 .any (fun w args => (Rows.reuseTellsSpec.pre enc Tryd.prog Tryd.f3 [] false w args ∧ laidMetH Tryd.prog Rows.reuseTellsRow.laid w) ∧ sizedMet enc Tryd.prog Tryd.f3 (OpenSpec.ofChange Rows.reuseTellsSpec) false w args) (Rows.reuseTellsSpec.post enc Tryd.prog Tryd.f3 false true false false) := by
  refine returnsInHanded_of_change_and (C := Tryd.checked) (X := fun w _ => laidMetH Tryd.prog Rows.reuseTellsRow.laid w) (fun _ _ _ hh h => h.of_heap hh) own started (by kernel_rfl) Tryd.func3
    (ChangeSpec.witness_shaped (enc := enc) (C := Tryd.checked) (os := os) (X := fun w _ => laidMetH Tryd.prog Rows.reuseTellsRow.laid w) false (World.doorLaid Tryd.prog 400 os) #[.slice none 0 0] 8 rfl (World.shaped_of_RefB (by kernel_rfl) (by kernel_rfl)) (by kernel_rfl) (by kernel_rfl) (by kernel_rfl) (door_met os _)) ?_
  intro W base args ds gs before hval hW _ hw hL _
  have hr := List.all_eq_true.1 rowed
  simp only [Bool.and_eq_true, decide_eq_true_eq] at hr
  refine law_contract (S := [3, 4, 9, 22, 28, 29, 30, 32, 34, 42]) plain (tb := 4) (fn := Tryd.f3) (by rw [Tryd.params3]; exact fun t ht => by simpa using (hr t ht).1.1) rfl (by rfl) Tryd.underlying4 laid (by rw [Tryd.params3]; exact fun t ht => ⟨(hr t ht).1.2, (hr t ht).2⟩) (fun ds hl => ?_) (B := Rows.uptoBulkAll ds) ?_ (Nat.le_refl _) hval hW hw (gi_of_laid hL)
  · rw [Tryd.params3] at hl
    match ds, hl with
    | [d1], _ => rfl
  · rw [Tryd.params3]
    exact fun cs h _ => spec_ReuseTells cs h
theorem over : Rows.reuseTellsRow.holds Tryd.pinned (OpenSpec.ofChange Rows.reuseTellsSpec) :=
  OpenClaim.holds_of_wide 3 Tryd.f3 rfl rfl rfl rfl rfl rfl rfl ⟨rfl, rfl, rfl, rfl, rfl⟩ rfl rfl rfl rfl rfl (by kernel_rfl) Tryd.func3 (by kernel_rfl)
    (of_decide_eq_true (by kernel_rfl)) (by unfold Func.isWrapper; first | (rw [if_pos (by decide +kernel)]; kernel_rfl) | (rw [if_neg (by decide +kernel)]; exact ⟨rfl, rfl⟩))
    (fun os started H enc _ => lifted os started H enc)
theorem cardHolds : Claim7.holds Tryd.pinned (.plain (OpenSpec.ofChange Rows.reuseTellsSpec)) Rows.reuseTellsCard :=
  Claim7.holds_tied_plain_at .later [] [.data, .data, .data] true (true, "871234c87a918fc03be79fa7a183bb8c3803c21a5b6373e1d97a8b18f62009b5") true
    over (fun _ h => by cases h) (by kernel_rfl) (fun _ h => by cases h) reuseTells_row_tie rfl ⟨rfl, rfl⟩ (by kernel_rfl) rfl
    (fun f fn hf hfn => by
      obtain rfl : f = 3 := Option.some.inj ((show Tryd.prog.funcNamed "exactchange/xclaw9.ReuseTells" = some 3 by kernel_rfl).symm.trans hf) |>.symm
      obtain rfl : fn = Tryd.f3 := (Option.some.inj (Tryd.func3.symm.trans hfn)).symm
      exact ⟨by kernel_rfl, fun j t ht => by
        rw [Tryd.params3] at ht
        have hm : t ∈ ([22] : List TypeId) := by simpa using Array.mem_of_getElem? ht
        have hall : (([22] : List TypeId).all fun u => !Tryd.prog.wantsStandIn u) = true := by kernel_rfl
        exact (show Tryd.prog.wantsStandIn t = false by simpa using List.all_eq_true.1 hall t hm)⟩)
    (by kernel_rfl)
/-- THE STATEMENT -/
theorem proved : Rows.ReuseTellsCardSaid :=
  cardHolds
#print axioms proved
end reuseTells
end Go.Proofs.YtlbcipohiepjmaaDoor
