import Derived.Test.YtapiiklnnkkdlaaDoorRows
import Derived.Test.YtapiiklnnkkdlaaDoorOpen
import Derived.Test.YtapiiklnnkkdlaaDoorTextR
import Derived.Test.YtapiiklnnkkdlaaDoorCards
import Derived.Test.YtapiiklnnkkdlaaDoorTie
import Derived.LaidMore
import Derived.Lib.LaidTab
import Derived.Stop.LaidErr
import Derived.Stop.Joined
import Derived.SevenTiedAt
import Derived.ProofKit
import Derived.OpenShut
/-
  What is proved: exactchange/xclaw1.TextJoined returns true, whatever it is handed, and leaves its arguments as they were (the statement as given: no condition of ours).
  The frame of this text was printed by a small program of ours; it is modelled on the seat's proof-skeleton.
-/

namespace Go.Proofs.YtapiiklnnkkdlaaDoor
open Go.ChangeShapes Go.WideShapes Go.ChangeAt Go.RowKit
set_option linter.unusedVariables false
theorem spec_TextJoined (cs : List AV) (h : ArgsRT Tryd.prog [9, 9] cs) : PSpec Tryd.prog 12 cs (fun _ => .d (.bool true)) none := by
  obtain ⟨c, r, rfl, h1, h⟩ := h.cons_inv
  obtain ⟨c2, r, rfl, h2, h⟩ := h.cons_inv
  cases h.nil_inv
  obtain ⟨s, rfl, hs⟩ := h1.str Tryd.underlying9
  obtain ⟨t, rfl, ht⟩ := h2.str Tryd.underlying9
  unfold reachBytes at hs ht
  exact sp_TextJoined s t (by omega) (by omega)

namespace textJoined

theorem own : ownKnob Tryd.prog.godebug = none := by kernel_rfl
theorem plain : plainSet Tryd.prog [4, 9] = true := by kernel_rfl
theorem laid : laidOutB Tryd.prog = true := by kernel_rfl
theorem rowed : ([9, 9] : List TypeId).all (fun t => ([4, 9] : List TypeId).contains t && Tryd.prog.readableRec t && decide (t < Tryd.prog.types.size)) = true := by kernel_rfl

theorem err_star : "*" ++ "errors.errorString" = "*errors.errorString" := by decide
theorem row_err (u : TypeId) (h : Tryd.prog.typeName? 3 u = some "*errors.errorString") : u = 206 :=
  typeName_ptr_named (nm := "errors.errorString") (by rw [err_star]; kernel_rfl) (by kernel_rfl) (by decide) u (by rw [err_star]; exact h)
theorem door_met (os : Os) (args : Array Value) : laidMetH Tryd.prog Rows.textJoinedRow.laid ((World.doorLaid Tryd.prog 400 os).forCall (fun _ _ => 0) ⟨#[], args, []⟩).memory :=
  laidMetH_of_parts3 (fuel := 8) (laidMet_of_run' 8 (by kernel_rfl) (by kernel_rfl)) (by kernel_rfl) (by kernel_rfl)
theorem gi_of_laid {W : World} (h : laidMetH Tryd.prog Rows.textJoinedRow.laid W) : GI W := by
  rw [MakeChecks.laidMetH_plain _ _ _ (by kernel_rfl)] at h
  obtain ⟨a1, s1, hr1, _⟩ := laid_sentinel (nm := "*errors.errorString") (g := 2) (ti := 172) (tp := 206) (te := 208) (ts := 9) h.tail.tail.tail (by kernel_rfl) (by kernel_rfl) Tryd.underlying172 row_err Tryd.underlying206 Tryd.underlying208 rfl rfl Tryd.underlying9 (by kernel_rfl) (by kernel_rfl)
  obtain ⟨a2, s2, hr2, _⟩ := laid_sentinel (nm := "*errors.errorString") (g := 1) (ti := 172) (tp := 206) (te := 208) (ts := 9) h.tail.tail.tail.tail (by kernel_rfl) (by kernel_rfl) Tryd.underlying172 row_err Tryd.underlying206 Tryd.underlying208 rfl rfl Tryd.underlying9 (by kernel_rfl) (by kernel_rfl)
  exact ⟨Lib.tabIs_of_head (g := 0) (by kernel_rfl) (by kernel_rfl) Tryd.underlying192 Tryd.underlying178 (by kernel_rfl) (by kernel_rfl) h.tail.tail, ⟨_, _, hr2⟩, ⟨_, _, hr1⟩⟩

set_option maxRecDepth 100000 in
theorem lifted (os : Os) (started : os.Started) (H : Type) (enc : TypeId × Value → H) :
    ReturnsInHanded {} Tryd.checked os 12 .any (fun w args => (Rows.textJoinedSpec.pre enc Tryd.prog Tryd.f12 [] false w args ∧ laidMetH Tryd.prog Rows.textJoinedRow.laid w) ∧ sizedMet enc Tryd.prog Tryd.f12 (OpenSpec.ofChange Rows.textJoinedSpec) false w args) (Rows.textJoinedSpec.post enc Tryd.prog Tryd.f12 false true false false) := by
  refine returnsInHanded_of_change_and (C := Tryd.checked) (X := fun w _ => laidMetH Tryd.prog Rows.textJoinedRow.laid w) (fun _ _ _ hh h => h.of_heap hh) own started (by kernel_rfl) Tryd.func12
    (ChangeSpec.witness_shaped (enc := enc) (C := Tryd.checked) (os := os) (X := fun w _ => laidMetH Tryd.prog Rows.textJoinedRow.laid w) false (World.doorLaid Tryd.prog 400 os) #[.string ⟨#[]⟩, .string ⟨#[]⟩] 8 rfl (World.shaped_of_RefB (by kernel_rfl) (by kernel_rfl)) (by kernel_rfl) (by kernel_rfl) (by kernel_rfl) (door_met os _)) ?_
  intro W base args ds gs before hval hW _ hw hL _
  have hr := List.all_eq_true.1 rowed
  simp only [Bool.and_eq_true, decide_eq_true_eq] at hr
  refine law_contract (S := [4, 9]) plain (tb := 4) (fn := Tryd.f12) (by rw [Tryd.params12]; exact fun t ht => by simpa using (hr t ht).1.1) rfl (by rfl) Tryd.underlying4 laid (by rw [Tryd.params12]; exact fun t ht => ⟨(hr t ht).1.2, (hr t ht).2⟩) (fun ds hl => ?_) (B := Rows.uptoBulkAll ds) ?_ (Nat.le_refl _) hval hW hw (gi_of_laid hL)
  · rw [Tryd.params12] at hl
    match ds, hl with
    | [d1, d2], _ => rfl
  · rw [Tryd.params12]
    exact fun cs h _ => spec_TextJoined cs h

theorem over : Rows.textJoinedRow.holds Tryd.pinned (OpenSpec.ofChange Rows.textJoinedSpec) :=
  OpenClaim.holds_of_wide 12 Tryd.f12 rfl rfl rfl rfl rfl rfl rfl ⟨rfl, rfl, rfl, rfl, rfl⟩ rfl rfl rfl rfl rfl (by kernel_rfl) Tryd.func12 (by kernel_rfl)
    (of_decide_eq_true (by kernel_rfl)) (by unfold Func.isWrapper; first | (rw [if_pos (by decide +kernel)]; kernel_rfl) | (rw [if_neg (by decide +kernel)]; exact ⟨rfl, rfl⟩))
    (fun os started H enc _ => lifted os started H enc)

theorem cardHolds : Claim7.holds Tryd.pinned (.plain (OpenSpec.ofChange Rows.textJoinedSpec)) Rows.textJoinedCard :=
  Claim7.holds_tied_plain_at .later [] [.data, .data, .data, .sentinel, .sentinel] true (true, "fe2fae6ff82c58dfd0b59c819f53057d7e11849afd26d074d8b73dfbafab4eed") true
    over (fun _ h => by cases h) (by kernel_rfl) (fun _ h => by cases h) textJoined_row_tie rfl ⟨rfl, rfl⟩ (by kernel_rfl) rfl
    (fun f fn hf hfn => by
      obtain rfl : f = 12 := Option.some.inj ((show Tryd.prog.funcNamed "exactchange/xclaw1.TextJoined" = some 12 by kernel_rfl).symm.trans hf) |>.symm
      obtain rfl : fn = Tryd.f12 := (Option.some.inj (Tryd.func12.symm.trans hfn)).symm
      exact ⟨by kernel_rfl, fun j t ht => by
        rw [Tryd.params12] at ht
        have hm : t ∈ ([9, 9] : List TypeId) := by simpa using Array.mem_of_getElem? ht
        have hall : (([9, 9] : List TypeId).all fun u => !Tryd.prog.wantsStandIn u) = true := by kernel_rfl
        exact (show Tryd.prog.wantsStandIn t = false by simpa using List.all_eq_true.1 hall t hm)⟩)
    (by kernel_rfl)

/-- THE STATEMENT -/
theorem proved : Rows.TextJoinedCardSaid :=
  cardHolds
#print axioms proved
end textJoined
end Go.Proofs.YtapiiklnnkkdlaaDoor
