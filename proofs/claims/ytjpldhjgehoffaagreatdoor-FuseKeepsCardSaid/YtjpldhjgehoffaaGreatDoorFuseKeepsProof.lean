import Derived.Test.YtjpldhjgehoffaaGreatDoorRows
import Derived.Test.YtjpldhjgehoffaaGreatDoorOpen
import Derived.Test.YtjpldhjgehoffaaGreatDoorFuseL
import Derived.Test.YtjpldhjgehoffaaGreatDoorCards
import Derived.Test.YtjpldhjgehoffaaGreatDoorTie
import Derived.LaidMore
import Derived.Lib.LaidTab
import Derived.Stop.LaidErr
import Derived.Stop.Joined
import Derived.SevenTiedAt
import Derived.ProofKit
import Derived.OpenShut
/-
  What is proved: exactchange/xclaw8.FuseKeeps returns true, whatever it is handed, and leaves its arguments as they were (the statement as given: no condition of ours).
  The frame of this text was printed by a small program of ours; it is modelled on the seat's proof-skeleton.
-/
namespace Go.Proofs.YtjpldhjgehoffaaGreatDoor
open Go.ChangeShapes Go.WideShapes Go.ChangeAt Go.RowKit
set_option linter.unusedVariables false
theorem spec_FuseKeeps (cs : List AV) (h : Qv7 Tryz.prog [22] cs) : Z4 Tryz.prog 7 cs (fun _ => .d (.bool true)) none := by
  obtain ⟨c, r, rfl, h1, h⟩ := h.cons_inv
  cases h.nil_inv
  obtain ⟨l, rfl, hl⟩ := fns_inv h1
  exact sp_FuseKeeps l hl
namespace fuseKeeps
theorem own : ownKnob Tryz.prog.godebug = none := by kernel_rfl
theorem plain : plainSet Tryz.prog [3, 4, 9, 22, 41, 42, 43, 45, 47, 90] = true := by kernel_rfl
theorem laid : laidOutB Tryz.prog = true := by kernel_rfl
theorem rowed : ([22] : List TypeId).all (fun t => ([3, 4, 9, 22, 41, 42, 43, 45, 47, 90] : List TypeId).contains t && Tryz.prog.readableRec t && decide (t < Tryz.prog.types.size)) = true := by kernel_rfl
theorem err_star : "*" ++ "errors.errorString" = "*errors.errorString" := by decide
theorem row_err (u : TypeId) (h : Tryz.prog.typeName? 3 u = some "*errors.errorString") : u = 248 :=
  typeName_ptr_named (nm := "errors.errorString") (by rw [err_star]; kernel_rfl) (by kernel_rfl) (by decide) u (by rw [err_star]; exact h)
theorem door_met (os : Os) (args : Array Value) : laidMetH Tryz.prog Rows.fuseKeepsRow.laid ((World.doorLaid Tryz.prog 400 os).forCall (fun _ _ => 0) ⟨#[], args, []⟩).memory :=
  laidMetH_of_parts3 (fuel := 8) (laidMet_of_run' 8 (by kernel_rfl) (by kernel_rfl)) (by kernel_rfl) (by kernel_rfl)
theorem gi_of_laid {W : World} (h : laidMetH Tryz.prog Rows.fuseKeepsRow.laid W) : GI W := by
  rw [MakeChecks.laidMetH_plain _ _ _ (by kernel_rfl)] at h
  obtain ⟨a1, s1, hr1, _⟩ := laid_sentinel (nm := "*errors.errorString") (g := 2) (ti := 167) (tp := 248) (te := 250) (ts := 9) h.tail.tail.tail (by kernel_rfl) (by kernel_rfl) Tryz.underlying167 row_err Tryz.underlying248 Tryz.underlying250 rfl rfl Tryz.underlying9 (by kernel_rfl) (by kernel_rfl)
  obtain ⟨a2, s2, hr2, _⟩ := laid_sentinel (nm := "*errors.errorString") (g := 1) (ti := 167) (tp := 248) (te := 250) (ts := 9) h.tail.tail.tail.tail (by kernel_rfl) (by kernel_rfl) Tryz.underlying167 row_err Tryz.underlying248 Tryz.underlying250 rfl rfl Tryz.underlying9 (by kernel_rfl) (by kernel_rfl)
  exact ⟨Lib.tabIs_of_head (g := 0) (by kernel_rfl) (by kernel_rfl) Tryz.underlying221 Tryz.underlying203 (by kernel_rfl) (by kernel_rfl) h.tail.tail, ⟨_, _, hr2⟩, ⟨_, _, hr1⟩⟩
set_option maxRecDepth 100000 in
theorem lifted (os : Os) (started : os.Started) (H : Type) (enc : TypeId × Value → H) :
    ReturnsInHanded {} Tryz.checked os 7 .any (fun w args => (Rows.fuseKeepsSpec.pre enc Tryz.prog Tryz.f7 [] false w args ∧ laidMetH Tryz.prog Rows.fuseKeepsRow.laid w) ∧ sizedMet enc Tryz.prog Tryz.f7 (OpenSpec.ofChange Rows.fuseKeepsSpec) false w args) (Rows.fuseKeepsSpec.post enc Tryz.prog Tryz.f7 false true false false) := by
  refine returnsInHanded_of_change_and (C := Tryz.checked) (X := fun w _ => laidMetH Tryz.prog Rows.fuseKeepsRow.laid w) (fun _ _ _ hh h => h.of_heap hh) own started (by kernel_rfl) Tryz.func7
    (ChangeSpec.witness_shaped (enc := enc) (C := Tryz.checked) (os := os) (X := fun w _ => laidMetH Tryz.prog Rows.fuseKeepsRow.laid w) false (World.doorLaid Tryz.prog 400 os) #[.slice none 0 0] 8 rfl (World.shaped_of_RefB (by kernel_rfl) (by kernel_rfl)) (by kernel_rfl) (by kernel_rfl) (by kernel_rfl) (door_met os _)) ?_
  intro W base args ds gs before hval hW _ hw hL _
  have hr := List.all_eq_true.1 rowed
  simp only [Bool.and_eq_true, decide_eq_true_eq] at hr
  refine law_contract (S := [3, 4, 9, 22, 41, 42, 43, 45, 47, 90]) plain (tb := 4) (fn := Tryz.f7) (by rw [Tryz.params7]; exact fun t ht => by simpa using (hr t ht).1.1) rfl (by rfl) Tryz.underlying4 laid (by rw [Tryz.params7]; exact fun t ht => ⟨(hr t ht).1.2, (hr t ht).2⟩) (fun ds hl => ?_) (B := Rows.uptoBulkAll ds) ?_ (Nat.le_refl _) hval hW hw (gi_of_laid hL)
  · rw [Tryz.params7] at hl
    match ds, hl with
    | [d1], _ => rfl
  · rw [Tryz.params7]
    exact fun cs h _ => spec_FuseKeeps cs h
theorem over : Rows.fuseKeepsRow.holds Tryz.pinned (OpenSpec.ofChange Rows.fuseKeepsSpec) :=
  OpenClaim.holds_of_wide 7 Tryz.f7 rfl rfl rfl rfl rfl rfl rfl ⟨rfl, rfl, rfl, rfl, rfl⟩ rfl rfl rfl rfl rfl (by kernel_rfl) Tryz.func7 (by kernel_rfl)
    (of_decide_eq_true (by kernel_rfl)) (by unfold Func.isWrapper; first | (rw [if_pos (by decide +kernel)]; kernel_rfl) | (rw [if_neg (by decide +kernel)]; exact ⟨rfl, rfl⟩))
    (fun os started H enc _ => lifted os started H enc)
theorem cardHolds : Claim7.holds Tryz.pinned (.plain (OpenSpec.ofChange Rows.fuseKeepsSpec)) Rows.fuseKeepsCard :=
  Claim7.holds_tied_plain_at .later [] [.data, .data, .data, .sentinel, .sentinel] true (true, "ce02ec2ee3fa66574a2aed4545d0d2043352b54f6990d6bb5a062ad0d772d44b") true
    over (fun _ h => by cases h) (by kernel_rfl) (fun _ h => by cases h) fuseKeeps_row_tie rfl ⟨rfl, rfl⟩ (by kernel_rfl) rfl
    (fun f fn hf hfn => by
      obtain rfl : f = 7 := Option.some.inj ((show Tryz.prog.funcNamed "exactchange/xclaw8.FuseKeeps" = some 7 by kernel_rfl).symm.trans hf) |>.symm
      obtain rfl : fn = Tryz.f7 := (Option.some.inj (Tryz.func7.symm.trans hfn)).symm
      exact ⟨by kernel_rfl, fun j t ht => by
        rw [Tryz.params7] at ht
        have hm : t ∈ ([22] : List TypeId) := by simpa using Array.mem_of_getElem? ht
        have hall : (([22] : List TypeId).all fun u => !Tryz.prog.wantsStandIn u) = true := by kernel_rfl
        exact (show Tryz.prog.wantsStandIn t = false by simpa using List.all_eq_true.1 hall t hm)⟩)
    (by kernel_rfl)
/-- THE STATEMENT -/
theorem proved : Rows.FuseKeepsCardSaid :=
  cardHolds
#print axioms proved
end fuseKeeps
end Go.Proofs.YtjpldhjgehoffaaGreatDoor
