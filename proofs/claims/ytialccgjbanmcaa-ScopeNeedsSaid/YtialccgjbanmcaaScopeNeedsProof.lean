/-
  What is proved: exactchange/xclaw2.ScopeNeeds returns true, whatever it is handed, and leaves its arguments as they were (the statement as given: no condition of ours).
  The frame of this text was printed by a small program of ours; it is modelled on the seat's proof-skeleton.
-/
import Derived.Test.YtialccgjbanmcaaRows
import Derived.Test.YtialccgjbanmcaaOpen
import Derived.Test.YtialccgjbanmcaaScopeL
import Derived.ProofKit
import Derived.OpenShut

namespace Go.Proofs.Ytialccgjbanmcaa
open Go.ChangeShapes Go.WideShapes Go.ChangeAt Go.RowKit
set_option linter.unusedVariables false
theorem spec_ScopeNeeds (cs : List AV) (h : ArgsRT Try.prog [22, 3, 3] cs) : PSpec Try.prog 6 cs (fun _ => .d (.bool true)) none := by
  obtain ⟨c, r, rfl, h1, h⟩ := h.cons_inv
  obtain ⟨c2, r, rfl, h2, h⟩ := h.cons_inv
  obtain ⟨c3, r, rfl, h3, h⟩ := h.cons_inv
  cases h.nil_inv
  obtain ⟨l, rfl, hl⟩ := fns_inv h1
  obtain ⟨k, rfl, _⟩ := h2.int Try.underlying3
  obtain ⟨p, rfl, _⟩ := h3.int Try.underlying3
  exact sp_ScopeNeeds l k p hl

namespace scopeNeeds

theorem own : ownKnob Try.prog.godebug = none := by kernel_rfl
theorem plain : plainSet Try.prog [3, 4, 9, 22, 37, 38, 39, 41, 56, 74] = true := by kernel_rfl
theorem laid : laidOutB Try.prog = true := by kernel_rfl
theorem rowed : ([22, 3, 3] : List TypeId).all (fun t => ([3, 4, 9, 22, 37, 38, 39, 41, 56, 74] : List TypeId).contains t && Try.prog.readableRec t && decide (t < Try.prog.types.size)) = true := by kernel_rfl

set_option maxRecDepth 100000 in
theorem lifted (os : Os) (started : os.Started) (H : Type) (enc : TypeId × Value → H) :
    ReturnsInHanded {} Try.checked os 6 .any (Rows.scopeNeedsSpec.pre6 enc Try.prog Try.f6 Rows.scopeNeedsRow.domain false) (Rows.scopeNeedsSpec.post enc Try.prog Try.f6 false true false false) := by
  refine returnsInHanded_of_change_sized (C := Try.checked) own started (by kernel_rfl) Try.func6
    (ChangeSpec.witness6 (enc := enc) (C := Try.checked) false ⟨#[], #[.slice none 0 0, .int .i64 0, .int .i64 0], []⟩ 8 (by kernel_rfl) (by kernel_rfl) (by kernel_rfl) (by kernel_rfl)) ?_
  intro W base args ds gs before hval hW _ hw _
  have hr := List.all_eq_true.1 rowed
  simp only [Bool.and_eq_true, decide_eq_true_eq] at hr
  refine law_contract (S := [3, 4, 9, 22, 37, 38, 39, 41, 56, 74]) plain (tb := 4) (fn := Try.f6) (by rw [Try.params6]; exact fun t ht => by simpa using (hr t ht).1.1) rfl (by rfl) Try.underlying4 laid (by rw [Try.params6]; exact fun t ht => ⟨(hr t ht).1.2, (hr t ht).2⟩) (fun ds hl => ?_) (B := Rows.uptoBulkAll ds) ?_ (Nat.le_refl _) hval hW hw
  · rw [Try.params6] at hl
    match ds, hl with
    | [d1, d2, d3], _ => rfl
  · rw [Try.params6]
    exact fun cs h _ => spec_ScopeNeeds cs h

theorem over : Rows.scopeNeedsRow.holds Try.pinned (OpenSpec.ofChange Rows.scopeNeedsSpec) :=
  OpenClaim.holds_of_wide 6 Try.f6 rfl rfl rfl rfl rfl rfl rfl ⟨rfl, rfl, rfl, rfl, rfl⟩ rfl rfl rfl rfl rfl (by kernel_rfl) Try.func6 (by kernel_rfl)
    (of_decide_eq_true (by kernel_rfl)) (by unfold Func.isWrapper; first | (rw [if_pos (by decide +kernel)]; kernel_rfl) | (rw [if_neg (by decide +kernel)]; exact ⟨rfl, rfl⟩))
    (fun os started H enc _ => lifted os started H enc)

/-- THE STATEMENT -/
theorem proved : Rows.ScopeNeedsSaid :=
  over
#print axioms proved
end scopeNeeds
end Go.Proofs.Ytialccgjbanmcaa
