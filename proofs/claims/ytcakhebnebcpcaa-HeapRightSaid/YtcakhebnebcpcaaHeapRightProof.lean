/-
  What is proved: exactchange/xclaw10.HeapRight returns true, whatever it is handed, and leaves its arguments as they were (the statement as given: no condition of ours).
  The frame of this text was printed by a small program of ours; it is modelled on the seat's proof-skeleton.
-/
import Derived.Test.YtcakhebnebcpcaaRows
import Derived.Test.YtcakhebnebcpcaaOpen
import Derived.Test.YtcakhebnebcpcaaLawF
import Derived.ProofKit
import Derived.OpenShut
namespace Go.Proofs.Ytcakhebnebcpcaa
open Go.ChangeShapes Go.WideShapes Go.ChangeAt Go.RowKit
set_option linter.unusedVariables false
theorem ints_acts {c : AV} (h : ArgRT Try.prog 22 c) : ∃ acts : List Int, c = actsAV acts ∧ acts.length ≤ 17592186044416 := by
  obtain ⟨l, rfl, hl, _⟩ := h.ints (e := 3) Try.underlying22 Try.underlying3
  refine ⟨l, rfl, ?_⟩
  have e : Try.prog.bytesOf 3 = 8 := by kernel_rfl
  rw [e] at hl
  unfold reachBytes at hl
  omega
theorem spec_HeapRight (cs : List AV) (h : ArgsRT Try.prog [22] cs) : PSpec Try.prog 4 cs (fun _ => .d (.bool true)) none := by
  obtain ⟨c, r, rfl, h1, h⟩ := h.cons_inv
  cases h.nil_inv
  obtain ⟨acts, rfl, ha⟩ := ints_acts h1
  exact sp_HeapRight acts ha

namespace heapRight

theorem own : ownKnob Try.prog.godebug = none := by kernel_rfl
theorem plain : plainSet Try.prog [3, 4, 22] = true := by kernel_rfl
theorem laid : laidOutB Try.prog = true := by kernel_rfl
theorem rowed : ([22] : List TypeId).all (fun t => ([3, 4, 22] : List TypeId).contains t && Try.prog.readableRec t && decide (t < Try.prog.types.size)) = true := by kernel_rfl

set_option maxRecDepth 100000 in
theorem lifted (os : Os) (started : os.Started) (H : Type) (enc : TypeId × Value → H) :
    ReturnsInHanded {} Try.checked os 4 .any (Rows.heapRightSpec.pre6 enc Try.prog Try.f4 Rows.heapRightRow.domain false) (Rows.heapRightSpec.post enc Try.prog Try.f4 false true false false) := by
  refine returnsInHanded_of_change_sized (C := Try.checked) own started (by kernel_rfl) Try.func4
    (ChangeSpec.witness6 (enc := enc) (C := Try.checked) false ⟨#[], #[.slice none 0 0], []⟩ 8 (by kernel_rfl) (by kernel_rfl) (by kernel_rfl) (by kernel_rfl)) ?_
  intro W base args ds gs before hval hW _ hw _
  have hr := List.all_eq_true.1 rowed
  simp only [Bool.and_eq_true, decide_eq_true_eq] at hr
  refine law_contract (S := [3, 4, 22]) plain (tb := 4) (fn := Try.f4) (by rw [Try.params4]; exact fun t ht => by simpa using (hr t ht).1.1) rfl (by rfl) Try.underlying4 laid (by rw [Try.params4]; exact fun t ht => ⟨(hr t ht).1.2, (hr t ht).2⟩) (fun ds hl => ?_) ?_ hval hW hw
  · rw [Try.params4] at hl
    match ds, hl with
    | [d1], _ => rfl
  · rw [Try.params4]
    exact fun cs h => spec_HeapRight cs h

theorem over : Rows.heapRightRow.holds Try.pinned (OpenSpec.ofChange Rows.heapRightSpec) :=
  OpenClaim.holds_of_wide 4 Try.f4 rfl rfl rfl rfl rfl rfl rfl ⟨rfl, rfl, rfl, rfl, rfl⟩ rfl rfl rfl rfl rfl (by kernel_rfl) Try.func4 (by kernel_rfl)
    (of_decide_eq_true (by kernel_rfl)) (by unfold Func.isWrapper; first | (rw [if_pos (by decide +kernel)]; kernel_rfl) | (rw [if_neg (by decide +kernel)]; exact ⟨rfl, rfl⟩))
    (fun os started H enc _ => lifted os started H enc)

/-- THE STATEMENT -/
theorem proved : Rows.HeapRightSaid :=
  over
#print axioms proved
end heapRight
end Go.Proofs.Ytcakhebnebcpcaa
