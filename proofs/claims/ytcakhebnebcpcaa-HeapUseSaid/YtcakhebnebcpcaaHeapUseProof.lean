/-
  What is proved: exactchange/xclaw10.HeapUse returns true, whatever it is handed, and leaves its arguments as they were (the statement as given: no condition of ours).
  The frame of this text was printed by a small program of ours; it is modelled on the seat's proof-skeleton.
-/
import Derived.Test.YtcakhebnebcpcaaRows
import Derived.Test.YtcakhebnebcpcaaOpen
import Derived.Test.YtcakhebnebcpcaaLawC
import Derived.ProofKit
import Derived.OpenShut
namespace Go.Proofs.Ytcakhebnebcpcaa
open Go.ChangeShapes Go.WideShapes Go.ChangeAt Go.RowKit
set_option linter.unusedVariables false
theorem ints_acts {c : AV} (h : ArgRT Try.prog 22 c) : ∃ acts : List Int, c = actsAV acts ∧ acts.length ≤ 17592186044416 := by
  obtain ⟨l, rfl, hl, _⟩ := h.ints (e := 3) Try.underlying22 Try.underlying3
  refine ⟨l, rfl, ?_⟩
  have e : Try.prog.bytesOf 3 = 8 := by kernel_rfl
  rw [e] at hl
  unfold reachBytes at hl
  omega
theorem slot_inv {ds : List D} (h : RT Try.prog 24 ds) : ∃ s : Slt, ds = s.row ∧ (-9223372036854775808 ≤ s.kind ∧ s.kind ≤ 9223372036854775807) ∧ -9223372036854775808 ≤ s.n ∧ s.n ≤ 9223372036854775807 := by
  obtain ⟨p0, p1, rfl, h0, h1⟩ := h.struct2_inv Try.underlying24
  obtain ⟨k, rfl, hk⟩ := h0.int_inv Try.underlying3
  obtain ⟨n, rfl, hn⟩ := h1.int_inv Try.underlying3
  exact ⟨⟨k, n⟩, rfl, hk, hn⟩
theorem spec_HeapUse (cs : List AV) (h : ArgsRT Try.prog [22, 3, 3, 25] cs) : PSpec Try.prog 6 cs (fun _ => .d (.bool true)) none := by
  obtain ⟨c, r, rfl, h1, h⟩ := h.cons_inv
  obtain ⟨c2, r, rfl, h2, h⟩ := h.cons_inv
  obtain ⟨c3, r, rfl, h3, h⟩ := h.cons_inv
  obtain ⟨c4, r, rfl, h4, h⟩ := h.cons_inv
  cases h.nil_inv
  obtain ⟨acts, rfl, ha⟩ := ints_acts h1
  obtain ⟨k, rfl, _⟩ := h2.int Try.underlying3
  obtain ⟨tag, rfl, _⟩ := h3.int Try.underlying3
  obtain ⟨l, rfl, hl, _⟩ := h4.list (e := 24) (fun r hr => slot_inv hr) Try.underlying25
  have e : Try.prog.bytesOf 24 = 16 := by kernel_rfl
  rw [e] at hl
  unfold reachBytes at hl
  exact sp_HeapUse acts k tag l ha (by omega)

namespace heapUse

theorem own : ownKnob Try.prog.godebug = none := by kernel_rfl
theorem plain : plainSet Try.prog [3, 4, 22, 24, 25] = true := by kernel_rfl
theorem laid : laidOutB Try.prog = true := by kernel_rfl
theorem rowed : ([22, 3, 3, 25] : List TypeId).all (fun t => ([3, 4, 22, 24, 25] : List TypeId).contains t && Try.prog.readableRec t && decide (t < Try.prog.types.size)) = true := by kernel_rfl

set_option maxRecDepth 100000 in
theorem lifted (os : Os) (started : os.Started) (H : Type) (enc : TypeId × Value → H) :
    ReturnsInHanded {} Try.checked os 6 .any (Rows.heapUseSpec.pre6 enc Try.prog Try.f6 Rows.heapUseRow.domain false) (Rows.heapUseSpec.post enc Try.prog Try.f6 false true false false) := by
  refine returnsInHanded_of_change_sized (C := Try.checked) own started (by kernel_rfl) Try.func6
    (ChangeSpec.witness6 (enc := enc) (C := Try.checked) false ⟨#[], #[.slice none 0 0, .int .i64 0, .int .i64 0, .slice none 0 0], []⟩ 8 (by kernel_rfl) (by kernel_rfl) (by kernel_rfl) (by kernel_rfl)) ?_
  intro W base args ds gs before hval hW _ hw _
  have hr := List.all_eq_true.1 rowed
  simp only [Bool.and_eq_true, decide_eq_true_eq] at hr
  refine law_contract (S := [3, 4, 22, 24, 25]) plain (tb := 4) (fn := Try.f6) (by rw [Try.params6]; exact fun t ht => by simpa using (hr t ht).1.1) rfl (by rfl) Try.underlying4 laid (by rw [Try.params6]; exact fun t ht => ⟨(hr t ht).1.2, (hr t ht).2⟩) (fun ds hl => ?_) ?_ hval hW hw
  · rw [Try.params6] at hl
    match ds, hl with
    | [d1, d2, d3, d4], _ => rfl
  · rw [Try.params6]
    exact fun cs h => spec_HeapUse cs h

theorem over : Rows.heapUseRow.holds Try.pinned (OpenSpec.ofChange Rows.heapUseSpec) :=
  OpenClaim.holds_of_wide 6 Try.f6 rfl rfl rfl rfl rfl rfl rfl ⟨rfl, rfl, rfl, rfl, rfl⟩ rfl rfl rfl rfl rfl (by kernel_rfl) Try.func6 (by kernel_rfl)
    (of_decide_eq_true (by kernel_rfl)) (by unfold Func.isWrapper; first | (rw [if_pos (by decide +kernel)]; kernel_rfl) | (rw [if_neg (by decide +kernel)]; exact ⟨rfl, rfl⟩))
    (fun os started H enc _ => lifted os started H enc)

/-- THE STATEMENT -/
theorem proved : Rows.HeapUseSaid :=
  over
#print axioms proved
end heapUse
end Go.Proofs.Ytcakhebnebcpcaa
