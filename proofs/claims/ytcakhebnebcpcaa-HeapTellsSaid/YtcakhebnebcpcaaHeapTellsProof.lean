/-
  What is proved: exactchange/xclaw10.HeapTells returns true, whatever it is handed, and leaves its arguments as they were (the statement as given: no condition of ours).
  The frame of this text was printed by a small program of ours; it is modelled on the seat's proof-skeleton.
-/
import Derived.Test.YtcakhebnebcpcaaRows
import Derived.Test.YtcakhebnebcpcaaOpen
import Derived.Test.YtcakhebnebcpcaaLawG
import Derived.ProofKit
import Derived.OpenShut
namespace Go.Proofs.Ytcakhebnebcpcaa
open Go.ChangeShapes Go.WideShapes Go.ChangeAt Go.RowKit
set_option linter.unusedVariables false
theorem ints_acts {c : AV} (h : ArgRT Try.prog 22 c) : ∃ acts : List Int, c = actsAV acts ∧ acts.length ≤ 17592186044416 := by
  obtain ⟨l, rfl, hl, _⟩ := h.ints (e := 3) Try.underlying22 Try.underlying3
  refine ⟨l, rfl, ?_⟩
  have e : Try.prog.bytesOf 3 = 8 := by kernel_rfl
  rw [e] at hl
  unfold reachBytes at hl
  omega
theorem slot_inv {ds : List D} (h : RT Try.prog 24 ds) : ∃ s : Slt, ds = s.row ∧ (-9223372036854775808 ≤ s.kind ∧ s.kind ≤ 9223372036854775807) ∧ -9223372036854775808 ≤ s.n ∧ s.n ≤ 9223372036854775807 := by
  obtain ⟨p0, p1, rfl, h0, h1⟩ := h.struct2_inv Try.underlying24
  obtain ⟨k, rfl, hk⟩ := h0.int_inv Try.underlying3
  obtain ⟨n, rfl, hn⟩ := h1.int_inv Try.underlying3
  exact ⟨⟨k, n⟩, rfl, hk, hn⟩
theorem slot_arg {c : AV} (h : ArgRT Try.prog 24 c) : ∃ s : Slt, c = slAV s := by
  obtain ⟨ds, rfl, hd⟩ := h.agg_inv Try.underlying24
  obtain ⟨s, rfl, _⟩ := slot_inv hd
  exact ⟨s, rfl⟩
theorem spec_HeapTells (cs : List AV) (h : ArgsRT Try.prog [22, 24, 24, 3, 25, 4] cs) : PSpec Try.prog 3 cs (fun _ => .d (.bool true)) none := by
  obtain ⟨c, r, rfl, h1, h⟩ := h.cons_inv
  obtain ⟨c2, r, rfl, h2, h⟩ := h.cons_inv
  obtain ⟨c3, r, rfl, h3, h⟩ := h.cons_inv
  obtain ⟨c4, r, rfl, h4, h⟩ := h.cons_inv
  obtain ⟨c5, r, rfl, h5, h⟩ := h.cons_inv
  obtain ⟨c6, r, rfl, h6, h⟩ := h.cons_inv
  cases h.nil_inv
  obtain ⟨acts, rfl, ha⟩ := ints_acts h1
  obtain ⟨s, rfl⟩ := slot_arg h2
  obtain ⟨token, rfl⟩ := slot_arg h3
  obtain ⟨tag, rfl, _⟩ := h4.int Try.underlying3
  obtain ⟨l, rfl, hl, _⟩ := h5.list (e := 24) (fun r hr => slot_inv hr) Try.underlying25
  obtain ⟨k, rfl⟩ := h6.bool Try.underlying4
  have e : Try.prog.bytesOf 24 = 16 := by kernel_rfl
  rw [e] at hl
  unfold reachBytes at hl
  exact sp_HeapTells acts s token tag l k ha (by omega)

namespace heapTells

theorem own : ownKnob Try.prog.godebug = none := by kernel_rfl
theorem plain : plainSet Try.prog [3, 4, 22, 24, 25] = true := by kernel_rfl
theorem laid : laidOutB Try.prog = true := by kernel_rfl
theorem rowed : ([22, 24, 24, 3, 25, 4] : List TypeId).all (fun t => ([3, 4, 22, 24, 25] : List TypeId).contains t && Try.prog.readableRec t && decide (t < Try.prog.types.size)) = true := by kernel_rfl

set_option maxRecDepth 100000 in
theorem lifted (os : Os) (started : os.Started) (H : Type) (enc : TypeId × Value → H) :
    ReturnsInHanded {} Try.checked os 3 .any (Rows.heapTellsSpec.pre6 enc Try.prog Try.f3 Rows.heapTellsRow.domain false) (Rows.heapTellsSpec.post enc Try.prog Try.f3 false true false false) := by
  refine returnsInHanded_of_change_sized (C := Try.checked) own started (by kernel_rfl) Try.func3
    (ChangeSpec.witness6 (enc := enc) (C := Try.checked) false ⟨#[], #[.slice none 0 0, .agg #[.int .i64 0, .int .i64 0], .agg #[.int .i64 0, .int .i64 0], .int .i64 0, .slice none 0 0, .bool false], []⟩ 8 (by kernel_rfl) (by kernel_rfl) (by kernel_rfl) (by kernel_rfl)) ?_
  intro W base args ds gs before hval hW _ hw _
  have hr := List.all_eq_true.1 rowed
  simp only [Bool.and_eq_true, decide_eq_true_eq] at hr
  refine law_contract (S := [3, 4, 22, 24, 25]) plain (tb := 4) (fn := Try.f3) (by rw [Try.params3]; exact fun t ht => by simpa using (hr t ht).1.1) rfl (by rfl) Try.underlying4 laid (by rw [Try.params3]; exact fun t ht => ⟨(hr t ht).1.2, (hr t ht).2⟩) (fun ds hl => ?_) ?_ hval hW hw
  · rw [Try.params3] at hl
    match ds, hl with
    | [d1, d2, d3, d4, d5, d6], _ => rfl
  · rw [Try.params3]
    exact fun cs h => spec_HeapTells cs h

theorem over : Rows.heapTellsRow.holds Try.pinned (OpenSpec.ofChange Rows.heapTellsSpec) :=
  OpenClaim.holds_of_wide 3 Try.f3 rfl rfl rfl rfl rfl rfl rfl ⟨rfl, rfl, rfl, rfl, rfl⟩ rfl rfl rfl rfl rfl (by kernel_rfl) Try.func3 (by kernel_rfl)
    (of_decide_eq_true (by kernel_rfl)) (by unfold Func.isWrapper; first | (rw [if_pos (by decide +kernel)]; kernel_rfl) | (rw [if_neg (by decide +kernel)]; exact ⟨rfl, rfl⟩))
    (fun os started H enc _ => lifted os started H enc)

/-- THE STATEMENT -/
theorem proved : Rows.HeapTellsSaid :=
  over
#print axioms proved
end heapTells
end Go.Proofs.Ytcakhebnebcpcaa
