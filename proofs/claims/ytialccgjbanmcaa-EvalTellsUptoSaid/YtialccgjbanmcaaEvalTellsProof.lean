/-
  What is proved: exactchange/xclaw3.EvalTells returns true, whatever it is handed, and leaves its arguments as they were (the statement as given, for what it reads of bulk at most 1048576).
  The frame of this text was printed by a small program of ours; it is modelled on the seat's proof-skeleton.
-/
import Derived.Test.YtialccgjbanmcaaRows
import Derived.Test.YtialccgjbanmcaaOpen
import Derived.Test.YtialccgjbanmcaaEvalH
import Derived.ProofKit
import Derived.OpenShut
import Derived.Deep.CondSized
namespace Go.Proofs.Ytialccgjbanmcaa
open Go.ChangeShapes Go.WideShapes Go.ChangeAt Go.RowKit
set_option linter.unusedVariables false
theorem spec_EvalTells (cs : List AV) (h : ArgsRT Try.prog [22, 9, 23, 3, 26, 26, 3, 3, 3] cs) (hb : avBulk cs ≤ 1048576) : PSpec Try.prog 3 cs (fun _ => .d (.bool true)) none := by
  obtain ⟨c, r, rfl, h1, h⟩ := h.cons_inv
  obtain ⟨c2, r, rfl, h2, h⟩ := h.cons_inv
  obtain ⟨c3, r, rfl, h3, h⟩ := h.cons_inv
  obtain ⟨c4, r, rfl, h4, h⟩ := h.cons_inv
  obtain ⟨c5, r, rfl, h5, h⟩ := h.cons_inv
  obtain ⟨c6, r, rfl, h6, h⟩ := h.cons_inv
  obtain ⟨c7, r, rfl, h7, h⟩ := h.cons_inv
  obtain ⟨c8, r, rfl, h8, h⟩ := h.cons_inv
  obtain ⟨c9, r, rfl, h9, h⟩ := h.cons_inv
  cases h.nil_inv
  obtain ⟨l, rfl, hl⟩ := fns_inv h1
  obtain ⟨name, rfl, _⟩ := h2.str Try.underlying9
  obtain ⟨args, rfl, _⟩ := h3.ints Try.underlying23 Try.underlying3
  obtain ⟨fuel, rfl, _⟩ := h4.int Try.underlying3
  obtain ⟨a, rfl, ha⟩ := vl_arg h5
  obtain ⟨b, rfl, _⟩ := vl_arg h6
  obtain ⟨p, rfl, _⟩ := h7.int Try.underlying3
  obtain ⟨x, rfl, _⟩ := h8.int Try.underlying3
  obtain ⟨y, rfl, _⟩ := h9.int Try.underlying3
  simp only [avBulk, AV.bulk] at hb
  have hlen := len_bulkRows (args.map intR) (by simp [intR])
  rw [List.length_map] at hlen
  have hb2 : D.bulkRows (args.map intR) ≤ 1048576 := by
    have : D.bulk (.sl (args.map intR)) = D.bulkRows (args.map intR) + 1 := by rw [D.bulk]
    change _ + (_ + (D.bulk (.sl (args.map intR)) + _)) ≤ _ at hb
    omega
  exact sp_EvalTells l name args fuel a b p x y hl (by omega) ha

namespace evalTells

theorem own : ownKnob Try.prog.godebug = none := by kernel_rfl
theorem plain : plainSet Try.prog [3, 4, 9, 22, 23, 24, 26, 37, 38, 39, 41, 56, 74] = true := by kernel_rfl
theorem laid : laidOutB Try.prog = true := by kernel_rfl
theorem rowed : ([22, 9, 23, 3, 26, 26, 3, 3, 3] : List TypeId).all (fun t => ([3, 4, 9, 22, 23, 24, 26, 37, 38, 39, 41, 56, 74] : List TypeId).contains t && Try.prog.readableRec t && decide (t < Try.prog.types.size)) = true := by kernel_rfl

set_option maxRecDepth 100000 in
theorem lifted (os : Os) (started : os.Started) (H : Type) (enc : TypeId × Value → H) (F : Stop.Interp) :
    ReturnsInHanded {} Try.checked os 3 .any ((Rows.OpenSpec.upto Rows.evalTellsSpec).pre6 enc Try.prog Try.f3 Rows.evalTellsUptoRow.domain false) (((Rows.OpenSpec.upto Rows.evalTellsSpec).at F).post enc Try.prog Try.f3 false true false false) := by
  refine returnsInHanded_of_cond_sized (C := Try.checked) (s := Rows.OpenSpec.upto Rows.evalTellsSpec) (k := Rows.uptoSmall) rfl own started (by kernel_rfl) Try.func3
    (OpenSpec.witness (enc := enc) (C := Try.checked) (s := Rows.OpenSpec.upto Rows.evalTellsSpec) (k := Rows.uptoSmall) rfl false ⟨#[], #[.slice none 0 0, .string ⟨#[]⟩, .slice none 0 0, .int .i64 0, .agg #[.bool false, .int .i64 0, .slice none 0 0], .agg #[.bool false, .int .i64 0, .slice none 0 0], .int .i64 0, .int .i64 0, .int .i64 0], []⟩ 8 (by kernel_rfl) (by kernel_rfl) (by kernel_rfl)
      (x := ([.nil, .lit (.string []), .nil, .lit (.int .i64 0), .agg [.lit (.bool false), .lit (.int .i64 0), .nil], .agg [.lit (.bool false), .lit (.int .i64 0), .nil], .lit (.int .i64 0), .lit (.int .i64 0), .lit (.int .i64 0)], [], [])) (by kernel_rfl) rfl (by kernel_rfl)) ?_
  intro W base args ds gs before hval hW _ hk hw _
  have hb : Rows.uptoBulkAll ds ≤ 1048576 := by
    have hgs : gs = [] := by
      obtain ⟨p, q, _, hV, _⟩ := hW
      exact (trodVars_none hV).1
    subst hgs
    have := of_decide_eq_true hk
    rwa [List.append_nil] at this
  have hr := List.all_eq_true.1 rowed
  simp only [Bool.and_eq_true, decide_eq_true_eq] at hr
  refine law_contract (S := [3, 4, 9, 22, 23, 24, 26, 37, 38, 39, 41, 56, 74]) plain (tb := 4) (fn := Try.f3) (by rw [Try.params3]; exact fun t ht => by simpa using (hr t ht).1.1) rfl (by rfl) Try.underlying4 laid (by rw [Try.params3]; exact fun t ht => ⟨(hr t ht).1.2, (hr t ht).2⟩) (fun ds hl => ?_) (B := 1048576) ?_ hb hval hW hw
  · rw [Try.params3] at hl
    match ds, hl with
    | [d1, d2, d3, d4, d5, d6, d7, d8, d9], _ => rfl
  · rw [Try.params3]
    exact fun cs h hb => spec_EvalTells cs h hb

theorem over : Rows.evalTellsUptoRow.holds Try.pinned (Rows.OpenSpec.upto Rows.evalTellsSpec) :=
  OpenClaim.holds_of_cond 3 Try.f3 rfl rfl rfl rfl rfl rfl rfl ⟨rfl, rfl, rfl, rfl, rfl⟩ rfl rfl rfl rfl rfl (by kernel_rfl) Try.func3 (by kernel_rfl)
    (of_decide_eq_true (by kernel_rfl)) (by unfold Func.isWrapper; first | (rw [if_pos (by decide +kernel)]; kernel_rfl) | (rw [if_neg (by decide +kernel)]; exact ⟨rfl, rfl⟩))
    (fun os started H enc _ F => lifted os started H enc F)

/-- THE STATEMENT -/
theorem proved : Rows.EvalTellsUptoSaid :=
  over
#print axioms proved
end evalTells
end Go.Proofs.Ytialccgjbanmcaa
