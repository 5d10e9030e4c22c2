/-
  What is proved: exactchange/xclaw2.ScopeTells returns true, whatever it is handed, and leaves its arguments as they were (the statement as given, for what it reads of bulk at most 1048576).
  The frame of this text was printed by a small program of ours; it is modelled on the seat's proof-skeleton.
-/
import Derived.Test.YtialccgjbanmcaaRows
import Derived.Test.YtialccgjbanmcaaOpen
import Derived.Test.YtialccgjbanmcaaScopeL
import Derived.ProofKit
import Derived.OpenShut
import Derived.Deep.CondSized
namespace Go.Proofs.Ytialccgjbanmcaa
open Go.ChangeShapes Go.WideShapes Go.ChangeAt Go.RowKit
set_option linter.unusedVariables false
theorem tm_arg {c : AV} (h : ArgRT Try.prog 41 c) : ∃ t : Tm, c = tmAV t ∧ t.Ok := by
  obtain ⟨ds, rfl, hd⟩ := h.agg_inv Try.underlying41
  obtain ⟨t, rfl, ht⟩ := (tm_inv _ _ hd).1 rfl
  exact ⟨t, (tmAV_eq t).symm, ht⟩
theorem tm_avBulk (t : Tm) : (tmAV t).bulk = D.bulkRow t.row := by
  rw [tmAV_eq, AV.bulk, toDs_map]
  rfl
theorem spec_ScopeTells (cs : List AV) (h : ArgsRT Try.prog [22, 41, 41] cs) (hb : avBulk cs ≤ 1048576) : PSpec Try.prog 4 cs (fun _ => .d (.bool true)) none := by
  obtain ⟨c, r, rfl, h1, h⟩ := h.cons_inv
  obtain ⟨c2, r, rfl, h2, h⟩ := h.cons_inv
  obtain ⟨c3, r, rfl, h3, h⟩ := h.cons_inv
  cases h.nil_inv
  obtain ⟨l, rfl, hl⟩ := fns_inv h1
  obtain ⟨a, rfl, ha⟩ := tm_arg h2
  obtain ⟨b, rfl, _⟩ := tm_arg h3
  simp only [avBulk, tm_avBulk] at hb
  have := Tm.sz_bulk a
  exact sp_ScopeTells l a b hl ⟨ha, by omega⟩

namespace scopeTells

theorem own : ownKnob Try.prog.godebug = none := by kernel_rfl
theorem plain : plainSet Try.prog [3, 4, 9, 22, 37, 38, 39, 41, 56, 74] = true := by kernel_rfl
theorem laid : laidOutB Try.prog = true := by kernel_rfl
theorem rowed : ([22, 41, 41] : List TypeId).all (fun t => ([3, 4, 9, 22, 37, 38, 39, 41, 56, 74] : List TypeId).contains t && Try.prog.readableRec t && decide (t < Try.prog.types.size)) = true := by kernel_rfl

set_option maxRecDepth 100000 in
theorem lifted (os : Os) (started : os.Started) (H : Type) (enc : TypeId × Value → H) (F : Stop.Interp) :
    ReturnsInHanded {} Try.checked os 4 .any ((Rows.OpenSpec.upto Rows.scopeTellsSpec).pre6 enc Try.prog Try.f4 Rows.scopeTellsUptoRow.domain false) (((Rows.OpenSpec.upto Rows.scopeTellsSpec).at F).post enc Try.prog Try.f4 false true false false) := by
  refine returnsInHanded_of_cond_sized (C := Try.checked) (s := Rows.OpenSpec.upto Rows.scopeTellsSpec) (k := Rows.uptoSmall) rfl own started (by kernel_rfl) Try.func4
    (OpenSpec.witness (enc := enc) (C := Try.checked) (s := Rows.OpenSpec.upto Rows.scopeTellsSpec) (k := Rows.uptoSmall) rfl false ⟨#[], #[.slice none 0 0, .agg #[.int .i64 0, .int .i64 0, .string ⟨#[]⟩, .string ⟨#[]⟩, .slice none 0 0, .slice none 0 0, .slice none 0 0], .agg #[.int .i64 0, .int .i64 0, .string ⟨#[]⟩, .string ⟨#[]⟩, .slice none 0 0, .slice none 0 0, .slice none 0 0]], []⟩ 8 (by kernel_rfl) (by kernel_rfl) (by kernel_rfl)
      (x := ([.nil, .agg [.lit (.int .i64 0), .lit (.int .i64 0), .lit (.string []), .lit (.string []), .nil, .nil, .nil], .agg [.lit (.int .i64 0), .lit (.int .i64 0), .lit (.string []), .lit (.string []), .nil, .nil, .nil]], [], [])) (by kernel_rfl) rfl (by kernel_rfl)) ?_
  intro W base args ds gs before hval hW _ hk hw _
  have hb : Rows.uptoBulkAll ds ≤ 1048576 := by
    have hgs : gs = [] := by
      obtain ⟨p, q, _, hV, _⟩ := hW
      exact (trodVars_none hV).1
    subst hgs
    have := of_decide_eq_true hk
    rwa [List.append_nil] at this
  have hr := List.all_eq_true.1 rowed
  simp only [Bool.and_eq_true, decide_eq_true_eq] at hr
  refine law_contract (S := [3, 4, 9, 22, 37, 38, 39, 41, 56, 74]) plain (tb := 4) (fn := Try.f4) (by rw [Try.params4]; exact fun t ht => by simpa using (hr t ht).1.1) rfl (by rfl) Try.underlying4 laid (by rw [Try.params4]; exact fun t ht => ⟨(hr t ht).1.2, (hr t ht).2⟩) (fun ds hl => ?_) (B := 1048576) ?_ hb hval hW hw
  · rw [Try.params4] at hl
    match ds, hl with
    | [d1, d2, d3], _ => rfl
  · rw [Try.params4]
    exact fun cs h hb => spec_ScopeTells cs h hb

theorem over : Rows.scopeTellsUptoRow.holds Try.pinned (Rows.OpenSpec.upto Rows.scopeTellsSpec) :=
  OpenClaim.holds_of_cond 4 Try.f4 rfl rfl rfl rfl rfl rfl rfl ⟨rfl, rfl, rfl, rfl, rfl⟩ rfl rfl rfl rfl rfl (by kernel_rfl) Try.func4 (by kernel_rfl)
    (of_decide_eq_true (by kernel_rfl)) (by unfold Func.isWrapper; first | (rw [if_pos (by decide +kernel)]; kernel_rfl) | (rw [if_neg (by decide +kernel)]; exact ⟨rfl, rfl⟩))
    (fun os started H enc _ F => lifted os started H enc F)

/-- THE STATEMENT -/
theorem proved : Rows.ScopeTellsUptoSaid :=
  over
#print axioms proved
end scopeTells
end Go.Proofs.Ytialccgjbanmcaa
