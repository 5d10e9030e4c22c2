import Derived.Test.YtapiiklnnkkdlaaDoorRows
import Derived.Test.YtapiiklnnkkdlaaDoorOpen
import Derived.Test.YtapiiklnnkkdlaaDoorPlainY
import Derived.Test.YtapiiklnnkkdlaaDoorCards
import Derived.Test.YtapiiklnnkkdlaaDoorTie
import Derived.LaidMore
import Derived.Lib.LaidTab
import Derived.Stop.LaidErr
import Derived.Stop.Joined
import Derived.SevenTiedAt
import Derived.ProofKit
import Derived.OpenShut
import Derived.Deep.CondSized
import Derived.Deep.DeepWitnessRowRef
/-
  What is proved: exactchange/xclaw5.PlainSame returns true, whatever it is handed, and leaves its arguments as they were (the statement as given, for what it reads of bulk at most 1048576).
  The frame of this text was printed by a small program of ours; it is modelled on the seat's proof-skeleton.
-/
namespace Go.Proofs.YtapiiklnnkkdlaaDoor
open Go.ChangeShapes Go.WideShapes Go.ChangeAt Go.RowKit
set_option linter.unusedVariables false
theorem spec_PlainSame (cs : List AV) (h : ArgsRT Tryd.prog [22, 9, 44, 3] cs) (hb : avBulk cs ≤ 1048576) : PSpec Tryd.prog 14 cs (fun _ => .d (.bool true)) none := by
  obtain ⟨c, r, rfl, h1, h⟩ := h.cons_inv
  obtain ⟨c2, r, rfl, h2, h⟩ := h.cons_inv
  obtain ⟨c3, r, rfl, h3, h⟩ := h.cons_inv
  obtain ⟨c4, r, rfl, h4, h⟩ := h.cons_inv
  cases h.nil_inv
  obtain ⟨l, rfl, hl⟩ := fns_inv h1
  obtain ⟨name, rfl, _⟩ := h2.str Tryd.underlying9
  obtain ⟨args, rfl, _⟩ := h3.ints Tryd.underlying44 Tryd.underlying3
  obtain ⟨fuel, rfl, _⟩ := h4.int Tryd.underlying3
  simp only [avBulk, AV.bulk] at hb
  have hlen := len_bulkRows (args.map intR) (by simp [intR])
  rw [List.length_map] at hlen
  have hb2 : D.bulkRows (args.map intR) ≤ 1048576 := by
    have : D.bulk (.sl (args.map intR)) = D.bulkRows (args.map intR) + 1 := by rw [D.bulk]
    change _ + (_ + (D.bulk (.sl (args.map intR)) + _)) ≤ _ at hb
    omega
  exact sp_PlainSame l name args fuel hl (by omega)

namespace plainSame

theorem own : ownKnob Tryd.prog.godebug = none := by kernel_rfl
theorem plain : plainSet Tryd.prog [3, 4, 9, 22, 30, 31, 32, 34, 36, 40, 44] = true := by kernel_rfl
theorem laid : laidOutB Tryd.prog = true := by kernel_rfl
theorem rowed : ([22, 9, 44, 3] : List TypeId).all (fun t => ([3, 4, 9, 22, 30, 31, 32, 34, 36, 40, 44] : List TypeId).contains t && Tryd.prog.readableRec t && decide (t < Tryd.prog.types.size)) = true := by kernel_rfl

theorem err_star : "*" ++ "errors.errorString" = "*errors.errorString" := by decide
theorem row_err (u : TypeId) (h : Tryd.prog.typeName? 3 u = some "*errors.errorString") : u = 206 :=
  typeName_ptr_named (nm := "errors.errorString") (by rw [err_star]; kernel_rfl) (by kernel_rfl) (by decide) u (by rw [err_star]; exact h)
theorem door_met (os : Os) (args : Array Value) : laidMetH Tryd.prog Rows.plainSameUptoRow.laid ((World.doorLaid Tryd.prog 400 os).forCall (fun _ _ => 0) ⟨#[], args, []⟩).memory :=
  laidMetH_of_parts3 (fuel := 8) (laidMet_of_run' 8 (by kernel_rfl) (by kernel_rfl)) (by kernel_rfl) (by kernel_rfl)
theorem gi_of_laid {W : World} (h : laidMetH Tryd.prog Rows.plainSameUptoRow.laid W) : GI W := by
  rw [MakeChecks.laidMetH_plain _ _ _ (by kernel_rfl)] at h
  obtain ⟨a1, s1, hr1, _⟩ := laid_sentinel (nm := "*errors.errorString") (g := 2) (ti := 172) (tp := 206) (te := 208) (ts := 9) h.tail.tail.tail (by kernel_rfl) (by kernel_rfl) Tryd.underlying172 row_err Tryd.underlying206 Tryd.underlying208 rfl rfl Tryd.underlying9 (by kernel_rfl) (by kernel_rfl)
  obtain ⟨a2, s2, hr2, _⟩ := laid_sentinel (nm := "*errors.errorString") (g := 1) (ti := 172) (tp := 206) (te := 208) (ts := 9) h.tail.tail.tail.tail (by kernel_rfl) (by kernel_rfl) Tryd.underlying172 row_err Tryd.underlying206 Tryd.underlying208 rfl rfl Tryd.underlying9 (by kernel_rfl) (by kernel_rfl)
  exact ⟨Lib.tabIs_of_head (g := 0) (by kernel_rfl) (by kernel_rfl) Tryd.underlying192 Tryd.underlying178 (by kernel_rfl) (by kernel_rfl) h.tail.tail, ⟨_, _, hr2⟩, ⟨_, _, hr1⟩⟩

theorem reads (os : Os) {H : Type} (enc : TypeId × Value → H) : ∃ places, DataW.whole enc Tryd.prog ((World.doorLaid Tryd.prog 400 os).forCall (fun _ _ => 0) ⟨#[], #[.slice none 0 0, .string ⟨#[]⟩, .slice none 0 0, .int .i64 0], []⟩).memory Tryd.f14.params.toList (Rows.OpenSpec.upto Rows.plainSameSpec).vars false (#[.slice none 0 0, .string ⟨#[]⟩, .slice none 0 0, .int .i64 0] : Array Value).toList 8 = some ([.nil, .lit (.string []), .nil, .lit (.int .i64 0)], [], places) :=
  ⟨[], by kernel_rfl⟩
set_option maxRecDepth 100000 in
theorem lifted (os : Os) (started : os.Started) (H : Type) (enc : TypeId × Value → H) (F : Stop.Interp) :
    ReturnsInHanded {} Tryd.checked os 14 .any ((Rows.OpenSpec.upto Rows.plainSameSpec).preRow enc Tryd.prog Tryd.f14 Rows.plainSameUptoRow.domain false Rows.plainSameUptoRow.laid) (((Rows.OpenSpec.upto Rows.plainSameSpec).at F).post enc Tryd.prog Tryd.f14 false true false false) := by
  obtain ⟨places, hx⟩ := reads os enc
  refine returnsInHanded_of_row (C := Tryd.checked) (s := Rows.OpenSpec.upto Rows.plainSameSpec) own started (by kernel_rfl) Tryd.func14
    (witness_row_atRef (enc := enc) (C := Tryd.checked) false (World.doorLaid Tryd.prog 400 os) #[.slice none 0 0, .string ⟨#[]⟩, .slice none 0 0, .int .i64 0] rfl (by kernel_rfl) (by kernel_rfl) (by kernel_rfl)
      (OpenSpec.preRow_of_cond 8 hx (by kernel_rfl) (fun k hk => by cases hk; kernel_rfl) (by kernel_rfl) (door_met os _))) ?_
  intro W base args ds gs before hval hW _ hcond hw hL _ _
  have hb : Rows.uptoBulkAll ds ≤ 1048576 := by
    have hgs : gs = [] := by
      obtain ⟨p, q, _, hV, _⟩ := hW
      exact (trodVars_none hV).1
    subst hgs
    have := of_decide_eq_true (hcond _ rfl)
    rwa [List.append_nil] at this
  have hr := List.all_eq_true.1 rowed
  simp only [Bool.and_eq_true, decide_eq_true_eq] at hr
  refine law_contract (S := [3, 4, 9, 22, 30, 31, 32, 34, 36, 40, 44]) plain (tb := 4) (fn := Tryd.f14) (by rw [Tryd.params14]; exact fun t ht => by simpa using (hr t ht).1.1) rfl (by rfl) Tryd.underlying4 laid (by rw [Tryd.params14]; exact fun t ht => ⟨(hr t ht).1.2, (hr t ht).2⟩) (fun ds hl => ?_) (B := 1048576) ?_ hb hval hW hw (gi_of_laid hL)
  · rw [Tryd.params14] at hl
    match ds, hl with
    | [d1, d2, d3, d4], _ => rfl
  · rw [Tryd.params14]
    exact fun cs h hb => spec_PlainSame cs h hb

theorem over : Rows.plainSameUptoRow.holds Tryd.pinned (Rows.OpenSpec.upto Rows.plainSameSpec) :=
  OpenClaim.holds_of_cond 14 Tryd.f14 rfl rfl rfl rfl rfl rfl rfl ⟨rfl, rfl, rfl, rfl, rfl⟩ rfl rfl rfl rfl rfl (by kernel_rfl) Tryd.func14 (by kernel_rfl)
    (of_decide_eq_true (by kernel_rfl)) (by unfold Func.isWrapper; first | (rw [if_pos (by decide +kernel)]; kernel_rfl) | (rw [if_neg (by decide +kernel)]; exact ⟨rfl, rfl⟩))
    (fun os started H enc _ F => by rw [OpenClaim.pre_eq_preRow]; exact lifted os started H enc F)

theorem cardHolds : Claim7.holds Tryd.pinned (.plain (Rows.OpenSpec.upto Rows.plainSameSpec)) Rows.plainSameUptoCard :=
  Claim7.holds_tied_plain_at .later [] [.data, .data, .data, .sentinel, .sentinel] true (true, "fe2fae6ff82c58dfd0b59c819f53057d7e11849afd26d074d8b73dfbafab4eed") true
    over (fun _ h => by cases h) (by kernel_rfl) (fun _ h => by cases h) plainSameUpto_row_tie rfl ⟨rfl, rfl⟩ (by kernel_rfl) rfl
    (fun f fn hf hfn => by
      obtain rfl : f = 14 := Option.some.inj ((show Tryd.prog.funcNamed "exactchange/xclaw5.PlainSame" = some 14 by kernel_rfl).symm.trans hf) |>.symm
      obtain rfl : fn = Tryd.f14 := (Option.some.inj (Tryd.func14.symm.trans hfn)).symm
      exact ⟨by kernel_rfl, fun j t ht => by
        rw [Tryd.params14] at ht
        have hm : t ∈ ([22, 9, 44, 3] : List TypeId) := by simpa using Array.mem_of_getElem? ht
        have hall : (([22, 9, 44, 3] : List TypeId).all fun u => !Tryd.prog.wantsStandIn u) = true := by kernel_rfl
        exact (show Tryd.prog.wantsStandIn t = false by simpa using List.all_eq_true.1 hall t hm)⟩)
    (by kernel_rfl)

/-- THE STATEMENT -/
theorem proved : Rows.PlainSameUptoCardSaid :=
  cardHolds
#print axioms proved
end plainSame
end Go.Proofs.YtapiiklnnkkdlaaDoor
