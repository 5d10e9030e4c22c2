import Derived.Test.YtnddiddkmhiclaaGreatDoorRunN
import Derived.Test.YtnddiddkmhiclaaGreatDoorCards
import Derived.Test.YtnddiddkmhiclaaGreatDoorTie
import Derived.LaidMore
import Derived.Stop.LaidErr
import Derived.Stop.Joined
import Derived.SevenTiedAt
import Derived.Deep.CondSized
import Derived.Deep.DeepWitnessRowRef
/-
  What is proved: exactchange/xclaw11.RunNone returns true, whatever it is handed, and leaves its arguments as they were (the statement as given, for what it reads of bulk at most 1048576).
  The frame of this text was printed by a small program of ours; it is modelled on the seat's proof-skeleton.
-/
namespace Go.Proofs.YtnddiddkmhiclaaGreatDoor
open Go.ChangeShapes Go.WideShapes Go.ChangeAt Go.RowKit
set_option linter.unusedVariables false
theorem ML (cs : List AV) (h : JA Tryz.prog [22, 3, 9, 23, 3] cs) (hb : VA cs ≤ 1048576) : Qv Tryz.prog 4 cs (fun _ => .d (.bool true)) none := by
  obtain ⟨c, r, rfl, h1, h⟩ := h.cons_inv
  obtain ⟨c0, r, rfl, h0, h⟩ := h.cons_inv
  obtain ⟨c2, r, rfl, h2, h⟩ := h.cons_inv
  obtain ⟨c3, r, rfl, h3, h⟩ := h.cons_inv
  obtain ⟨c4, r, rfl, h4, h⟩ := h.cons_inv
  cases h.Zv9
  obtain ⟨l, rfl, hl⟩ := Zg0 h1
  obtain ⟨v, rfl, _⟩ := h0.int Tryz.underlying3
  obtain ⟨name, rfl, _⟩ := h2.str Tryz.underlying9
  obtain ⟨args, rfl, _⟩ := h3.ints Tryz.underlying23 Tryz.underlying3
  obtain ⟨fuel, rfl, _⟩ := h4.int Tryz.underlying3
  simp only [VA, AV.bulk] at hb
  have hlen := Ur (args.map DF) (by simp [DF])
  rw [List.length_map] at hlen
  have hb2 : D.Tw (args.map DF) ≤ 1048576 := by
    have : D.bulk (.sl (args.map DF)) = D.Tw (args.map DF) + 1 := by rw [D.bulk]
    change _ + (_ + (_ + (D.bulk (.sl (args.map DF)) + _))) ≤ _ at hb
    omega
  exact LD l v name args fuel hl (by omega)
namespace runNone
theorem own : ownKnob Tryz.prog.godebug = none := by kernel_rfl
theorem plain : JY Tryz.prog [3, 4, 9, 22, 23, 50, 51, 52, 54, 56, 87] = true := by kernel_rfl
theorem laid : laidOutB Tryz.prog = true := by kernel_rfl
theorem Jx1 : ([22, 3, 9, 23, 3] : List TypeId).all (fun t => ([3, 4, 9, 22, 23, 50, 51, 52, 54, 56, 87] : List TypeId).contains t && Tryz.prog.readableRec t && decide (t < Tryz.prog.types.size)) = true := by kernel_rfl
theorem EL : "*" ++ "errors.errorString" = "*errors.errorString" := by decide
theorem BC (u : TypeId) (h : Tryz.prog.typeName? 3 u = some "*errors.errorString") : u = 190 :=
  typeName_ptr_named (nm := "errors.errorString") (by rw [EL]; kernel_rfl) (by kernel_rfl) (by decide) u (by rw [EL]; exact h)
theorem Qh9 (os : Os) (args : Array Value) : laidMetH Tryz.prog Rows.runNoneUptoRow.laid ((World.doorLaid Tryz.prog 400 os).forCall (fun _ _ => 0) ⟨#[], args, []⟩).memory :=
  laidMetH_of_parts3 (fuel := 8) (laidMet_of_run' 8 (by kernel_rfl) (by kernel_rfl)) (by kernel_rfl) (by kernel_rfl)
theorem Ct {W : World} (h : laidMetH Tryz.prog Rows.runNoneUptoRow.laid W) : GI W := by
  rw [MakeChecks.laidMetH_plain _ _ _ (by kernel_rfl)] at h
  obtain ⟨a1, s1, hr1, _⟩ := laid_sentinel (nm := "*errors.errorString") (g := 1) (ti := 137) (tp := 190) (te := 192) (ts := 9) h.tail.tail.tail (by kernel_rfl) (by kernel_rfl) Tryz.underlying137 BC Tryz.underlying190 Tryz.underlying192 rfl rfl Tryz.underlying9 (by kernel_rfl) (by kernel_rfl)
  obtain ⟨a2, s2, hr2, _⟩ := laid_sentinel (nm := "*errors.errorString") (g := 0) (ti := 137) (tp := 190) (te := 192) (ts := 9) h.tail.tail.tail.tail (by kernel_rfl) (by kernel_rfl) Tryz.underlying137 BC Tryz.underlying190 Tryz.underlying192 rfl rfl Tryz.underlying9 (by kernel_rfl) (by kernel_rfl)
  exact ⟨Lib.tabIs_of_head (g := 2) (by kernel_rfl) (by kernel_rfl) Tryz.underlying183 Tryz.underlying169 (by kernel_rfl) (by kernel_rfl) h.tail.tail, ⟨_, _, hr2⟩, ⟨_, _, hr1⟩⟩
theorem reads (os : Os) {H : Type} (enc : TypeId × Value → H) : ∃ places, DataW.whole enc Tryz.prog ((World.doorLaid Tryz.prog 400 os).forCall (fun _ _ => 0) ⟨#[], #[.slice none 0 0, .int .i64 0, .string ⟨#[]⟩, .slice none 0 0, .int .i64 0], []⟩).memory Tryz.f4.params.toList (Rows.OpenSpec.upto Rows.runNoneSpec).vars false (#[.slice none 0 0, .int .i64 0, .string ⟨#[]⟩, .slice none 0 0, .int .i64 0] : Array Value).toList 8 = some ([.nil, .lit (.int .i64 0), .lit (.string []), .nil, .lit (.int .i64 0)], [], places) :=
  ⟨[], by kernel_rfl⟩
set_option maxRecDepth 100000 in
theorem lifted (os : Os) (started : os.Started) (H : Type) (enc : TypeId × Value → H) (F : Stop.Interp) :
    ReturnsInHanded {} Tryz.checked os 4 .any ((Rows.OpenSpec.upto Rows.runNoneSpec).preRow enc Tryz.prog Tryz.f4 Rows.runNoneUptoRow.domain false Rows.runNoneUptoRow.laid) (((Rows.OpenSpec.upto Rows.runNoneSpec).at F).post enc Tryz.prog Tryz.f4 false true false false) := by
  obtain ⟨places, hx⟩ := reads os enc
  refine returnsInHanded_of_row (C := Tryz.checked) (s := Rows.OpenSpec.upto Rows.runNoneSpec) own started (by kernel_rfl) Tryz.func4
    (witness_row_atRef (enc := enc) (C := Tryz.checked) false (World.doorLaid Tryz.prog 400 os) #[.slice none 0 0, .int .i64 0, .string ⟨#[]⟩, .slice none 0 0, .int .i64 0] rfl (by kernel_rfl) (by kernel_rfl) (by kernel_rfl)
      (OpenSpec.preRow_of_cond 8 hx (by kernel_rfl) (fun k hk => by cases hk; kernel_rfl) (by kernel_rfl) (Qh9 os _))) ?_
  intro W base args ds gs before hval hW _ hcond hw hL _ _
  have hb : Rows.uptoBulkAll ds ≤ 1048576 := by
    have hgs : gs = [] := by
      obtain ⟨p, q, _, hV, _⟩ := hW
      exact (trodVars_none hV).1
    subst hgs
    have := of_decide_eq_true (hcond _ rfl)
    rwa [List.append_nil] at this
  have hr := List.all_eq_true.1 Jx1
  simp only [Bool.and_eq_true, decide_eq_true_eq] at hr
  refine PR (S := [3, 4, 9, 22, 23, 50, 51, 52, 54, 56, 87]) plain (tb := 4) (fn := Tryz.f4) (by rw [Tryz.params4]; exact fun t ht => by simpa using (hr t ht).1.1) rfl (by rfl) Tryz.underlying4 laid (by rw [Tryz.params4]; exact fun t ht => ⟨(hr t ht).1.2, (hr t ht).2⟩) (fun ds hl => ?_) (B := 1048576) ?_ hb hval hW hw (Ct hL)
  · rw [Tryz.params4] at hl
    match ds, hl with
    | [d1, d2, d3, d4, d5], _ => rfl
  · rw [Tryz.params4]
    exact fun cs h hb => ML cs h hb
theorem over : Rows.runNoneUptoRow.holds Tryz.pinned (Rows.OpenSpec.upto Rows.runNoneSpec) :=
  OpenClaim.holds_of_cond 4 Tryz.f4 rfl rfl rfl rfl rfl rfl rfl ⟨rfl, rfl, rfl, rfl, rfl⟩ rfl rfl rfl rfl rfl (by kernel_rfl) Tryz.func4 (by kernel_rfl)
    (of_decide_eq_true (by kernel_rfl)) (by unfold Func.isWrapper; first | (rw [if_pos (by decide +kernel)]; kernel_rfl) | (rw [if_neg (by decide +kernel)]; exact ⟨rfl, rfl⟩))
    (fun os started H enc _ F => by rw [OpenClaim.pre_eq_preRow]; exact lifted os started H enc F)
theorem cardHolds : Claim7.holds Tryz.pinned (.plain (Rows.OpenSpec.upto Rows.runNoneSpec)) Rows.runNoneUptoCard :=
  Claim7.holds_tied_plain_at .later [] [.data, .data, .data, .sentinel, .sentinel] true (true, "7a241fc330ebf04a3e24468360fd8adba8f4391932b4637fdd58f5f5fa37cac2") true
    over (fun _ h => by cases h) (by kernel_rfl) (fun _ h => by cases h) runNoneUpto_row_tie rfl ⟨rfl, rfl⟩ (by kernel_rfl) rfl
    (fun f fn hf hfn => by
      obtain rfl : f = 4 := Option.some.inj ((show Tryz.prog.funcNamed "exactchange/xclaw11.RunNone" = some 4 by kernel_rfl).symm.trans hf) |>.symm
      obtain rfl : fn = Tryz.f4 := (Option.some.inj (Tryz.func4.symm.trans hfn)).symm
      exact ⟨by kernel_rfl, fun j t ht => by
        rw [Tryz.params4] at ht
        have hm : t ∈ ([22, 3, 9, 23, 3] : List TypeId) := by simpa using Array.mem_of_getElem? ht
        have hall : (([22, 3, 9, 23, 3] : List TypeId).all fun u => !Tryz.prog.wantsStandIn u) = true := by kernel_rfl
        exact (show Tryz.prog.wantsStandIn t = false by simpa using List.all_eq_true.1 hall t hm)⟩)
    (by kernel_rfl)
/-- THE STATEMENT -/
theorem proved : Rows.RunNoneUptoCardSaid :=
  cardHolds
#print axioms proved
end runNone
end Go.Proofs.YtnddiddkmhiclaaGreatDoor
