import Derived.Test.YtapiiklnnkkdlaaDoorRows
import Derived.Test.YtapiiklnnkkdlaaDoorOpen
import Derived.Test.YtapiiklnnkkdlaaDoorTextR
import Derived.Test.YtapiiklnnkkdlaaDoorCards
import Derived.Test.YtapiiklnnkkdlaaDoorTie
import Derived.LaidMore
import Derived.Lib.LaidTab
import Derived.Stop.LaidErr
import Derived.Stop.Joined
import Derived.SevenTiedAt
import Derived.ProofKit
import Derived.OpenShut
import Derived.Deep.CondSized
import Derived.Deep.DeepWitnessRowRef
/-
  What is proved: exactchange/xclaw1.TextTells returns true, whatever it is handed, and leaves its arguments as they were (the statement as given, for what it reads of bulk at most 1048576).
  The frame of this text was printed by a small program of ours; it is modelled on the seat's proof-skeleton.
-/
namespace Go.Proofs.YtapiiklnnkkdlaaDoor
open Go.ChangeShapes Go.WideShapes Go.ChangeAt Go.RowKit
set_option linter.unusedVariables false
theorem spec_TextTells (cs : List AV) (h : ArgsRT Tryd.prog [9, 22] cs) (hb : avBulk cs ≤ 1048576) : PSpec Tryd.prog 10 cs (fun _ => .d (.bool true)) none := by
  obtain ⟨c, r, rfl, h1, h⟩ := h.cons_inv
  obtain ⟨c2, r, rfl, h2, h⟩ := h.cons_inv
  cases h.nil_inv
  obtain ⟨s, rfl, hs⟩ := h1.str Tryd.underlying9
  obtain ⟨l, rfl, hl⟩ := fns_inv h2
  obtain ⟨d, hd, hrt⟩ := h2.one_inv (fun fs => by rw [Tryd.underlying22]; simp)
  injection hd with hd
  subst hd
  have hn := hrt.nums
  simp only [avBulk, AV.bulk, D.bulk] at hb
  have hw := Fn.wtL_bulk l
  unfold reachBytes at hs
  exact sp_TextTells s l (by omega) hl.len (fns_in hn.1) (by omega)

namespace textTells

theorem own : ownKnob Tryd.prog.godebug = none := by kernel_rfl
theorem plain : plainSet Tryd.prog [3, 4, 9, 22, 30, 31, 32, 34, 36, 40] = true := by kernel_rfl
theorem laid : laidOutB Tryd.prog = true := by kernel_rfl
theorem rowed : ([9, 22] : List TypeId).all (fun t => ([3, 4, 9, 22, 30, 31, 32, 34, 36, 40] : List TypeId).contains t && Tryd.prog.readableRec t && decide (t < Tryd.prog.types.size)) = true := by kernel_rfl

theorem err_star : "*" ++ "errors.errorString" = "*errors.errorString" := by decide
theorem row_err (u : TypeId) (h : Tryd.prog.typeName? 3 u = some "*errors.errorString") : u = 206 :=
  typeName_ptr_named (nm := "errors.errorString") (by rw [err_star]; kernel_rfl) (by kernel_rfl) (by decide) u (by rw [err_star]; exact h)
theorem door_met (os : Os) (args : Array Value) : laidMetH Tryd.prog Rows.textTellsUptoRow.laid ((World.doorLaid Tryd.prog 400 os).forCall (fun _ _ => 0) ⟨#[], args, []⟩).memory :=
  laidMetH_of_parts3 (fuel := 8) (laidMet_of_run' 8 (by kernel_rfl) (by kernel_rfl)) (by kernel_rfl) (by kernel_rfl)
theorem gi_of_laid {W : World} (h : laidMetH Tryd.prog Rows.textTellsUptoRow.laid W) : GI W := by
  rw [MakeChecks.laidMetH_plain _ _ _ (by kernel_rfl)] at h
  obtain ⟨a1, s1, hr1, _⟩ := laid_sentinel (nm := "*errors.errorString") (g := 2) (ti := 172) (tp := 206) (te := 208) (ts := 9) h.tail.tail.tail (by kernel_rfl) (by kernel_rfl) Tryd.underlying172 row_err Tryd.underlying206 Tryd.underlying208 rfl rfl Tryd.underlying9 (by kernel_rfl) (by kernel_rfl)
  obtain ⟨a2, s2, hr2, _⟩ := laid_sentinel (nm := "*errors.errorString") (g := 1) (ti := 172) (tp := 206) (te := 208) (ts := 9) h.tail.tail.tail.tail (by kernel_rfl) (by kernel_rfl) Tryd.underlying172 row_err Tryd.underlying206 Tryd.underlying208 rfl rfl Tryd.underlying9 (by kernel_rfl) (by kernel_rfl)
  exact ⟨Lib.tabIs_of_head (g := 0) (by kernel_rfl) (by kernel_rfl) Tryd.underlying192 Tryd.underlying178 (by kernel_rfl) (by kernel_rfl) h.tail.tail, ⟨_, _, hr2⟩, ⟨_, _, hr1⟩⟩

theorem reads (os : Os) {H : Type} (enc : TypeId × Value → H) : ∃ places, DataW.whole enc Tryd.prog ((World.doorLaid Tryd.prog 400 os).forCall (fun _ _ => 0) ⟨#[], #[.string ⟨#[]⟩, .slice none 0 0], []⟩).memory Tryd.f10.params.toList (Rows.OpenSpec.upto Rows.textTellsSpec).vars false (#[.string ⟨#[]⟩, .slice none 0 0] : Array Value).toList 8 = some ([.lit (.string []), .nil], [], places) :=
  ⟨[], by kernel_rfl⟩
set_option maxRecDepth 100000 in
theorem lifted (os : Os) (started : os.Started) (H : Type) (enc : TypeId × Value → H) (F : Stop.Interp) :
    ReturnsInHanded {} Tryd.checked os 10 .any ((Rows.OpenSpec.upto Rows.textTellsSpec).preRow enc Tryd.prog Tryd.f10 Rows.textTellsUptoRow.domain false Rows.textTellsUptoRow.laid) (((Rows.OpenSpec.upto Rows.textTellsSpec).at F).post enc Tryd.prog Tryd.f10 false true false false) := by
  obtain ⟨places, hx⟩ := reads os enc
  refine returnsInHanded_of_row (C := Tryd.checked) (s := Rows.OpenSpec.upto Rows.textTellsSpec) own started (by kernel_rfl) Tryd.func10
    (witness_row_atRef (enc := enc) (C := Tryd.checked) false (World.doorLaid Tryd.prog 400 os) #[.string ⟨#[]⟩, .slice none 0 0] rfl (by kernel_rfl) (by kernel_rfl) (by kernel_rfl)
      (OpenSpec.preRow_of_cond 8 hx (by kernel_rfl) (fun k hk => by cases hk; kernel_rfl) (by kernel_rfl) (door_met os _))) ?_
  intro W base args ds gs before hval hW _ hcond hw hL _ _
  have hb : Rows.uptoBulkAll ds ≤ 1048576 := by
    have hgs : gs = [] := by
      obtain ⟨p, q, _, hV, _⟩ := hW
      exact (trodVars_none hV).1
    subst hgs
    have := of_decide_eq_true (hcond _ rfl)
    rwa [List.append_nil] at this
  have hr := List.all_eq_true.1 rowed
  simp only [Bool.and_eq_true, decide_eq_true_eq] at hr
  refine law_contract (S := [3, 4, 9, 22, 30, 31, 32, 34, 36, 40]) plain (tb := 4) (fn := Tryd.f10) (by rw [Tryd.params10]; exact fun t ht => by simpa using (hr t ht).1.1) rfl (by rfl) Tryd.underlying4 laid (by rw [Tryd.params10]; exact fun t ht => ⟨(hr t ht).1.2, (hr t ht).2⟩) (fun ds hl => ?_) (B := 1048576) ?_ hb hval hW hw (gi_of_laid hL)
  · rw [Tryd.params10] at hl
    match ds, hl with
    | [d1, d2], _ => rfl
  · rw [Tryd.params10]
    exact fun cs h hb => spec_TextTells cs h hb

theorem over : Rows.textTellsUptoRow.holds Tryd.pinned (Rows.OpenSpec.upto Rows.textTellsSpec) :=
  OpenClaim.holds_of_cond 10 Tryd.f10 rfl rfl rfl rfl rfl rfl rfl ⟨rfl, rfl, rfl, rfl, rfl⟩ rfl rfl rfl rfl rfl (by kernel_rfl) Tryd.func10 (by kernel_rfl)
    (of_decide_eq_true (by kernel_rfl)) (by unfold Func.isWrapper; first | (rw [if_pos (by decide +kernel)]; kernel_rfl) | (rw [if_neg (by decide +kernel)]; exact ⟨rfl, rfl⟩))
    (fun os started H enc _ F => by rw [OpenClaim.pre_eq_preRow]; exact lifted os started H enc F)

theorem cardHolds : Claim7.holds Tryd.pinned (.plain (Rows.OpenSpec.upto Rows.textTellsSpec)) Rows.textTellsUptoCard :=
  Claim7.holds_tied_plain_at .later [] [.data, .data, .data, .sentinel, .sentinel] true (true, "fe2fae6ff82c58dfd0b59c819f53057d7e11849afd26d074d8b73dfbafab4eed") true
    over (fun _ h => by cases h) (by kernel_rfl) (fun _ h => by cases h) textTellsUpto_row_tie rfl ⟨rfl, rfl⟩ (by kernel_rfl) rfl
    (fun f fn hf hfn => by
      obtain rfl : f = 10 := Option.some.inj ((show Tryd.prog.funcNamed "exactchange/xclaw1.TextTells" = some 10 by kernel_rfl).symm.trans hf) |>.symm
      obtain rfl : fn = Tryd.f10 := (Option.some.inj (Tryd.func10.symm.trans hfn)).symm
      exact ⟨by kernel_rfl, fun j t ht => by
        rw [Tryd.params10] at ht
        have hm : t ∈ ([9, 22] : List TypeId) := by simpa using Array.mem_of_getElem? ht
        have hall : (([9, 22] : List TypeId).all fun u => !Tryd.prog.wantsStandIn u) = true := by kernel_rfl
        exact (show Tryd.prog.wantsStandIn t = false by simpa using List.all_eq_true.1 hall t hm)⟩)
    (by kernel_rfl)

/-- THE STATEMENT -/
theorem proved : Rows.TextTellsUptoCardSaid :=
  cardHolds
#print axioms proved
end textTells
end Go.Proofs.YtapiiklnnkkdlaaDoor
