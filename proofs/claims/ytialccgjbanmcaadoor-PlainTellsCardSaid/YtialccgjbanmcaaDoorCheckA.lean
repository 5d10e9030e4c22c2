/- xcref1.Name, twice, bad; scope.unlike, slices.ContainsFunc, by the abstract machine. -/
import Derived.Test.YtialccgjbanmcaaDoorFreeD
namespace Go.Proofs.YtialccgjbanmcaaDoor
open Go.RowKit
attribute [local simp] runD mkRc ldOf ldArg noAny dstOk guardOk opEff opEff0 effOp pureOp callOp zEff evA constAV frGet memGet startAS frOf isGoCall idIn AS.after nextR opnIds objIds AV.ids idsL AObj.ids frNo memNo opnAny isAny mkVal rdCells wrCells fldAddr idxAddr srcRows litRows toD1 toDs setAt sliceAV optI partAV bldAV fillAV binAV binI AV.cells callEff calleeOf frKill memKill AV.kill AObj.kill AV.has AV.hasL Op.operands Call.operands keepF keepM viewIds cChk renOf moGet moWs moQ cEff moLike moHave AV.ren renL AObj.ren AObj.like kept startC moMem AV.frz frz1 frzL frSub memSub frzs AS.frz frFrz memFrz AObj.frz takeMap takeLen bleF Nat.ble_eq memAny objAny mapOp D.keyOk rowAV valRow extOp wrapOp phO
set_option linter.unusedVariables false
set_option linter.unusedSimpArgs false

@[simp] theorem u8min : IntKind.u8.min = 0 := rfl
@[simp] theorem u8max : IntKind.u8.max = 255 := rfl
@[simp] theorem i32min : IntKind.i32.min = -2147483648 := rfl
@[simp] theorem i32max : IntKind.i32.max = 2147483647 := rfl

/-- A name's byte at its place. -/
def chOk (i : Nat) (c : UInt8) : Bool := (decide ((97 : Int) ≤ c.toNat) && decide ((c.toNat : Int) ≤ 122)) || ((decide ((48 : Int) ≤ c.toNat) && decide ((c.toNat : Int) ≤ 57)) && !(i == 0))
/-- Is it a name? -/
def nameB (s : ByteArray) : Bool := ((List.range s.size).all fun j => match s[j]? with | some c => chOk j c | none => true) && (decide (1 ≤ (s.size : Int)) && decide ((s.size : Int) ≤ 8))
theorem nameB_bad {s : ByteArray} {i : Nat} {c : UInt8} (h : s[i]? = some c) (hi : i < s.size) (hc : chOk i c = false) : nameB s = false := by
  unfold nameB
  rw [Bool.and_eq_false_iff]
  left
  rw [List.all_eq_false]
  exact ⟨i, List.mem_range.2 hi, by rw [h]; simp [hc]⟩
theorem nameB_good {s : ByteArray} (h : ∀ j < s.size, ∀ c, s[j]? = some c → chOk j c = true) : nameB s = (decide (1 ≤ (s.size : Int)) && decide ((s.size : Int) ≤ 8)) := by
  unfold nameB
  have : ((List.range s.size).all fun j => match s[j]? with | some c => chOk j c | none => true) = true := by
    rw [List.all_eq_true]
    intro j hj
    have := h j (List.mem_range.1 hj)
    revert this
    cases s[j]? with
    | none => intro _; rfl
    | some c => intro h; exact h c rfl
  rw [this, Bool.true_and]

set_option maxRecDepth 20000 in
set_option maxHeartbeats 4000000 in
theorem sp_Name (s : ByteArray) (hs : s.size ≤ 9223372036854775806) : PSpec Tryd.prog 45 [.d (.str s)] (fun _ => .d (.bool (nameB s))) none := by
  refine PSpec.of Tryd.func45 rfl rfl rfl (Nat.le_of_ble_eq_true rfl) ?_
  show AWp _ _ (endQ _ Tryd.f45 _ _ _) (startAS 50 _)
  repeat (first | refine AWp.seq ?_ | refine AWp.block ?_)
  apply AWp.reg [] []
  · conv => lhs; simp
  · trivial
  repeat (first | refine AWp.seq ?_ | refine AWp.block ?_)
  apply AWp.reg [] []
  · conv => lhs; simp
  · trivial
  repeat (first | refine AWp.seq ?_ | refine AWp.block ?_)
  refine AWp.loop (σ := fun u : {i : Nat // i ≤ s.size ∧ ∀ j < i, ∀ c, s[j]? = some c → chOk j c = true} => ⟨50, [(0, .d (.str s)), (7, .d (.int s.size)), (8, .d (.int u.1))], []⟩)
    (μ := fun u => s.size - u.1) ⟨0, Nat.zero_le _, by simp⟩ (Le.sub (by simp) (by simp)) (fun ⟨i, hi, ht⟩ => ?_)
  dsimp only
  repeat (first | refine AWp.seq ?_ | refine AWp.block ?_)
  apply AWp.reg [] []
  · conv => lhs; simp
  · trivial
  repeat (first | refine AWp.seq ?_ | refine AWp.block ?_)
  refine AWp.cond rfl (fun h => ?_) (fun h => ?_)
  · have hi1 : i < s.size := by have := of_decide_eq_true h; omega
    have h1 : s[i]? = some s[i] := by rw [getElem?_pos]
    generalize s[i] = c at h1
    have hc : chOk i c = ((decide ((97 : Int) ≤ c.toNat) && decide ((c.toNat : Int) ≤ 122)) || ((decide ((48 : Int) ≤ c.toNat) && decide ((c.toNat : Int) ≤ 57)) && !(i == 0))) := rfl
    obtain ⟨A, hA⟩ : ∃ A, A = decide ((97 : Int) ≤ c.toNat) := ⟨_, rfl⟩
    obtain ⟨B, hB⟩ : ∃ B, B = decide ((c.toNat : Int) ≤ 122) := ⟨_, rfl⟩
    obtain ⟨C, hC⟩ : ∃ C, C = decide ((48 : Int) ≤ c.toNat) := ⟨_, rfl⟩
    obtain ⟨E, hE⟩ : ∃ E, E = decide ((c.toNat : Int) ≤ 57) := ⟨_, rfl⟩
    rw [← hA, ← hB, ← hC, ← hE] at hc
    refine AWp.skip ?_
    repeat (first | refine AWp.seq ?_ | refine AWp.block ?_)
    apply AWp.reg [] []
    · conv => lhs; simp
    · trivial
    refine AWp.seqJ ⟨50, [(0, .d (.str s)), (3, .d (.int i)), (4, .d (.bool (A && B))), (5, .d (.bool (C && E))), (7, .d (.int s.size)), (8, .d (.int i))], []⟩ ?_ (fun W hW => ?_)
    rotate_left
    · cases A <;> cases B <;> cases C <;> cases E
      all_goals (
        have qA := hA.symm
        have qB := hB.symm
        have qC := hC.symm
        have qE := hE.symm
        simp only [decide_eq_true_eq, decide_eq_false_iff_not] at qA qB qC qE
        repeat (first | refine AWp.seq ?_ | refine AWp.block ?_)
        apply AWp.draw [] [] mixed
        · conv => lhs; simp [h1, qA, qB, qC, qE]
        · kernel_rfl
        · first | trivial | omega | (simp [inI, maxLen]; done) | (simp [inI, maxLen]; omega)
        exact hW _ (Le.sub (by simp) (by simp)))
    obtain ⟨L, hL⟩ : ∃ L, L = (A && B) := ⟨_, rfl⟩
    obtain ⟨G, hG⟩ : ∃ G, G = (C && E) := ⟨_, rfl⟩
    rw [← hL, ← hG] at hc ⊢
    have step : chOk i c = true → ∀ j < i + 1, ∀ c, s[j]? = some c → chOk j c = true := fun hok j hj c' hc' => by
      rcases Nat.lt_or_ge j i with hlt | hge
      · exact ht j hlt c' hc'
      · obtain rfl : j = i := by omega
        rw [h1] at hc'
        cases hc'
        exact hok
    by_cases hz : i = 0
    · subst hz
      cases L <;> cases G
      all_goals first
        | (
          have hbad := nameB_bad h1 hi1 (by rw [hc]; rfl)
          repeat (first | refine AWp.seq ?_ | refine AWp.block ?_)
          apply AWp.reg [] []
          · conv => lhs; simp
          · first | trivial | omega | (simp [inI, maxLen]; done) | (simp [inI, maxLen]; omega)
          repeat (first | refine AWp.seq ?_ | refine AWp.block ?_)
          refine AWp.cond rfl (fun h2 => ?_) (fun h2 => ?_)
          rotate_left
          · cases h2
          repeat (first | refine AWp.seq ?_ | refine AWp.block ?_)
          apply AWp.reg [] []
          · conv => lhs; simp
          · first | trivial | omega | (simp [inI, maxLen]; done) | (simp [inI, maxLen]; omega)
          refine AWp.ret ?_
          try dsimp only [thenQ, blockQ]
          apply endQ.ret
          · rfl
          · conv => lhs; simp [resAV, Tryd.results45]
          rw [hbad]; rfl)
        | (
          have hgood := step (by rw [hc]; rfl)
          repeat (first | refine AWp.seq ?_ | refine AWp.block ?_)
          apply AWp.reg [] []
          · conv => lhs; simp
          · first | trivial | omega | (simp [inI, maxLen]; done) | (simp [inI, maxLen]; omega)
          repeat (first | refine AWp.seq ?_ | refine AWp.block ?_)
          refine AWp.cond rfl (fun h2 => ?_) (fun h2 => ?_)
          · cases h2
          refine AWp.skip ?_
          repeat (first | refine AWp.seq ?_ | refine AWp.block ?_)
          apply AWp.reg [] []
          · conv => lhs; simp
          · first | trivial | omega | (simp [inI, maxLen]; done) | (simp [inI, maxLen]; omega)
          refine ⟨⟨0 + 1, hi1, hgood⟩, by simp; omega, Le.sub (by simp) (by simp)⟩)
    · have hz' : ¬ (i : Int) = 0 := by omega
      have hzb : (i == 0) = false := by simp [hz]
      rw [hzb] at hc
      cases L <;> cases G
      all_goals first
        | (
          have hbad := nameB_bad h1 hi1 (by rw [hc]; rfl)
          repeat (first | refine AWp.seq ?_ | refine AWp.block ?_)
          apply AWp.reg [] []
          · conv => lhs; simp [hz]
          · first | trivial | omega | (simp [inI, maxLen]; done) | (simp [inI, maxLen]; omega)
          repeat (first | refine AWp.seq ?_ | refine AWp.block ?_)
          refine AWp.cond rfl (fun h2 => ?_) (fun h2 => ?_)
          rotate_left
          · cases h2
          repeat (first | refine AWp.seq ?_ | refine AWp.block ?_)
          apply AWp.reg [] []
          · conv => lhs; simp
          · first | trivial | omega | (simp [inI, maxLen]; done) | (simp [inI, maxLen]; omega)
          refine AWp.ret ?_
          try dsimp only [thenQ, blockQ]
          apply endQ.ret
          · rfl
          · conv => lhs; simp [resAV, Tryd.results45]
          rw [hbad]; rfl)
        | (
          have hgood := step (by rw [hc]; rfl)
          repeat (first | refine AWp.seq ?_ | refine AWp.block ?_)
          apply AWp.reg [] []
          · conv => lhs; simp [hz]
          · first | trivial | omega | (simp [inI, maxLen]; done) | (simp [inI, maxLen]; omega)
          repeat (first | refine AWp.seq ?_ | refine AWp.block ?_)
          refine AWp.cond rfl (fun h2 => ?_) (fun h2 => ?_)
          · cases h2
          refine AWp.skip ?_
          repeat (first | refine AWp.seq ?_ | refine AWp.block ?_)
          apply AWp.reg [] []
          · conv => lhs; simp
          · first | trivial | omega | (simp [inI, maxLen]; done) | (simp [inI, maxLen]; omega)
          refine ⟨⟨i + 1, hi1, hgood⟩, by simp; omega, Le.sub (by simp) (by simp)⟩)
  have hi1 : i = s.size := by have := of_decide_eq_false h; omega
  subst hi1
  have hg := nameB_good ht
  rw [hg]
  refine AWp.exit ?_
  by_cases g1 : (1 : Int) ≤ s.size
  · by_cases g2 : (s.size : Int) ≤ 8
    · repeat (first | refine AWp.seq ?_ | refine AWp.block ?_)
      apply AWp.reg [] []
      · conv => lhs; simp [g1, g2]
      · first | trivial | omega | (simp [inI, maxLen]; done) | (simp [inI, maxLen]; omega)
      refine AWp.ret ?_
      try dsimp only [thenQ, blockQ]
      apply endQ.ret
      · rfl
      · conv => lhs; simp [resAV, Tryd.results45]
      rw [decide_eq_true g1, decide_eq_true g2]; rfl
    · repeat (first | refine AWp.seq ?_ | refine AWp.block ?_)
      apply AWp.reg [] []
      · conv => lhs; simp [g1, g2]
      · first | trivial | omega | (simp [inI, maxLen]; done) | (simp [inI, maxLen]; omega)
      refine AWp.ret ?_
      try dsimp only [thenQ, blockQ]
      apply endQ.ret
      · rfl
      · conv => lhs; simp [resAV, Tryd.results45]
      rw [decide_eq_true g1, decide_eq_false g2]; rfl
  · repeat (first | refine AWp.seq ?_ | refine AWp.block ?_)
    apply AWp.reg [] []
    · conv => lhs; simp [g1]
    · first | trivial | omega | (simp [inI, maxLen]; done) | (simp [inI, maxLen]; omega)
    refine AWp.ret ?_
    try dsimp only [thenQ, blockQ]
    apply endQ.ret
    · rfl
    · conv => lhs; simp [resAV, Tryd.results45]
    rw [decide_eq_false g1]; rfl
end Go.Proofs.YtialccgjbanmcaaDoor
