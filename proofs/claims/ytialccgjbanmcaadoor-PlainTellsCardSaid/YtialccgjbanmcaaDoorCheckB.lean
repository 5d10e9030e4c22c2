/- xcref1.twice, bad; scope.unlike; slices.ContainsFunc; the closures of scope.Check. Printed by gen_check_b.py. -/
import Derived.Test.YtialccgjbanmcaaDoorCheckA
namespace Go.Proofs.YtialccgjbanmcaaDoor
open Go.RowKit
attribute [local simp] runD mkRc ldOf ldArg noAny dstOk guardOk opEff opEff0 effOp pureOp callOp zEff evA constAV frGet memGet startAS frOf isGoCall idIn AS.after nextR opnIds objIds AV.ids idsL AObj.ids frNo memNo opnAny isAny mkVal rdCells wrCells fldAddr idxAddr srcRows litRows toD1 toDs setAt sliceAV optI partAV bldAV fillAV binAV binI AV.cells callEff calleeOf frKill memKill AV.kill AObj.kill AV.has AV.hasL Op.operands Call.operands keepF keepM viewIds cChk renOf moGet moWs moQ cEff moLike moHave AV.ren renL AObj.ren AObj.like kept startC moMem AV.frz frz1 frzL frSub memSub frzs AS.frz frFrz memFrz AObj.frz takeMap takeLen bleF Nat.ble_eq memAny objAny mapOp D.keyOk rowAV valRow extOp wrapOp phO
set_option linter.unusedVariables false
set_option linter.unusedSimpArgs false

/-- Does a name stand twice? -/
def twB (l : List ByteArray) : Bool := (List.range l.length).any fun j => match l[j]? with | some x => hasB (l.take j) x | none => false
theorem twB_yes {l : List ByteArray} {i : Nat} {x : ByteArray} (h : l[i]? = some x) (hc : hasB (l.take i) x = true) : twB l = true := by
  unfold twB
  rw [List.any_eq_true]
  exact ⟨i, List.mem_range.2 (List.getElem?_eq_some_iff.1 h).1, by rw [h]; exact hc⟩
theorem twB_no {l : List ByteArray} (h : ∀ j < l.length, ∀ x, l[j]? = some x → hasB (l.take j) x = false) : twB l = false := by
  unfold twB
  rw [List.any_eq_false]
  intro j hj
  have := h j (List.mem_range.1 hj)
  revert this
  cases l[j]? with
  | none => simp
  | some c => intro h; simp [h c rfl]
theorem twB_snoc {l : List ByteArray} {i : Nat} {x : ByteArray} (h1 : l[i]? = some x) (ht : ∀ j < i, ∀ x, l[j]? = some x → hasB (l.take j) x = false) (hc : hasB (l.take i) x = false) : ∀ j < i + 1, ∀ x, l[j]? = some x → hasB (l.take j) x = false := fun j hj c' hc' => by
  rcases Nat.lt_or_ge j i with hlt | hge
  · exact ht j hlt c' hc'
  · obtain rfl : j = i := by omega
    rw [h1] at hc'
    cases hc'
    exact hc

set_option maxHeartbeats 1000000 in
theorem sp_twice (l : List ByteArray) (hl : l.length ≤ 8796093022208) : PSpec Tryd.prog 46 [strsAV l] (fun _ => .d (.bool (twB l))) none := by
  refine PSpec.of Tryd.func46 rfl rfl rfl (Nat.le_of_ble_eq_true rfl) ?_
  show AWp _ _ (endQ _ Tryd.f46 _ _ _) (startAS 18 _)
  repeat (first | refine AWp.seq ?_ | refine AWp.block ?_)
  apply AWp.reg [] []
  · conv => lhs; simp
  · trivial
  repeat (first | refine AWp.seq ?_ | refine AWp.block ?_)
  apply AWp.reg [] []
  · conv => lhs; simp
  · trivial
  repeat (first | refine AWp.seq ?_ | refine AWp.block ?_)
  refine AWp.loop (σ := fun u : {i : Nat // i ≤ l.length ∧ ∀ j < i, ∀ x, l[j]? = some x → hasB (l.take j) x = false} => ⟨18, [(0, strsAV l), (5, strsAV l), (6, .d (.int l.length)), (7, .d (.int u.1))], []⟩)
    (μ := fun u => l.length - u.1) ⟨0, Nat.zero_le _, by simp⟩ (Le.sub (by simp) (by simp)) (fun ⟨i, hi, ht⟩ => ?_)
  dsimp only
  repeat (first | refine AWp.seq ?_ | refine AWp.block ?_)
  apply AWp.reg [] []
  · conv => lhs; simp
  · trivial
  repeat (first | refine AWp.seq ?_ | refine AWp.block ?_)
  refine AWp.cond rfl (fun h => ?_) (fun h => ?_)
  · have hi1 : i < l.length := by have := of_decide_eq_true h; omega
    have h1 : l[i]? = some l[i] := List.getElem?_eq_getElem hi1
    generalize l[i] = x at h1
    have hp := sp_Has (l.take i) x (by simp; omega)
    have hs := fun hc => twB_snoc (i := i) h1 ht hc
    have hy := fun hc => twB_yes (i := i) h1 hc
    have htl : (l.map strR).take i = (l.take i).map strR := by rw [List.map_take]
    obtain ⟨T, hT⟩ : ∃ T, T = l.take i := ⟨_, rfl⟩
    rw [← hT] at hp hs hy htl
    obtain ⟨B, hB⟩ : ∃ B, B = hasB T x := ⟨_, rfl⟩
    rw [← hB] at hp hs hy
    refine AWp.skip ?_
    repeat (first | refine AWp.seq ?_ | refine AWp.block ?_)
    apply AWp.reg [] []
    · conv => lhs; simp [h1]
    · first | trivial | omega | (simp [inI, maxLen]; done) | (simp [inI, maxLen]; omega)
    cases B with
    | true =>
      repeat (first | refine AWp.seq ?_ | refine AWp.block ?_)
      apply AWp.reg [] [.p (fun _ => .d (.bool true)) none]
      · conv => lhs; simp [htl]
      · exact ⟨by omega, hp⟩
      repeat (first | refine AWp.seq ?_ | refine AWp.block ?_)
      refine AWp.cond rfl (fun h2 => ?_) (fun h2 => ?_)
      rotate_left
      · cases h2
      repeat (first | refine AWp.seq ?_ | refine AWp.block ?_)
      apply AWp.reg [] []
      · conv => lhs; simp
      · first | trivial | omega | (simp [inI, maxLen]; done) | (simp [inI, maxLen]; omega)
      refine AWp.ret ?_
      try dsimp only [thenQ, blockQ]
      apply endQ.ret
      · rfl
      · conv => lhs; simp [resAV, Tryd.results46]
      rw [hy rfl]; rfl
    | false =>
      repeat (first | refine AWp.seq ?_ | refine AWp.block ?_)
      apply AWp.reg [] [.p (fun _ => .d (.bool false)) none]
      · conv => lhs; simp [htl]
      · exact ⟨by omega, hp⟩
      repeat (first | refine AWp.seq ?_ | refine AWp.block ?_)
      refine AWp.cond rfl (fun h2 => ?_) (fun h2 => ?_)
      · cases h2
      refine AWp.skip ?_
      repeat (first | refine AWp.seq ?_ | refine AWp.block ?_)
      apply AWp.reg [] []
      · conv => lhs; simp
      · first | trivial | omega | (simp [inI, maxLen]; done) | (simp [inI, maxLen]; omega)
      refine ⟨⟨i + 1, hi1, hs rfl⟩, by simp; omega, Le.sub (by simp) (by simp)⟩
  have hi1 : i = l.length := by have := of_decide_eq_false h; omega
  subst hi1
  have hn := twB_no ht
  refine AWp.exit ?_
  repeat (first | refine AWp.seq ?_ | refine AWp.block ?_)
  apply AWp.reg [] []
  · conv => lhs; simp
  · trivial
  refine AWp.ret ?_
  try dsimp only [thenQ, blockQ]
  apply endQ.ret
  · rfl
  · conv => lhs; simp [resAV, Tryd.results46]
  rw [hn]; rfl

/-- Is one no name? -/
def badB (l : List ByteArray) : Bool := l.any fun s => !nameB s
set_option maxHeartbeats 1000000 in
theorem sp_bad (l : List ByteArray) (hl : l.length ≤ 8796093022208) (hs : ∀ s ∈ l, s.size ≤ 9223372036854775806) : PSpec Tryd.prog 47 [strsAV l] (fun _ => .d (.bool (badB l))) none := by
  refine PSpec.of Tryd.func47 rfl rfl rfl (Nat.le_of_ble_eq_true rfl) ?_
  show AWp _ _ (endQ _ Tryd.f47 _ _ _) (startAS 15 _)
  repeat (first | refine AWp.seq ?_ | refine AWp.block ?_)
  apply AWp.reg [] []
  · conv => lhs; simp
  · trivial
  repeat (first | refine AWp.seq ?_ | refine AWp.block ?_)
  apply AWp.reg [] []
  · conv => lhs; simp
  · trivial
  repeat (first | refine AWp.seq ?_ | refine AWp.block ?_)
  refine AWp.loop (σ := fun u : {i : Nat // i ≤ l.length ∧ ∀ y ∈ l.take i, (!nameB y) = false} => ⟨15, [(5, strsAV l), (6, .d (.int l.length)), (7, .d (.int u.1))], []⟩)
    (μ := fun u => l.length - u.1) ⟨0, Nat.zero_le _, by simp⟩ (Le.sub (by simp) (by simp)) (fun ⟨i, hi, ht⟩ => ?_)
  dsimp only
  repeat (first | refine AWp.seq ?_ | refine AWp.block ?_)
  apply AWp.reg [] []
  · conv => lhs; simp
  · trivial
  repeat (first | refine AWp.seq ?_ | refine AWp.block ?_)
  refine AWp.cond rfl (fun h => ?_) (fun h => ?_)
  · have hi1 : i < l.length := by have := of_decide_eq_true h; omega
    have h1 : l[i]? = some l[i] := List.getElem?_eq_getElem hi1
    have hmem : l[i] ∈ l := List.getElem_mem hi1
    generalize l[i] = x at h1 hmem
    have hp := sp_Name x (hs x hmem)
    obtain ⟨B, hB⟩ : ∃ B, B = nameB x := ⟨_, rfl⟩
    rw [← hB] at hp
    refine AWp.skip ?_
    repeat (first | refine AWp.seq ?_ | refine AWp.block ?_)
    apply AWp.reg [] []
    · conv => lhs; simp [h1]
    · first | trivial | omega | (simp [inI, maxLen]; done) | (simp [inI, maxLen]; omega)
    cases B with
    | true =>
      repeat (first | refine AWp.seq ?_ | refine AWp.block ?_)
      apply AWp.reg [] [.p (fun _ => .d (.bool true)) none]
      · conv => lhs; simp
      · exact hp
      repeat (first | refine AWp.seq ?_ | refine AWp.block ?_)
      refine AWp.cond rfl (fun h2 => ?_) (fun h2 => ?_)
      · cases h2
      refine AWp.skip ?_
      repeat (first | refine AWp.seq ?_ | refine AWp.block ?_)
      apply AWp.reg [] []
      · conv => lhs; simp
      · first | trivial | omega | (simp [inI, maxLen]; done) | (simp [inI, maxLen]; omega)
      refine ⟨⟨i + 1, hi1, take_all_snoc h1 ht (by rw [← hB]; rfl)⟩, by simp; omega, Le.sub (by simp) (by simp)⟩
    | false =>
      repeat (first | refine AWp.seq ?_ | refine AWp.block ?_)
      apply AWp.reg [] [.p (fun _ => .d (.bool false)) none]
      · conv => lhs; simp
      · exact hp
      repeat (first | refine AWp.seq ?_ | refine AWp.block ?_)
      refine AWp.cond rfl (fun h2 => ?_) (fun h2 => ?_)
      rotate_left
      · cases h2
      repeat (first | refine AWp.seq ?_ | refine AWp.block ?_)
      apply AWp.reg [] []
      · conv => lhs; simp
      · first | trivial | omega | (simp [inI, maxLen]; done) | (simp [inI, maxLen]; omega)
      refine AWp.ret ?_
      try dsimp only [thenQ, blockQ]
      apply endQ.ret
      · rfl
      · conv => lhs; simp [resAV, Tryd.results47]
      rw [show badB l = true from List.any_eq_true.2 ⟨x, hmem, by rw [← hB]; rfl⟩]; rfl
  have hi1 : i = l.length := by have := of_decide_eq_false h; omega
  subst hi1
  rw [List.take_length] at ht
  refine AWp.exit ?_
  repeat (first | refine AWp.seq ?_ | refine AWp.block ?_)
  apply AWp.reg [] []
  · conv => lhs; simp
  · trivial
  refine AWp.ret ?_
  try dsimp only [thenQ, blockQ]
  apply endQ.ret
  · rfl
  · conv => lhs; simp [resAV, Tryd.results47]
  rw [show badB l = false from List.any_eq_false.2 fun y hy => by rw [ht y hy]; simp]; rfl

theorem indexI_any (l : List ByteArray) (p : ByteArray → Bool) : decide (0 ≤ indexI l p) = l.any p := by
  unfold indexI
  cases h : l.findIdx? p with
  | none =>
    rw [List.findIdx?_eq_none_iff] at h
    have : l.any p = false := List.any_eq_false.2 fun x hx => by simp [h x hx]
    rw [this]; rfl
  | some i =>
    rw [List.findIdx?_eq_some_iff_getElem] at h
    obtain ⟨h1, h2, _⟩ := h
    have : l.any p = true := List.any_eq_true.2 ⟨_, List.getElem_mem h1, h2⟩
    rw [this]
    simp
end Go.Proofs.YtialccgjbanmcaaDoor
