/- Lists of names: xcref1.Has, slices.Index, Contains, IndexFunc, DeleteFunc, scope.add, scope.without, by the abstract machine. -/
import Derived.Test.YtialccgjbanmcaaDoorScopeA
namespace Go.Proofs.YtialccgjbanmcaaDoor
open Go.RowKit
attribute [local simp] runD mkRc ldOf ldArg noAny dstOk guardOk opEff opEff0 effOp pureOp callOp zEff evA constAV frGet memGet startAS frOf isGoCall idIn AS.after nextR opnIds objIds AV.ids idsL AObj.ids frNo memNo opnAny isAny mkVal rdCells wrCells fldAddr idxAddr srcRows litRows toD1 toDs setAt sliceAV optI partAV bldAV fillAV binAV binI AV.cells callEff calleeOf frKill memKill AV.kill AObj.kill AV.has AV.hasL Op.operands Call.operands keepF keepM viewIds cChk renOf moGet moWs moQ cEff moLike moHave AV.ren renL AObj.ren AObj.like kept startC moMem AV.frz frz1 frzL frSub memSub frzs AS.frz frFrz memFrz AObj.frz takeMap takeLen bleF Nat.ble_eq memAny objAny mapOp D.keyOk rowAV valRow extOp wrapOp phO
set_option linter.unusedVariables false
set_option linter.unusedSimpArgs false

/-- Is a name in a list? -/
def hasB (l : List ByteArray) (s : ByteArray) : Bool := l.any fun x => decide (x = s)
theorem hasB_iff {l : List ByteArray} {s : ByteArray} : hasB l s = true ↔ s ∈ l := by
  unfold hasB
  rw [List.any_eq_true]
  constructor
  · rintro ⟨x, h1, h2⟩
    rw [← of_decide_eq_true h2]; exact h1
  · exact fun h => ⟨s, h, decide_eq_true rfl⟩
theorem hasB_not {l : List ByteArray} {s : ByteArray} : hasB l s = false ↔ s ∉ l := by
  rw [← Bool.not_eq_true, hasB_iff]
theorem hasB_append (a b : List ByteArray) (s : ByteArray) : hasB (a ++ b) s = (hasB a s || hasB b s) := by simp [hasB]
theorem not_mem_snoc {l : List ByteArray} {i : Nat} {x s : ByteArray} (hx : l[i]? = some x) (h : s ∉ l.take i) (hne : x ≠ s) : s ∉ l.take (i + 1) := by
  rw [List.take_add_one, hx]
  simp only [Option.toList_some, List.mem_append, List.mem_singleton, not_or]
  exact ⟨h, fun e => hne e.symm⟩

set_option maxHeartbeats 1000000 in
theorem sp_Has (l : List ByteArray) (s : ByteArray) (hl : l.length ≤ 8796093022208) : PSpec Tryd.prog 57 [strsAV l, .d (.str s)] (fun _ => .d (.bool (hasB l s))) none := by
  refine PSpec.of Tryd.func57 rfl rfl rfl (Nat.le_of_ble_eq_true rfl) ?_
  show AWp _ _ (endQ _ Tryd.f57 _ _ _) (startAS 17 _)
  repeat (first | refine AWp.seq ?_ | refine AWp.block ?_)
  apply AWp.reg [] []
  · conv => lhs; simp
  · trivial
  repeat (first | refine AWp.seq ?_ | refine AWp.block ?_)
  apply AWp.reg [] []
  · conv => lhs; simp
  · trivial
  repeat (first | refine AWp.seq ?_ | refine AWp.block ?_)
  refine AWp.loop (σ := fun u : {i : Nat // i ≤ l.length ∧ s ∉ l.take i} => ⟨17, [(1, .d (.str s)), (7, strsAV l), (8, .d (.int l.length)), (9, .d (.int u.1))], []⟩)
    (μ := fun u => l.length - u.1) ⟨0, Nat.zero_le _, by simp⟩ (Le.sub (by simp) (by simp)) (fun ⟨i, hi, ht⟩ => ?_)
  dsimp only
  repeat (first | refine AWp.seq ?_ | refine AWp.block ?_)
  apply AWp.reg [] []
  · conv => lhs; simp
  · trivial
  repeat (first | refine AWp.seq ?_ | refine AWp.block ?_)
  refine AWp.cond rfl (fun h => ?_) (fun h => ?_)
  · have hi1 : i < l.length := by have := of_decide_eq_true h; omega
    have h1 : l[i]? = some l[i] := List.getElem?_eq_getElem hi1
    have hmem : l[i] ∈ l := List.getElem_mem hi1
    generalize l[i] = x at h1 hmem
    refine AWp.skip ?_
    repeat (first | refine AWp.seq ?_ | refine AWp.block ?_)
    apply AWp.reg [] []
    · conv => lhs; simp [h1]
    · first | trivial | omega | (simp [inI, maxLen]; done) | (simp [inI, maxLen]; omega)
    by_cases hx : x = s
    · subst hx
      repeat (first | refine AWp.seq ?_ | refine AWp.block ?_)
      apply AWp.reg [] []
      · conv => lhs; simp
      · trivial
      repeat (first | refine AWp.seq ?_ | refine AWp.block ?_)
      refine AWp.cond rfl (fun h2 => ?_) (fun h2 => ?_)
      · repeat (first | refine AWp.seq ?_ | refine AWp.block ?_)
        apply AWp.reg [] []
        · conv => lhs; simp
        · trivial
        refine AWp.ret ?_
        try dsimp only [thenQ, blockQ]
        apply endQ.ret
        · rfl
        · conv => lhs; simp [resAV, Tryd.results57]
        rw [hasB_iff.2 hmem]; rfl
      · simp at h2
    · repeat (first | refine AWp.seq ?_ | refine AWp.block ?_)
      apply AWp.reg [] []
      · conv => lhs; simp [hx]
      · trivial
      repeat (first | refine AWp.seq ?_ | refine AWp.block ?_)
      refine AWp.cond rfl (fun h2 => ?_) (fun h2 => ?_)
      · simp at h2
      refine AWp.skip ?_
      repeat (first | refine AWp.seq ?_ | refine AWp.block ?_)
      apply AWp.reg [] []
      · conv => lhs; simp
      · first | trivial | omega | (simp [inI, maxLen]; done) | (simp [inI, maxLen]; omega)
      refine ⟨⟨i + 1, hi1, not_mem_snoc h1 ht hx⟩, by simp; omega, Le.sub (by simp) (by simp)⟩
  have hi1 : i = l.length := by have := of_decide_eq_false h; omega
  subst hi1
  rw [List.take_length] at ht
  refine AWp.exit ?_
  repeat (first | refine AWp.seq ?_ | refine AWp.block ?_)
  apply AWp.reg [] []
  · conv => lhs; simp
  · trivial
  refine AWp.ret ?_
  try dsimp only [thenQ, blockQ]
  apply endQ.ret
  · rfl
  · conv => lhs; simp [resAV, Tryd.results57]
  rw [hasB_not.2 ht]; rfl

/-- Where a name stands first. -/
def indexI (l : List ByteArray) (p : ByteArray → Bool) : Int := match l.findIdx? p with | some i => i | none => -1
theorem indexI_some {l : List ByteArray} {p : ByteArray → Bool} {i : Nat} {x : ByteArray} (hx : l[i]? = some x) (h : ∀ y ∈ l.take i, p y = false) (hp : p x = true) : indexI l p = i := by
  unfold indexI
  have : l.findIdx? p = some i := by
    rw [List.findIdx?_eq_some_iff_getElem]
    have hi := (List.getElem?_eq_some_iff.1 hx)
    refine ⟨hi.1, by rw [hi.2]; exact hp, fun j hj => ?_⟩
    have hjl : j < l.length := by have := hi.1; omega
    have := h (l[j]'hjl) (List.mem_iff_getElem?.2 ⟨j, by rw [List.getElem?_take, if_pos hj]; exact List.getElem?_eq_getElem hjl⟩)
    simp [this]
  rw [this]
theorem indexI_none {l : List ByteArray} {p : ByteArray → Bool} (h : ∀ y ∈ l, p y = false) : indexI l p = -1 := by
  unfold indexI
  have : l.findIdx? p = none := by
    rw [List.findIdx?_eq_none_iff]
    exact h
  rw [this]
theorem take_all_snoc {l : List ByteArray} {p : ByteArray → Bool} {i : Nat} {x : ByteArray} (hx : l[i]? = some x) (h : ∀ y ∈ l.take i, p y = false) (hp : p x = false) : ∀ y ∈ l.take (i + 1), p y = false := by
  rw [List.take_add_one, hx]
  intro y hy
  rcases List.mem_append.1 hy with hy | hy
  · exact h y hy
  · simp at hy; subst hy; exact hp

set_option maxHeartbeats 1000000 in
theorem sp_Index (l : List ByteArray) (s : ByteArray) (hl : l.length ≤ 8796093022208) : PSpec Tryd.prog 116 [strsAV l, .d (.str s)] (fun _ => .d (.int (indexI l fun x => decide (s = x)))) none := by
  refine PSpec.of Tryd.func116 rfl rfl rfl (Nat.le_of_ble_eq_true rfl) ?_
  show AWp _ _ (endQ _ Tryd.f116 _ _ _) (startAS 19 _)
  repeat (first | refine AWp.seq ?_ | refine AWp.block ?_)
  apply AWp.reg [] []
  · conv => lhs; simp
  · trivial
  repeat (first | refine AWp.seq ?_ | refine AWp.block ?_)
  apply AWp.reg [] []
  · conv => lhs; simp
  · trivial
  repeat (first | refine AWp.seq ?_ | refine AWp.block ?_)
  refine AWp.loop (σ := fun u : {i : Nat // i ≤ l.length ∧ ∀ y ∈ l.take i, decide (s = y) = false} => ⟨19, [(0, strsAV l), (1, .d (.str s)), (7, .d (.int l.length)), (8, .d (.int u.1))], []⟩)
    (μ := fun u => l.length - u.1) ⟨0, Nat.zero_le _, by simp⟩ (Le.sub (by simp) (by simp)) (fun ⟨i, hi, ht⟩ => ?_)
  dsimp only
  repeat (first | refine AWp.seq ?_ | refine AWp.block ?_)
  apply AWp.reg [] []
  · conv => lhs; simp
  · trivial
  repeat (first | refine AWp.seq ?_ | refine AWp.block ?_)
  refine AWp.cond rfl (fun h => ?_) (fun h => ?_)
  · have hi1 : i < l.length := by have := of_decide_eq_true h; omega
    have h1 : l[i]? = some l[i] := List.getElem?_eq_getElem hi1
    generalize l[i] = x at h1
    refine AWp.skip ?_
    repeat (first | refine AWp.seq ?_ | refine AWp.block ?_)
    apply AWp.reg [] []
    · conv => lhs; simp
    · trivial
    by_cases hx : s = x
    · subst hx
      repeat (first | refine AWp.seq ?_ | refine AWp.block ?_)
      apply AWp.reg [] []
      · conv => lhs; simp [h1]
      · first | trivial | omega | (simp [inI, maxLen]; done) | (simp [inI, maxLen]; omega)
      repeat (first | refine AWp.seq ?_ | refine AWp.block ?_)
      refine AWp.cond rfl (fun h2 => ?_) (fun h2 => ?_)
      · repeat (first | refine AWp.seq ?_ | refine AWp.block ?_)
        apply AWp.reg [] []
        · conv => lhs; simp
        · trivial
        refine AWp.ret ?_
        try dsimp only [thenQ, blockQ]
        apply endQ.ret
        · rfl
        · conv => lhs; simp [resAV, Tryd.results116]
        rw [indexI_some h1 ht (by simp)]; rfl
      · simp at h2
    · repeat (first | refine AWp.seq ?_ | refine AWp.block ?_)
      apply AWp.reg [] []
      · conv => lhs; simp [h1, hx]
      · first | trivial | omega | (simp [inI, maxLen]; done) | (simp [inI, maxLen]; omega)
      repeat (first | refine AWp.seq ?_ | refine AWp.block ?_)
      refine AWp.cond rfl (fun h2 => ?_) (fun h2 => ?_)
      · simp at h2
      refine AWp.skip ?_
      repeat (first | refine AWp.seq ?_ | refine AWp.block ?_)
      apply AWp.reg [] []
      · conv => lhs; simp
      · first | trivial | omega | (simp [inI, maxLen]; done) | (simp [inI, maxLen]; omega)
      refine ⟨⟨i + 1, hi1, take_all_snoc h1 ht (by simp [hx])⟩, by simp; omega, Le.sub (by simp) (by simp)⟩
  have hi1 : i = l.length := by have := of_decide_eq_false h; omega
  subst hi1
  rw [List.take_length] at ht
  refine AWp.exit ?_
  repeat (first | refine AWp.seq ?_ | refine AWp.block ?_)
  apply AWp.reg [] []
  · conv => lhs; simp
  · trivial
  refine AWp.ret ?_
  try dsimp only [thenQ, blockQ]
  apply endQ.ret
  · rfl
  · conv => lhs; simp [resAV, Tryd.results116]
  rw [indexI_none ht]; rfl

theorem sp_Contains (l : List ByteArray) (s : ByteArray) (hl : l.length ≤ 8796093022208) : PSpec Tryd.prog 86 [strsAV l, .d (.str s)] (fun _ => .d (.bool (hasB l s))) none := by
  have hx := sp_Index l s hl
  have e : decide (0 ≤ indexI l fun x => decide (s = x)) = hasB l s := by
    cases h : hasB l s with
    | true =>
      have hm := hasB_iff.1 h
      unfold indexI
      cases hf : l.findIdx? fun x => decide (s = x) with
      | none =>
        rw [List.findIdx?_eq_none_iff] at hf
        have := hf s hm
        simp at this
      | some i => simp
    | false =>
      have hm := hasB_not.1 h
      rw [indexI_none fun y hy => by simp; rintro rfl; exact hm hy]
      rfl
  generalize indexI l (fun x => decide (s = x)) = I at hx e
  refine PSpec.of Tryd.func86 rfl rfl rfl (Nat.le_of_ble_eq_true rfl) ?_
  show AWp _ _ (endQ _ Tryd.f86 _ _ _) (startAS 9 _)
  repeat (first | refine AWp.seq ?_ | refine AWp.block ?_)
  apply AWp.reg [] []
  · conv => lhs; simp
  · trivial
  repeat (first | refine AWp.seq ?_ | refine AWp.block ?_)
  apply AWp.reg [] [.p (fun _ => .d (.int I)) none]
  · conv => lhs; simp
  · exact hx
  refine AWp.ret ?_
  try dsimp only [thenQ, blockQ]
  apply endQ.ret
  · rfl
  · conv => lhs; simp [resAV, Tryd.results86]
  rw [e]; rfl
end Go.Proofs.YtialccgjbanmcaaDoor
