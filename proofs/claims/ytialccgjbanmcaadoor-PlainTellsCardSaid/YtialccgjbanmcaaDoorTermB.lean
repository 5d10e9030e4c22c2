/- xcref1's SameNames, Same, SameFns, Size, Has, by the abstract machine. -/
import Derived.Test.YtialccgjbanmcaaDoorTermA
namespace Go.Proofs.YtialccgjbanmcaaDoor
open Go.RowKit
attribute [local simp] runD mkRc ldOf ldArg noAny dstOk guardOk opEff opEff0 effOp pureOp callOp zEff evA constAV frGet memGet startAS frOf isGoCall idIn AS.after nextR opnIds objIds AV.ids idsL AObj.ids frNo memNo opnAny isAny mkVal rdCells wrCells fldAddr idxAddr srcRows litRows toD1 toDs setAt sliceAV optI partAV bldAV fillAV binAV binI AV.cells callEff calleeOf frKill memKill AV.kill AObj.kill AV.has AV.hasL Op.operands Call.operands keepF keepM viewIds cChk renOf moGet moWs moQ cEff moLike moHave AV.ren renL AObj.ren AObj.like kept startC moMem AV.frz frz1 frzL frSub memSub frzs AS.frz frFrz memFrz AObj.frz takeMap takeLen bleF Nat.ble_eq memAny objAny mapOp D.keyOk rowAV valRow extOp wrapOp phO
set_option linter.unusedVariables false
set_option linter.unusedSimpArgs false

/-- Are they the same? -/
noncomputable def eqB {α : Type} (a b : α) : Bool := @decide (a = b) (Classical.propDecidable _)
theorem eqB_self {α : Type} (a : α) : eqB a a = true := by simp [eqB]
theorem eqB_ne {α : Type} {a b : α} (h : a ≠ b) : eqB a b = false := by simp [eqB, h]
theorem eqB_iff {α : Type} {a b : α} : eqB a b = true ↔ a = b := by simp [eqB]

theorem rows_len {α : Type} {row : α → List D} {n : Nat} (h : ∀ x, (row x).length = n) (l : List α) : ∀ (i : Nat) (r : List D), (l.map row)[i]? = some r → r.length = n := by
  intro i r hr
  obtain ⟨x, _, rfl⟩ := List.mem_map.1 (List.mem_of_getElem? hr)
  exact h x

theorem take_eq {α : Type} {a b : List α} {i : Nat} {x y : α} (hx : a[i]? = some x) (hy : b[i]? = some y) (h : a.take i = b.take i) : a.take (i + 1) = b.take (i + 1) ↔ x = y := by
  rw [List.take_add_one, List.take_add_one, hx, hy, h]
  simp
theorem take_ne {α : Type} {a b : List α} {i : Nat} {x y : α} (hx : a[i]? = some x) (hy : b[i]? = some y) (h : x ≠ y) : a ≠ b := by
  rintro rfl
  rw [hx] at hy
  exact h (Option.some.inj hy)

set_option maxHeartbeats 1000000 in
theorem sp_SameNames (a b : List ByteArray) (ha : a.length ≤ 9223372036854775806) : PSpec Tryd.prog 51 [strsAV a, strsAV b] (fun _ => .d (.bool (eqB a b))) none := by
  refine PSpec.of Tryd.func51 rfl rfl rfl (Nat.le_of_ble_eq_true rfl) ?_
  show AWp _ _ (endQ _ Tryd.f51 _ _ _) (startAS 26 _)
  repeat (first | refine AWp.seq ?_ | refine AWp.block ?_)
  apply AWp.reg [] []
  · conv => lhs; simp
  · trivial
  by_cases hl : a.length = b.length
  · repeat (first | refine AWp.seq ?_ | refine AWp.block ?_)
    apply AWp.reg [] []
    · conv => lhs; simp [hl]
    · trivial
    repeat (first | refine AWp.seq ?_ | refine AWp.block ?_)
    refine AWp.cond rfl (fun h => ?_) (fun h => ?_)
    · cases h
    refine AWp.skip ?_
    repeat (first | refine AWp.seq ?_ | refine AWp.block ?_)
    apply AWp.reg [] []
    · conv => lhs; simp
    · trivial
    repeat (first | refine AWp.seq ?_ | refine AWp.block ?_)
    refine AWp.loop (σ := fun u : {i : Nat // i ≤ a.length ∧ a.take i = b.take i} => ⟨26, [(0, strsAV a), (1, strsAV b), (12, .d (.int a.length)), (13, .d (.int u.1))], []⟩)
      (μ := fun u => a.length - u.1) ⟨0, Nat.zero_le _, rfl⟩ (Le.sub (by simp [hl]) (by simp)) (fun ⟨i, hi, ht⟩ => ?_)
    dsimp only
    repeat (first | refine AWp.seq ?_ | refine AWp.block ?_)
    apply AWp.reg [] []
    · conv => lhs; simp
    · trivial
    repeat (first | refine AWp.seq ?_ | refine AWp.block ?_)
    refine AWp.cond rfl (fun h => ?_) (fun h => ?_)
    · have hi1 : i < a.length := by have := of_decide_eq_true h; omega
      have hx : a[i]? = some a[i] := List.getElem?_eq_getElem hi1
      have hy : b[i]? = some (b[i]'(by omega)) := List.getElem?_eq_getElem (by omega)
      generalize a[i] = x at hx
      generalize b[i]'(by omega) = y at hy
      have hte := take_eq hx hy ht
      refine AWp.skip ?_
      repeat (first | refine AWp.seq ?_ | refine AWp.block ?_)
      apply AWp.reg [] []
      · conv => lhs; simp
      · trivial
      by_cases hxy : x = y
      · subst hxy
        repeat (first | refine AWp.seq ?_ | refine AWp.block ?_)
        apply AWp.draw [] [] mixed
        · conv => lhs; simp [hx, hy]
        · kernel_rfl
        · first | trivial | omega | (simp [inI, maxLen]; done) | (simp [inI, maxLen]; omega)
        repeat (first | refine AWp.seq ?_ | refine AWp.block ?_)
        refine AWp.cond rfl (fun h2 => ?_) (fun h2 => ?_)
        · cases h2
        refine AWp.skip ?_
        repeat (first | refine AWp.seq ?_ | refine AWp.block ?_)
        apply AWp.reg [] []
        · conv => lhs; simp
        · first | trivial | omega | (simp [inI, maxLen]; done) | (simp [inI, maxLen]; omega)
        refine ⟨⟨i + 1, hi1, hte.2 rfl⟩, by simp; omega, Le.sub (by simp) (by simp)⟩
      · repeat (first | refine AWp.seq ?_ | refine AWp.block ?_)
        apply AWp.draw [] [] mixed
        · conv => lhs; simp [hx, hy, hxy]
        · kernel_rfl
        · first | trivial | omega | (simp [inI, maxLen]; done) | (simp [inI, maxLen]; omega)
        repeat (first | refine AWp.seq ?_ | refine AWp.block ?_)
        refine AWp.cond rfl (fun h2 => ?_) (fun h2 => ?_)
        · repeat (first | refine AWp.seq ?_ | refine AWp.block ?_)
          apply AWp.reg [] []
          · conv => lhs; simp
          · trivial
          refine AWp.ret ?_
          try dsimp only [thenQ, blockQ]
          apply endQ.ret
          · rfl
          · conv => lhs; simp [resAV, Tryd.results51]
          rw [eqB_ne (take_ne hx hy hxy)]; rfl
        · cases h2
    · have hi1 : i = a.length := by have := of_decide_eq_false h; omega
      subst hi1
      rw [List.take_length, hl, List.take_length] at ht
      refine AWp.exit ?_
      repeat (first | refine AWp.seq ?_ | refine AWp.block ?_)
      apply AWp.reg [] []
      · conv => lhs; simp
      · trivial
      refine AWp.ret ?_
      try dsimp only [thenQ, blockQ]
      apply endQ.ret
      · rfl
      · conv => lhs; simp [resAV, Tryd.results51]
      rw [ht, eqB_self]; rfl
  · have hl' : ¬ ((a.length : Int) = b.length) := by omega
    repeat (first | refine AWp.seq ?_ | refine AWp.block ?_)
    apply AWp.reg [] []
    · conv => lhs; simp [hl, hl']
    · trivial
    repeat (first | refine AWp.seq ?_ | refine AWp.block ?_)
    refine AWp.cond rfl (fun h => ?_) (fun h => ?_)
    · repeat (first | refine AWp.seq ?_ | refine AWp.block ?_)
      apply AWp.reg [] []
      · conv => lhs; simp
      · trivial
      refine AWp.ret ?_
      try dsimp only [thenQ, blockQ]
      apply endQ.ret
      · rfl
      · conv => lhs; simp [resAV, Tryd.results51]
      rw [eqB_ne (fun e => hl (by rw [e]))]; rfl
    · cases h

/-- How much a list of terms, of cases, of names holds. -/
theorem len_bulkRows : ∀ (l : List (List D)), (∀ r ∈ l, r ≠ []) → l.length ≤ D.bulkRows l
  | [], _ => Nat.le_refl _
  | r :: l, h => by
    have h1 := len_bulkRows l fun r hr => h r (List.mem_cons_of_mem _ hr)
    have h2 := h r (List.mem_cons_self ..)
    simp only [D.bulkRows, List.length_cons]
    have : 1 ≤ D.bulkRow r := by
      cases r with
      | nil => exact absurd rfl h2
      | cons d r =>
        simp only [D.bulkRow]
        have : 1 ≤ D.bulk d := by cases d <;> simp [D.bulk]
        omega
    omega
theorem strs_le (l : List ByteArray) : l.length + 1 ≤ D.bulk (strsD l) := by
  have := len_bulkRows (l.map strR) (by simp [strR])
  simp only [strsD, D.bulk]
  simp at this
  omega
theorem tms_le (l : List Tm) : l.length ≤ D.bulkRows (l.map Tm.row) := by
  have := len_bulkRows (l.map Tm.row) (fun r hr => by obtain ⟨t, _, rfl⟩ := List.mem_map.1 hr; cases t; simp [Tm.row])
  simpa using this
theorem css_le (l : List Cs) : l.length ≤ D.bulkRows (l.map Cs.row) := by
  have := len_bulkRows (l.map Cs.row) (fun r hr => by obtain ⟨t, _, rfl⟩ := List.mem_map.1 hr; cases t; simp [Cs.row])
  simpa using this

theorem Tm.Ok.vars {k n : Int} {a b : ByteArray} {vs : List ByteArray} {xs : List Tm} {cs : List Cs} (h : (Tm.mk k n a b vs xs cs).Ok) : vs.length ≤ 8796093022207 ∧ xs.length ≤ 1172812402960 ∧ cs.length ≤ 925904528652 ∧ a.size ≤ 140737488355328 ∧ b.size ≤ 140737488355328 := by
  unfold Tm.Ok at h
  exact ⟨h.2.1.1, h.2.1.2.1, h.2.1.2.2, h.1.1, h.1.2.1⟩
theorem Tm.Ok.arg {k n : Int} {a b : ByteArray} {vs : List ByteArray} {xs : List Tm} {cs : List Cs} (h : (Tm.mk k n a b vs xs cs).Ok) {x : Tm} (hx : x ∈ xs) : x.Ok := by
  unfold Tm.Ok at h
  exact Tm.Oks_iff.1 h.2.2.1 x hx
theorem Tm.Ok.case {k n : Int} {a b : ByteArray} {vs : List ByteArray} {xs : List Tm} {cs : List Cs} (h : (Tm.mk k n a b vs xs cs).Ok) {x : Cs} (hx : x ∈ cs) : x.Ok := by
  unfold Tm.Ok at h
  exact Cs.Oks_iff.1 h.2.2.2 x hx
theorem Cs.Ok.body {t : Int} {vs : List ByteArray} {b : Tm} (h : (Cs.mk t vs b).Ok) : b.Ok ∧ vs.length ≤ 8796093022207 := by
  unfold Cs.Ok at h
  exact ⟨h.2.2, h.2.1⟩
theorem Cs.Ok.sizes {t : Int} {vs : List ByteArray} {b : Tm} (h : (Cs.mk t vs b).Ok) : ∀ s ∈ vs, s.size ≤ 140737488355328 := by
  unfold Cs.Ok at h
  exact h.1
theorem Tm.sz_arg {k n : Int} {a b : ByteArray} {vs : List ByteArray} {xs : List Tm} {cs : List Cs} {x : Tm} (hx : x ∈ xs) : x.sz < (Tm.mk k n a b vs xs cs).sz := by
  have := Tm.szs_mem hx
  simp only [Tm.sz]; omega
theorem Tm.sz_case {k n : Int} {a b : ByteArray} {vs : List ByteArray} {xs : List Tm} {cs : List Cs} {t : Int} {ws : List ByteArray} {y : Tm} (hx : Cs.mk t ws y ∈ cs) : y.sz < (Tm.mk k n a b vs xs cs).sz := by
  have := Cs.szs_mem hx
  simp only [Cs.sz] at this
  simp only [Tm.sz]; omega
theorem Tm.row_len (t : Tm) : t.row.length = 7 := by cases t; rfl
theorem Cs.row_len (t : Cs) : t.row.length = 9 := by cases t; simp [Cs.row, Tm.row_len]

def smMem (k n : Int) (a b : ByteArray) (vs : List ByteArray) (xs : List Tm) (cs : List Cs) (xs' : List Tm) (cs' : List Cs) : List (Nat × Option AObj) :=
  [(2, some (.blk 32 [.d (.int k), .d (.int n), .d (.str a), .d (.str b), .d (strsD vs), .d (.sl (xs.map Tm.row)), .d (.sl (cs.map Cs.row))])),
   (3, some (.blk 32 [.d (.int k), .d (.int n), .d (.str a), .d (.str b), .d (strsD vs), .d (.sl (xs'.map Tm.row)), .d (.sl (cs'.map Cs.row))]))]

set_option maxRecDepth 20000 in
set_option maxHeartbeats 8000000 in
theorem sp_refSame_at : ∀ (N : Nat) (s t : Tm), s.sz < N → s.Ok → PSpec Tryd.prog 18 [tmAV s, tmAV t] (fun _ => .d (.bool (eqB s t))) none := by
  intro N
  induction N with
  | zero => intro s t h; omega
  | succ N ih =>
  intro s t hN hO
  obtain ⟨k, n, a, b, vs, xs, cs⟩ := s
  obtain ⟨k', n', a', b', vs', xs', cs'⟩ := t
  obtain ⟨o1, o2, o3, o4, o5⟩ := hO.vars
  have hneq : (k ≠ k' ∨ n ≠ n' ∨ a ≠ a' ∨ b ≠ b' ∨ vs ≠ vs' ∨ xs ≠ xs' ∨ cs ≠ cs') → eqB (Tm.mk k n a b vs xs cs) (Tm.mk k' n' a' b' vs' xs' cs') = false := fun h => eqB_ne (by
    intro e
    cases e
    simp at h)
  have hvs := sp_SameNames vs vs' (by omega)
  refine PSpec.of Tryd.func18 rfl rfl rfl (Nat.le_of_ble_eq_true rfl) ?_
  show AWp _ _ (endQ _ Tryd.f18 _ _ _) (startAS 115 _)
  repeat (first | refine AWp.seq ?_ | refine AWp.block ?_)
  apply AWp.reg [] []
  · conv => lhs; simp
  · trivial
  by_cases e1 : k = k'
  rotate_left
  · repeat (first | refine AWp.seq ?_ | refine AWp.block ?_)
    apply AWp.reg [] []
    · conv => lhs; simp [e1]
    · trivial
    repeat (first | refine AWp.seq ?_ | refine AWp.block ?_)
    refine AWp.cond rfl (fun h => ?_) (fun h => ?_)
    · repeat (first | refine AWp.seq ?_ | refine AWp.block ?_)
      apply AWp.reg [] []
      · conv => lhs; simp
      · trivial
      refine AWp.ret ?_
      try dsimp only [thenQ, blockQ]
      apply endQ.ret
      · rfl
      · conv => lhs; simp [resAV, Tryd.results18]
      rw [hneq (.inl e1)]; rfl
    · simp at h
  subst e1
  by_cases e2 : n = n'
  rotate_left
  · repeat (first | refine AWp.seq ?_ | refine AWp.block ?_)
    apply AWp.reg [] []
    · conv => lhs; simp [e2]
    · trivial
    repeat (first | refine AWp.seq ?_ | refine AWp.block ?_)
    refine AWp.cond rfl (fun h => ?_) (fun h => ?_)
    · repeat (first | refine AWp.seq ?_ | refine AWp.block ?_)
      apply AWp.reg [] []
      · conv => lhs; simp
      · trivial
      refine AWp.ret ?_
      try dsimp only [thenQ, blockQ]
      apply endQ.ret
      · rfl
      · conv => lhs; simp [resAV, Tryd.results18]
      rw [hneq (.inr (.inl e2))]; rfl
    · simp at h
  subst e2
  by_cases e3 : a = a'
  rotate_left
  · repeat (first | refine AWp.seq ?_ | refine AWp.block ?_)
    apply AWp.reg [] []
    · conv => lhs; simp [e3]
    · trivial
    repeat (first | refine AWp.seq ?_ | refine AWp.block ?_)
    refine AWp.cond rfl (fun h => ?_) (fun h => ?_)
    · repeat (first | refine AWp.seq ?_ | refine AWp.block ?_)
      apply AWp.reg [] []
      · conv => lhs; simp
      · trivial
      refine AWp.ret ?_
      try dsimp only [thenQ, blockQ]
      apply endQ.ret
      · rfl
      · conv => lhs; simp [resAV, Tryd.results18]
      rw [hneq (.inr (.inr (.inl e3)))]; rfl
    · simp at h
  subst e3
  by_cases e4 : b = b'
  rotate_left
  · repeat (first | refine AWp.seq ?_ | refine AWp.block ?_)
    apply AWp.reg [] []
    · conv => lhs; simp [e4]
    · trivial
    repeat (first | refine AWp.seq ?_ | refine AWp.block ?_)
    refine AWp.cond rfl (fun h => ?_) (fun h => ?_)
    · repeat (first | refine AWp.seq ?_ | refine AWp.block ?_)
      apply AWp.reg [] []
      · conv => lhs; simp
      · trivial
      refine AWp.ret ?_
      try dsimp only [thenQ, blockQ]
      apply endQ.ret
      · rfl
      · conv => lhs; simp [resAV, Tryd.results18]
      rw [hneq (.inr (.inr (.inr (.inl e4))))]; rfl
    · simp at h
  subst e4
  by_cases e5 : vs = vs'
  rotate_left
  · repeat (first | refine AWp.seq ?_ | refine AWp.block ?_)
    apply AWp.reg [] [.p (fun _ => .d (.bool false)) none]
    · conv => lhs; simp [e5]
    · rw [eqB_ne e5] at hvs; exact hvs
    repeat (first | refine AWp.seq ?_ | refine AWp.block ?_)
    refine AWp.cond rfl (fun h => ?_) (fun h => ?_)
    · repeat (first | refine AWp.seq ?_ | refine AWp.block ?_)
      apply AWp.reg [] []
      · conv => lhs; simp
      · trivial
      refine AWp.ret ?_
      try dsimp only [thenQ, blockQ]
      apply endQ.ret
      · rfl
      · conv => lhs; simp [resAV, Tryd.results18]
      rw [hneq (.inr (.inr (.inr (.inr (.inl e5)))))]; rfl
    · simp at h
  subst e5
  rw [eqB_self] at hvs
  by_cases e6 : xs.length = xs'.length
  rotate_left
  · have e6' : ¬ ((xs.length : Int) = xs'.length) := by omega
    repeat (first | refine AWp.seq ?_ | refine AWp.block ?_)
    apply AWp.reg [] [.p (fun _ => .d (.bool true)) none]
    · conv => lhs; simp [e6, e6']
    · exact hvs
    repeat (first | refine AWp.seq ?_ | refine AWp.block ?_)
    refine AWp.cond rfl (fun h => ?_) (fun h => ?_)
    · repeat (first | refine AWp.seq ?_ | refine AWp.block ?_)
      apply AWp.reg [] []
      · conv => lhs; simp
      · trivial
      refine AWp.ret ?_
      try dsimp only [thenQ, blockQ]
      apply endQ.ret
      · rfl
      · conv => lhs; simp [resAV, Tryd.results18]
      rw [hneq (.inr (.inr (.inr (.inr (.inr (.inl (fun e => e6 (by rw [e]))))))))]; rfl
    · simp at h
  by_cases e7 : cs.length = cs'.length
  rotate_left
  · have e7' : ¬ ((cs.length : Int) = cs'.length) := by omega
    repeat (first | refine AWp.seq ?_ | refine AWp.block ?_)
    apply AWp.reg [] [.p (fun _ => .d (.bool true)) none]
    · conv => lhs; simp [e6, e7, e7']
    · exact hvs
    repeat (first | refine AWp.seq ?_ | refine AWp.block ?_)
    refine AWp.cond rfl (fun h => ?_) (fun h => ?_)
    · repeat (first | refine AWp.seq ?_ | refine AWp.block ?_)
      apply AWp.reg [] []
      · conv => lhs; simp
      · trivial
      refine AWp.ret ?_
      try dsimp only [thenQ, blockQ]
      apply endQ.ret
      · rfl
      · conv => lhs; simp [resAV, Tryd.results18]
      rw [hneq (.inr (.inr (.inr (.inr (.inr (.inr (fun e => e7 (by rw [e]))))))))]; rfl
    · simp at h
  repeat (first | refine AWp.seq ?_ | refine AWp.block ?_)
  apply AWp.reg [] [.p (fun _ => .d (.bool true)) none]
  · conv => lhs; simp [e6, e7]
  · exact hvs
  repeat (first | refine AWp.seq ?_ | refine AWp.block ?_)
  refine AWp.cond rfl (fun h => ?_) (fun h => ?_)
  · simp at h
  refine AWp.skip ?_
  refine AWp.le (s' := ⟨115, [(2, .ptr 2 0), (3, .ptr 3 0)], smMem k n a b vs xs cs xs' cs'⟩) (Le.sub (by simp) (by simp [smMem])) ?_
  by_cases hx : xs = xs'
  rotate_left
  · have hf := hneq (.inr (.inr (.inr (.inr (.inr (.inl hx))))))
    repeat (first | refine AWp.seq ?_ | refine AWp.block ?_)
    apply AWp.reg [] []
    · conv => lhs; simp [smMem]
    · trivial
    repeat (first | refine AWp.seq ?_ | refine AWp.block ?_)
    refine AWp.loop (σ := fun u : {i : Nat // i ≤ xs.length ∧ xs.take i = xs'.take i} => ⟨115, [(2, .ptr 2 0), (3, .ptr 3 0), (63, .d (.int xs.length)), (64, .d (.int u.1))], smMem k n a b vs xs cs xs' cs'⟩)
      (μ := fun u => xs.length - u.1) ⟨0, Nat.zero_le _, rfl⟩ (Le.sub (by simp) (by simp [smMem])) (fun ⟨i, hi, ht⟩ => ?_)
    dsimp only
    repeat (first | refine AWp.seq ?_ | refine AWp.block ?_)
    apply AWp.reg [] []
    · conv => lhs; simp
    · trivial
    repeat (first | refine AWp.seq ?_ | refine AWp.block ?_)
    refine AWp.cond rfl (fun h => ?_) (fun h => ?_)
    · have hi1 : i < xs.length := by have := of_decide_eq_true h; omega
      have h1 : xs[i]? = some xs[i] := List.getElem?_eq_getElem hi1
      have h2 : xs'[i]? = some (xs'[i]'(by omega)) := List.getElem?_eq_getElem (by omega)
      have hmem : xs[i] ∈ xs := List.getElem_mem hi1
      generalize xs[i] = x at h1 hmem
      generalize xs'[i]'(by omega) = y at h2
      have hte := take_eq h1 h2 ht
      have hp := ih x y (by have := Tm.sz_arg (k := k) (n := n) (a := a) (b := b) (vs := vs) (cs := cs) hmem; omega) (hO.arg hmem)
      obtain ⟨B, hB⟩ : ∃ B, B = eqB x y := ⟨_, rfl⟩
      rw [← hB] at hp
      refine AWp.skip ?_
      repeat (first | refine AWp.seq ?_ | refine AWp.block ?_)
      apply AWp.reg [] []
      · conv => lhs; simp
      · trivial
      cases B with
      | true =>
        have hxy : x = y := eqB_iff.1 hB.symm
        obtain ⟨_, _, _, _, _, _, _⟩ := x
        obtain ⟨_, _, _, _, _, _, _⟩ := y
        repeat (first | refine AWp.seq ?_ | refine AWp.block ?_)
        apply AWp.draw [] [.p (fun _ => .d (.bool true)) none] mixed
        · conv => lhs; simp [smMem, h1, h2, Tm.row, Tm.rows_eq, Cs.rows_eq]
        · kernel_rfl
        · exact hp
        repeat (first | refine AWp.seq ?_ | refine AWp.block ?_)
        refine AWp.cond rfl (fun h3 => ?_) (fun h3 => ?_)
        · cases h3
        refine AWp.skip ?_
        repeat (first | refine AWp.seq ?_ | refine AWp.block ?_)
        apply AWp.reg [] []
        · conv => lhs; simp
        · first | trivial | omega | (simp [inI, maxLen]; done) | (simp [inI, maxLen]; omega)
        refine ⟨⟨i + 1, hi1, hte.2 hxy⟩, by simp; omega, Le.sub (by simp) (by simp [smMem])⟩
      | false =>
        obtain ⟨_, _, _, _, _, _, _⟩ := x
        obtain ⟨_, _, _, _, _, _, _⟩ := y
        repeat (first | refine AWp.seq ?_ | refine AWp.block ?_)
        apply AWp.draw [] [.p (fun _ => .d (.bool false)) none] mixed
        · conv => lhs; simp [smMem, h1, h2, Tm.row, Tm.rows_eq, Cs.rows_eq]
        · kernel_rfl
        · exact hp
        repeat (first | refine AWp.seq ?_ | refine AWp.block ?_)
        refine AWp.cond rfl (fun h3 => ?_) (fun h3 => ?_)
        · repeat (first | refine AWp.seq ?_ | refine AWp.block ?_)
          apply AWp.reg [] []
          · conv => lhs; simp
          · trivial
          refine AWp.ret ?_
          try dsimp only [thenQ, blockQ]
          apply endQ.ret
          · rfl
          · conv => lhs; simp [resAV, Tryd.results18]
          rw [hf]; rfl
        · cases h3
    · have hi1 : i = xs.length := by have := of_decide_eq_false h; omega
      subst hi1
      rw [List.take_length, e6, List.take_length] at ht
      exact absurd ht hx
  subst hx
  repeat (first | refine AWp.seq ?_ | refine AWp.block ?_)
  apply AWp.reg [] []
  · conv => lhs; simp [smMem]
  · trivial
  repeat (first | refine AWp.seq ?_ | refine AWp.block ?_)
  refine AWp.loop (σ := fun u : {i : Nat // i ≤ xs.length} => ⟨115, [(2, .ptr 2 0), (3, .ptr 3 0), (63, .d (.int xs.length)), (64, .d (.int u.1))], smMem k n a b vs xs cs xs cs'⟩)
    (μ := fun u => xs.length - u.1) ⟨0, Nat.zero_le _⟩ (Le.sub (by simp) (by simp [smMem])) (fun ⟨i, hi⟩ => ?_)
  dsimp only
  repeat (first | refine AWp.seq ?_ | refine AWp.block ?_)
  apply AWp.reg [] []
  · conv => lhs; simp
  · trivial
  repeat (first | refine AWp.seq ?_ | refine AWp.block ?_)
  refine AWp.cond rfl (fun h => ?_) (fun h => ?_)
  · have hi1 : i < xs.length := by have := of_decide_eq_true h; omega
    have h1 : xs[i]? = some xs[i] := List.getElem?_eq_getElem hi1
    have hmem : xs[i] ∈ xs := List.getElem_mem hi1
    generalize xs[i] = x at h1 hmem
    have hp := ih x x (by have := Tm.sz_arg (k := k) (n := n) (a := a) (b := b) (vs := vs) (cs := cs) hmem; omega) (hO.arg hmem)
    rw [eqB_self] at hp
    refine AWp.skip ?_
    repeat (first | refine AWp.seq ?_ | refine AWp.block ?_)
    apply AWp.reg [] []
    · conv => lhs; simp
    · trivial
    obtain ⟨_, _, _, _, _, _, _⟩ := x
    repeat (first | refine AWp.seq ?_ | refine AWp.block ?_)
    apply AWp.draw [] [.p (fun _ => .d (.bool true)) none] mixed
    · conv => lhs; simp [smMem, h1, Tm.row, Tm.rows_eq, Cs.rows_eq]
    · kernel_rfl
    · exact hp
    repeat (first | refine AWp.seq ?_ | refine AWp.block ?_)
    refine AWp.cond rfl (fun h3 => ?_) (fun h3 => ?_)
    · cases h3
    refine AWp.skip ?_
    repeat (first | refine AWp.seq ?_ | refine AWp.block ?_)
    apply AWp.reg [] []
    · conv => lhs; simp
    · first | trivial | omega | (simp [inI, maxLen]; done) | (simp [inI, maxLen]; omega)
    refine ⟨⟨i + 1, hi1⟩, by simp; omega, Le.sub (by simp) (by simp [smMem])⟩
  refine AWp.exit ?_
  refine AWp.le (s' := ⟨115, [(2, .ptr 2 0), (3, .ptr 3 0)], smMem k n a b vs xs cs xs cs'⟩) (Le.sub (by simp) (by simp [smMem])) ?_
  clear hi h
  repeat (first | refine AWp.seq ?_ | refine AWp.block ?_)
  apply AWp.reg [] []
  · conv => lhs; simp [smMem]
  · trivial
  repeat (first | refine AWp.seq ?_ | refine AWp.block ?_)
  refine AWp.loop (σ := fun u : {i : Nat // i ≤ cs.length ∧ cs.take i = cs'.take i} => ⟨115, [(2, .ptr 2 0), (3, .ptr 3 0), (81, .d (.sl (cs.map Cs.row))), (82, .d (.int cs.length)), (83, .d (.int u.1))], smMem k n a b vs xs cs xs cs'⟩)
    (μ := fun u => cs.length - u.1) ⟨0, Nat.zero_le _, rfl⟩ (Le.sub (by simp) (by simp [smMem])) (fun ⟨i, hi, ht⟩ => ?_)
  dsimp only
  repeat (first | refine AWp.seq ?_ | refine AWp.block ?_)
  apply AWp.reg [] []
  · conv => lhs; simp
  · trivial
  repeat (first | refine AWp.seq ?_ | refine AWp.block ?_)
  refine AWp.cond rfl (fun h => ?_) (fun h => ?_)
  · have hi1 : i < cs.length := by have := of_decide_eq_true h; omega
    have h1 : cs[i]? = some cs[i] := List.getElem?_eq_getElem hi1
    have h2 : cs'[i]? = some (cs'[i]'(by omega)) := List.getElem?_eq_getElem (by omega)
    have hmem : cs[i] ∈ cs := List.getElem_mem hi1
    generalize cs[i] = x at h1 hmem
    generalize cs'[i]'(by omega) = y at h2
    have hte := take_eq h1 h2 ht
    obtain ⟨g, ws, x⟩ := x
    obtain ⟨g', ws', y⟩ := y
    obtain ⟨oc1, oc2⟩ := (hO.case hmem).body
    have hp := ih x y (by have := Tm.sz_case (k := k) (n := n) (a := a) (b := b) (vs := vs) (xs := xs) hmem; omega) oc1
    have hws := sp_SameNames ws ws' (by omega)
    have hbad : (g ≠ g' ∨ ws ≠ ws' ∨ x ≠ y) → eqB (Tm.mk k n a b vs xs cs) (Tm.mk k n a b vs xs cs') = false := fun h => hneq (.inr (.inr (.inr (.inr (.inr (.inr (take_ne h1 h2 (by
      intro e
      cases e
      simp at h))))))))
    obtain ⟨B, hB⟩ : ∃ B, B = eqB x y := ⟨_, rfl⟩
    have hBf : B = false → x ≠ y := fun e q => by rw [hB, q, eqB_self] at e; cases e
    rw [← hB] at hp
    obtain ⟨_, _, _, _, _, _, _⟩ := x
    obtain ⟨_, _, _, _, _, _, _⟩ := y
    refine AWp.skip ?_
    repeat (first | refine AWp.seq ?_ | refine AWp.block ?_)
    apply AWp.reg [] []
    · conv => lhs; simp [h1, Cs.row, Tm.row, Tm.rows_eq, Cs.rows_eq]
    · first | trivial | omega | (simp [inI, maxLen]; done) | (simp [inI, maxLen]; omega)
    repeat (first | refine AWp.seq ?_ | refine AWp.block ?_)
    apply AWp.reg [] []
    · conv => lhs; simp [smMem, h2, Cs.row, Tm.row, Tm.rows_eq, Cs.rows_eq]
    · first | trivial | omega | (simp [inI, maxLen]; done) | (simp [inI, maxLen]; omega)
    by_cases e8 : g = g'
    rotate_left
    · repeat (first | refine AWp.seq ?_ | refine AWp.block ?_)
      apply AWp.reg [] []
      · conv => lhs; simp [e8]
      · trivial
      repeat (first | refine AWp.seq ?_ | refine AWp.block ?_)
      refine AWp.cond rfl (fun h3 => ?_) (fun h3 => ?_)
      · repeat (first | refine AWp.seq ?_ | refine AWp.block ?_)
        apply AWp.reg [] []
        · conv => lhs; simp
        · trivial
        refine AWp.ret ?_
        try dsimp only [thenQ, blockQ]
        apply endQ.ret
        · rfl
        · conv => lhs; simp [resAV, Tryd.results18]
        rw [hbad (.inl e8)]; rfl
      · simp at h3
    subst e8
    by_cases e9 : ws = ws'
    rotate_left
    · rw [eqB_ne e9] at hws
      repeat (first | refine AWp.seq ?_ | refine AWp.block ?_)
      apply AWp.reg [] [.p (fun _ => .d (.bool false)) none]
      · conv => lhs; simp
      · exact hws
      repeat (first | refine AWp.seq ?_ | refine AWp.block ?_)
      refine AWp.cond rfl (fun h3 => ?_) (fun h3 => ?_)
      · repeat (first | refine AWp.seq ?_ | refine AWp.block ?_)
        apply AWp.reg [] []
        · conv => lhs; simp
        · trivial
        refine AWp.ret ?_
        try dsimp only [thenQ, blockQ]
        apply endQ.ret
        · rfl
        · conv => lhs; simp [resAV, Tryd.results18]
        rw [hbad (.inr (.inl e9))]; rfl
      · simp at h3
    subst e9
    rw [eqB_self] at hws
    cases B with
    | true =>
      have hxy := eqB_iff.1 hB.symm
      repeat (first | refine AWp.seq ?_ | refine AWp.block ?_)
      apply AWp.reg [] [.p (fun _ => .d (.bool true)) none, .p (fun _ => .d (.bool true)) none]
      · conv => lhs; simp
      · exact ⟨hws, hp⟩
      repeat (first | refine AWp.seq ?_ | refine AWp.block ?_)
      refine AWp.cond rfl (fun h3 => ?_) (fun h3 => ?_)
      · simp at h3
      refine AWp.skip ?_
      repeat (first | refine AWp.seq ?_ | refine AWp.block ?_)
      apply AWp.reg [] []
      · conv => lhs; simp
      · first | trivial | omega | (simp [inI, maxLen]; done) | (simp [inI, maxLen]; omega)
      refine ⟨⟨i + 1, hi1, hte.2 (by rw [hxy])⟩, by simp; omega, Le.sub (by simp) (by simp [smMem])⟩
    | false =>
      have hxy := hBf rfl
      repeat (first | refine AWp.seq ?_ | refine AWp.block ?_)
      apply AWp.reg [] [.p (fun _ => .d (.bool true)) none, .p (fun _ => .d (.bool false)) none]
      · conv => lhs; simp
      · exact ⟨hws, hp⟩
      repeat (first | refine AWp.seq ?_ | refine AWp.block ?_)
      refine AWp.cond rfl (fun h3 => ?_) (fun h3 => ?_)
      · repeat (first | refine AWp.seq ?_ | refine AWp.block ?_)
        apply AWp.reg [] []
        · conv => lhs; simp
        · trivial
        refine AWp.ret ?_
        try dsimp only [thenQ, blockQ]
        apply endQ.ret
        · rfl
        · conv => lhs; simp [resAV, Tryd.results18]
        rw [hbad (.inr (.inr hxy))]; rfl
      · simp at h3
  · have hi1 : i = cs.length := by have := of_decide_eq_false h; omega
    subst hi1
    rw [List.take_length, e7, List.take_length] at ht
    subst ht
    refine AWp.exit ?_
    repeat (first | refine AWp.seq ?_ | refine AWp.block ?_)
    apply AWp.reg [] []
    · conv => lhs; simp
    · trivial
    refine AWp.ret ?_
    try dsimp only [thenQ, blockQ]
    apply endQ.ret
    · rfl
    · conv => lhs; simp [resAV, Tryd.results18]
    rw [eqB_self]; rfl

theorem sp_refSame (s t : Tm) (h : s.Ok) : PSpec Tryd.prog 18 [tmAV s, tmAV t] (fun _ => .d (.bool (eqB s t))) none := sp_refSame_at _ s t (Nat.lt_succ_self _) h
end Go.Proofs.YtialccgjbanmcaaDoor
