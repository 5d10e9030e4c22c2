/- What is wrong with functions: plainly; what a right program is like. -/
import Derived.Test.YtialccgjbanmcaaDoorWrongA
namespace Go.Proofs.YtialccgjbanmcaaDoor
open Go.RowKit
set_option linter.unusedVariables false
set_option linter.unusedSimpArgs false

/-- What is wrong with a function's own words. -/
def Fn.headE (f : Arity) (x : Fn) : Int :=
  if ((f.get x.name).isSome || !nameB x.name || twB x.params || badB x.params) = true then 7
  else if 6 < x.params.length then 5 else if 400 < wr x.body.sz then 4 else 0
def headsE : Arity → List Fn → Int
  | _, [] => 0
  | f, x :: r => if x.headE f ≠ 0 then x.headE f else headsE ((x.name, x.params.length) :: f) r
/-- How many parameters they have, the last one in front. -/
def arOf (l : List Fn) : Arity := l.reverse.map fun x => (x.name, x.params.length)
theorem arOf_snoc (l : List Fn) (x : Fn) : arOf (l ++ [x]) = (x.name, x.params.length) :: arOf l := by simp [arOf]
def bodiesE (f : Arity) : List Fn → Int
  | [] => 0
  | x :: r => if x.body.wrong f x.params 0 ≠ 0 then x.body.wrong f x.params 0 else bodiesE f r
/-- What is wrong with a program. -/
def checkE (l : List Fn) : Int :=
  if l.length = 0 ∨ 6 < l.length then 5 else if headsE [] l ≠ 0 then headsE [] l else bodiesE (arOf l) l

/-! ### What is not wrong -/
theorem wrong_zero {f : Arity} {k n : Int} {a b : ByteArray} {vs names : List ByteArray} {xs : List Tm} {cs : List Cs} {deep : Int} (h : (Tm.mk k n a b vs xs cs).wrong f names deep = 0) :
    deep ≤ 24 ∧ 1 ≤ k ∧ k ≤ 7 ∧ manyB k xs.length cs.length = false ∧ headE f k n a names xs.length = 0 ∧ Tm.wrongs f k a names deep 0 xs = 0 ∧ (k = 7 → cs.length ≠ 0 ∧ cs.length ≤ 5 ∧ Cs.wrongs f names deep [] cs = 0) := by
  simp only [Tm.wrong] at h
  split at h
  · cases h
  rename_i h1
  split at h
  · cases h
  rename_i h2
  split at h
  · cases h
  rename_i h3
  split at h
  · rename_i h4; exact absurd h h4
  rename_i h4
  split at h
  · rename_i h5; exact absurd h h5
  rename_i h5
  refine ⟨by omega, by omega, by omega, by simpa using h3, by omega, by omega, fun h7 => ?_⟩
  rw [if_neg (by omega)] at h
  split at h
  · cases h
  rename_i h6
  exact ⟨by omega, by omega, h⟩

theorem wrongs_zero {f : Arity} {k : Int} {a : ByteArray} {names : List ByteArray} {deep : Int} : ∀ {l : List Tm} {i : Nat}, Tm.wrongs f k a names deep i l = 0 →
    ∀ (j : Nat) (x : Tm), l[j]? = some x → x.wrong f (if k = 6 ∧ i + j = 1 then names ++ [a] else names) (deep + 1) = 0
  | [], _, _, j, x, hj => by simp at hj
  | y :: r, i, h, j, x, hj => by
    simp only [Tm.wrongs] at h
    obtain ⟨ns, hns⟩ : ∃ ns, ns = if k = 6 ∧ i = 1 then names ++ [a] else names := ⟨_, rfl⟩
    rw [← hns] at h
    by_cases h1 : y.wrong f ns (deep + 1) = 0
    rotate_left
    · rw [if_pos h1] at h; exact absurd h h1
    rw [if_neg (fun e => e h1)] at h
    match j with
    | 0 =>
      simp at hj; subst hj
      rw [Nat.add_zero, ← hns]
      exact h1
    | j + 1 =>
      have := wrongs_zero h j x (by simpa using hj)
      rwa [show i + 1 + j = i + (j + 1) by omega] at this

theorem cwrongs_zero {f : Arity} {names : List ByteArray} {deep : Int} : ∀ {l : List Cs} {had : List Int}, Cs.wrongs f names deep had l = 0 →
    ∀ {t : Int} {vs : List ByteArray} {b : Tm}, Cs.mk t vs b ∈ l → 0 ≤ t ∧ t ≤ 9 ∧ twB vs = false ∧ badB vs = false ∧ vs.length ≤ 6 ∧ b.wrong f (names ++ vs) (deep + 1) = 0
  | [], _, _, t, vs, b, hm => by cases hm
  | c :: r, had, h, t, vs, b, hm => by
    simp only [Cs.wrongs] at h
    split at h
    · rename_i h1; exact absurd h h1
    rename_i h1
    rcases List.mem_cons.1 hm with rfl | hm
    · have h1 := Decidable.byContradiction fun e => h1 e
      simp only [Cs.wrongC] at h1
      split at h1
      · cases h1
      split at h1
      · cases h1
      split at h1
      · cases h1
      rename_i h2 h3 h4
      simp only [Bool.or_eq_true, not_or, Bool.not_eq_true] at h3
      exact ⟨by omega, by omega, h3.1.2, h3.2, by omega, h1⟩
    · exact cwrongs_zero h hm

/-! ### How large it is at most -/
def gB : Nat → Nat
  | 0 => 0
  | n + 1 => 1 + 6 * gB n

theorem szs_le {g : Nat} : ∀ {l : List Tm}, (∀ x ∈ l, x.sz ≤ g) → Tm.szs l ≤ l.length * g
  | [], _ => by simp [Tm.szs]
  | x :: r, h => by
    have h1 := h x (List.mem_cons_self ..)
    have h2 := szs_le (l := r) fun y hy => h y (List.mem_cons_of_mem _ hy)
    simp only [Tm.szs, List.length_cons, Nat.succ_mul]
    omega
theorem cszs_le {g : Nat} : ∀ {l : List Cs}, (∀ x ∈ l, x.sz ≤ g) → Cs.szs l ≤ l.length * g
  | [], _ => by simp [Cs.szs]
  | x :: r, h => by
    have h1 := h x (List.mem_cons_self ..)
    have h2 := cszs_le (l := r) fun y hy => h y (List.mem_cons_of_mem _ hy)
    simp only [Cs.szs, List.length_cons, Nat.succ_mul]
    omega

theorem many_six {k : Int} {na nc : Nat} (h : manyB k na nc = false) (h2 : k = 7 → nc ≤ 5) : na + nc ≤ 6 := by
  unfold manyB at h
  simp only [Bool.or_eq_false_iff, Bool.and_eq_false_iff, decide_eq_false_iff_not] at h
  obtain ⟨h, h'⟩ := h
  by_cases h7 : k = 7
  · have := h2 h7
    subst h7
    simp at h
    omega
  · have hc : nc = 0 := by
      rcases h' with h' | h'
      · exact absurd h7 h'
      · omega
    split at h
    · simp at h; omega
    · split at h
      · simp at h; omega
      · simp at h; omega

theorem wrong_sz (f : Arity) : ∀ (N : Nat) (t : Tm) (names : List ByteArray) (n : Nat) (deep : Int), t.sz < N → deep = 25 - (n : Int) → t.wrong f names deep = 0 → t.sz ≤ gB n := by
  intro N
  induction N with
  | zero => intro t _ _ _ h; omega
  | succ N ih =>
  intro t names n deep hN hd h
  obtain ⟨k, m, a, b, vs, xs, cs⟩ := t
  obtain ⟨h1, h2, h3, h4, h5, h6, h7⟩ := wrong_zero h
  match n with
  | 0 => omega
  | n + 1 =>
    have hx : ∀ x ∈ xs, x.sz ≤ gB n := fun x hx => by
      obtain ⟨j, hj⟩ := List.mem_iff_getElem?.1 hx
      exact ih x _ n (deep + 1) (by have := Tm.sz_arg (k := k) (n := m) (a := a) (b := b) (vs := vs) (cs := cs) hx; omega) (by omega) (wrongs_zero h6 j x hj)
    have hc : Cs.szs cs ≤ cs.length * gB n := by
      by_cases h8 : k = 7
      · refine cszs_le fun c hc => ?_
        obtain ⟨g, ws, x⟩ := c
        have := (cwrongs_zero (h7 h8).2.2 hc).2.2.2.2.2
        exact ih x _ n (deep + 1) (by have := Tm.sz_case (k := k) (n := m) (a := a) (b := b) (vs := vs) (xs := xs) hc; omega) (by omega) this
      · have := many_six h4 (fun h => absurd h h8)
        have hl : cs.length = 0 := by
          unfold manyB at h4
          simp only [Bool.or_eq_false_iff, Bool.and_eq_false_iff, decide_eq_false_iff_not] at h4
          rcases h4.2 with h' | h'
          · exact absurd h8 h'
          · omega
        have : cs = [] := List.eq_nil_of_length_eq_zero hl
        subst this
        simp [Cs.szs]
    have h8 := szs_le hx
    have h9 := many_six h4 fun h => (h7 h).2.1
    simp only [Tm.sz, gB]
    have : xs.length * gB n + cs.length * gB n ≤ 6 * gB n := by
      rw [← Nat.add_mul]; exact Nat.mul_le_mul_right _ h9
    omega

theorem wrong_small {f : Arity} {t : Tm} {names : List ByteArray} (h : t.wrong f names 0 = 0) : wr t.sz = t.sz := by
  have h1 := wrong_sz f _ t names 25 0 (Nat.lt_succ_self _) (by omega) h
  have h2 : gB 25 ≤ 9223372036854775807 := by decide +kernel
  exact wr_id ⟨by omega, by omega⟩

/-! ### What it needs is there -/
theorem mem_addN {s : ByteArray} (more : List ByteArray) : ∀ l : List ByteArray, s ∈ addN l more ↔ s ∈ l ∨ s ∈ more := by
  induction more with
  | nil => intro l; simp [addN]
  | cons x more ih =>
    intro l
    have := ih (if hasB l x then l else l ++ [x])
    simp only [addN, List.foldl_cons] at this ⊢
    rw [this]
    split
    · rename_i h
      have h := hasB_iff.1 h
      simp only [List.mem_cons]
      constructor
      · rintro (h | h)
        · exact .inl h
        · exact .inr (.inr h)
      · rintro (h' | rfl | h')
        · exact .inl h'
        · exact .inl h
        · exact .inr h'
    · simp only [List.mem_append, List.mem_cons, List.not_mem_nil, or_false, or_assoc]
theorem mem_woN {s : ByteArray} {l gone : List ByteArray} : s ∈ woN l gone ↔ s ∈ l ∧ s ∉ gone := by
  unfold woN
  rw [List.mem_filter, ← hasB_not (l := gone)]
  simp
theorem mem_frees {s : ByteArray} (l : List Tm) : ∀ o, s ∈ Tm.frees o l ↔ s ∈ o ∨ ∃ x ∈ l, s ∈ x.free := by
  induction l with
  | nil => intro o; simp [Tm.frees]
  | cons x r ih =>
    intro o
    simp only [Tm.frees, ih, mem_addN, List.mem_cons, exists_eq_or_imp, or_assoc]
theorem mem_cfrees {s : ByteArray} (l : List Cs) : ∀ o, s ∈ Cs.frees o l ↔ s ∈ o ∨ ∃ x ∈ l, s ∈ x.freeC := by
  induction l with
  | nil => intro o; simp [Cs.frees]
  | cons x r ih =>
    intro o
    simp only [Cs.frees, ih, mem_addN, List.mem_cons, exists_eq_or_imp, or_assoc]

theorem wrong_free (f : Arity) : ∀ (N : Nat) (t : Tm) (names : List ByteArray) (deep : Int), t.sz < N → t.wrong f names deep = 0 → ∀ s ∈ t.free, s ∈ names := by
  intro N
  induction N with
  | zero => intro t _ _ h; omega
  | succ N ih =>
  intro t names deep hN h s hs
  obtain ⟨k, m, a, b, vs, xs, cs⟩ := t
  obtain ⟨h1, h2, h3, h4, h5, h6, h7⟩ := wrong_zero h
  have hx : ∀ (j : Nat) (x : Tm), xs[j]? = some x → s ∈ x.free → s ∈ (if k = 6 ∧ 0 + j = 1 then names ++ [a] else names) := fun j x hj hs =>
    ih x _ (deep + 1) (by have := Tm.sz_arg (k := k) (n := m) (a := a) (b := b) (vs := vs) (cs := cs) (List.mem_of_getElem? hj); omega) (wrongs_zero h6 j x hj) s hs
  simp only [Tm.free] at hs
  split at hs
  · rename_i hk
    subst hk
    unfold headE at h5
    rw [if_pos rfl] at h5
    split at h5
    · rename_i hh
      simp at hs
      subst hs
      exact hasB_iff.1 hh
    · cases h5
  split at hs
  · rename_i hk
    obtain ⟨hk, hl⟩ := hk
    match xs, hl with
    | [x, y], _ =>
      simp only [Tm.freeL, Tm.freeB] at hs
      rw [mem_addN, mem_addN, mem_woN] at hs
      rcases hs with (hs | hs) | hs
      · cases hs
      · have := hx 0 x rfl hs
        rwa [if_neg (by omega)] at this
      · have := hx 1 y rfl hs.1
        rw [if_pos (by omega)] at this
        rcases List.mem_append.1 this with h | h
        · exact h
        · exact absurd h hs.2
  · rename_i hk1 hk2
    rw [if_neg (by omega), mem_cfrees, mem_frees] at hs
    rcases hs with (hs | ⟨x, hm, hs⟩) | ⟨c, hm, hs⟩
    · cases hs
    · obtain ⟨j, hj⟩ := List.mem_iff_getElem?.1 hm
      have := hx j x hj hs
      have hj2 : j < xs.length := by
        have := List.getElem?_eq_some_iff.1 hj
        exact this.1
      rw [if_neg] at this
      · exact this
      rintro ⟨rfl, hj1⟩
      unfold manyB at h4
      simp at h4
      simp at hk2
      exact hk2 h4.1
    · have hk7 : k = 7 := by
        unfold manyB at h4
        simp only [Bool.or_eq_false_iff, Bool.and_eq_false_iff, decide_eq_false_iff_not] at h4
        rcases h4.2 with h' | h'
        · omega
        · have := List.length_pos_of_mem hm; omega
      obtain ⟨g, ws, x⟩ := c
      have h8 := (cwrongs_zero (h7 hk7).2.2 hm).2.2.2.2.2
      simp only [Cs.freeC] at hs
      rw [mem_woN] at hs
      have := ih x _ (deep + 1) (by have := Tm.sz_case (k := k) (n := m) (a := a) (b := b) (vs := vs) (xs := xs) hm; omega) h8 s hs.1
      rcases List.mem_append.1 this with h | h
      · exact h
      · exact absurd h hs.2

/-! ### A right program -/
theorem heads_zero : ∀ {l : List Fn} {f : Arity}, headsE f l = 0 → ∀ x ∈ l, nameB x.name = true ∧ twB x.params = false ∧ badB x.params = false ∧ x.params.length ≤ 6 ∧ wr x.body.sz ≤ 400
  | [], _, _, x, hx => by cases hx
  | y :: r, f, h, x, hx => by
    simp only [headsE] at h
    split at h
    · rename_i h1; exact absurd h h1
    rename_i h1
    rcases List.mem_cons.1 hx with rfl | hx
    · have h1 := Decidable.byContradiction fun e => h1 e
      unfold Fn.headE at h1
      split at h1
      · cases h1
      split at h1
      · cases h1
      split at h1
      · cases h1
      rename_i h2 h3 h4
      simp only [Bool.or_eq_true, not_or, Bool.not_eq_true, Bool.not_eq_false, Bool.not_eq_true'] at h2
      exact ⟨by simpa using h2.1.1.2, h2.1.2, h2.2, by omega, by omega⟩
    · exact heads_zero h x hx
theorem bodies_zero {f : Arity} : ∀ {l : List Fn}, bodiesE f l = 0 → ∀ x ∈ l, x.body.wrong f x.params 0 = 0
  | [], _, x, hx => by cases hx
  | y :: r, h, x, hx => by
    simp only [bodiesE] at h
    split at h
    · rename_i h1; exact absurd h h1
    rename_i h1
    rcases List.mem_cons.1 hx with rfl | hx
    · exact Decidable.byContradiction fun e => h1 e
    · exact bodies_zero h x hx
/-- What a right program's functions are like. -/
structure Fn.Right (f : Arity) (x : Fn) : Prop where
  name : nameB x.name = true
  twice : twB x.params = false
  bad : badB x.params = false
  params : x.params.length ≤ 6
  sz : x.body.sz ≤ 400
  wrong : x.body.wrong f x.params 0 = 0
theorem check_zero {l : List Fn} (h : checkE l = 0) : l.length ≠ 0 ∧ l.length ≤ 6 ∧ headsE [] l = 0 ∧ ∀ x ∈ l, x.Right (arOf l) := by
  unfold checkE at h
  split at h
  · cases h
  split at h
  · rename_i h1; exact absurd h h1
  rename_i h1 h2
  have h2 := Decidable.byContradiction fun e => h2 e
  refine ⟨by omega, by omega, h2, fun x hx => ?_⟩
  obtain ⟨k1, k2, k3, k4, k5⟩ := heads_zero h2 x hx
  have k6 := bodies_zero h x hx
  rw [wrong_small k6] at k5
  exact ⟨k1, k2, k3, k4, by omega, k6⟩
theorem Fn.Right.free {f : Arity} {x : Fn} (h : x.Right f) : ∀ s ∈ x.body.free, s ∈ x.params := wrong_free f _ x.body x.params 0 (Nat.lt_succ_self _) h.wrong
end Go.Proofs.YtialccgjbanmcaaDoor
