/- What drops a slot, in plain Lean: a stack of slots. -/
import Derived.Test.YtcakhebnebcpcaaHeapS
namespace Go.Proofs.Ytcakhebnebcpcaa
open Go.RowKit
set_option linter.unusedVariables false

/-- All slots of all cells. -/
def tot : List Cll → Nat
  | [] => 0
  | x :: r => x.slots.length + tot r
theorem tot_append (a b : List Cll) : tot (a ++ b) = tot a + tot b := by
  induction a with
  | nil => simp [tot]
  | cons x r ih => simp [tot, ih]; omega

/-- One step: the slot that lies on top goes. -/
def Hp.step (h : Hp) (x : Slt) (st : List Slt) : Hp × List Slt × Int :=
  if x.kind = 2 then
    match h.at x.n with
    | some c =>
      if 1 ≤ c.count then
        if c.count = 1 then ({ h.put x.n Cll.zero with live := h.live - 1 }, c.slots.reverse ++ st, 0)
        else (h.put x.n { c with count := c.count - 1 }, st, 0)
      else (h, st, 14)
    | none => (h, st, 14)
  else (h, st, 0)

def dropS : Nat → Hp → List Slt → Hp × Int
  | _, h, [] => (h, 0)
  | 0, h, _ :: _ => (h, 0)
  | f + 1, h, x :: st => if (h.step x st).2.2 = 0 then dropS f (h.step x st).1 (h.step x st).2.1 else (Hp.zero, 14)

theorem Hp.step_msr {h : Hp} {x : Slt} {st : List Slt} (he : (h.step x st).2.2 = 0) : (h.step x st).2.1.length + tot (h.step x st).1.cells + 1 ≤ (x :: st).length + tot h.cells := by
  unfold Hp.step at he ⊢
  by_cases hk : x.kind = 2
  · rw [if_pos hk] at he ⊢
    rcases hx : h.at x.n with _ | c
    · rw [hx] at he; simp at he
    · obtain ⟨_, _, ys, zs, hl, hky⟩ := Hp.at_some hx
      rw [hx] at he
      by_cases hc : 1 ≤ c.count
      · by_cases h1 : c.count = 1
        · simp only [if_pos hc, if_pos h1]
          have := Hp.put_split (y := Cll.zero) hl hky
          simp only [this]
          rw [hl, tot_append, tot_append]
          simp [tot, Cll.zero]
          omega
        · simp only [if_pos hc, if_neg h1]
          have := Hp.put_split (y := { c with count := c.count - 1 }) hl hky
          rw [this, hl, tot_append, tot_append]
          simp [tot]
          omega
      · simp [hc] at he
  · rw [if_neg hk]
    simp
    omega

/-- Enough is enough. -/
theorem dropS_fuel : ∀ (f g : Nat) (h : Hp) (st : List Slt), st.length + tot h.cells ≤ f → st.length + tot h.cells ≤ g → dropS f h st = dropS g h st := by
  intro f
  induction f with
  | zero =>
    intro g h st hf hg
    have : st = [] := List.eq_nil_of_length_eq_zero (by omega)
    subst this
    cases g <;> rfl
  | succ f ih =>
    intro g h st hf hg
    rcases st with _ | ⟨x, st⟩
    · cases g <;> rfl
    · rcases g with _ | g
      · simp at hg
      · simp only [dropS]
        by_cases he : (h.step x st).2.2 = 0
        · have := Hp.step_msr he
          rw [if_pos he, if_pos he]
          exact ih g _ _ (by omega) (by omega)
        · rw [if_neg he, if_neg he]

/-- The whole of it. -/
def Hp.drops (h : Hp) (st : List Slt) : Hp × Int := dropS (st.length + tot h.cells) h st
def Hp.drop (h : Hp) (s : Slt) : Hp × Int := h.drops [s]

theorem Hp.drops_nil (h : Hp) : h.drops [] = (h, 0) := by
  unfold Hp.drops
  cases ([] : List Slt).length + tot h.cells <;> rfl
theorem Hp.drops_cons (h : Hp) (x : Slt) (st : List Slt) : h.drops (x :: st) = if (h.step x st).2.2 = 0 then (h.step x st).1.drops (h.step x st).2.1 else (Hp.zero, 14) := by
  unfold Hp.drops
  rw [show (x :: st).length + tot h.cells = (st.length + tot h.cells) + 1 from by simp; omega]
  simp only [dropS]
  by_cases he : (h.step x st).2.2 = 0
  · have := Hp.step_msr he
    rw [if_pos he, if_pos he]
    exact dropS_fuel _ _ _ _ (by simp at this; omega) (Nat.le_refl _)
  · rw [if_neg he, if_neg he]

theorem Hp.drops_two (h : Hp) : ∀ (n : Nat) (st : List Slt), st.length + tot h.cells ≤ n → (h.drops st).2 = 0 ∨ h.drops st = (Hp.zero, 14) := by
  intro n
  induction n generalizing h with
  | zero =>
    intro st hn
    have : st = [] := List.eq_nil_of_length_eq_zero (by omega)
    subst this
    exact .inl (by rw [Hp.drops_nil])
  | succ n ih =>
    intro st hn
    rcases st with _ | ⟨x, st⟩
    · exact .inl (by rw [Hp.drops_nil])
    · rw [Hp.drops_cons]
      by_cases he : (h.step x st).2.2 = 0
      · rw [if_pos he]
        have := Hp.step_msr he
        exact ih _ _ (by omega)
      · rw [if_neg he]
        exact .inr rfl

/-- One stack behind another one. -/
theorem Hp.step_append (h : Hp) (x : Slt) (a b : List Slt) : h.step x (a ++ b) = ((h.step x a).1, (h.step x a).2.1 ++ b, (h.step x a).2.2) := by
  unfold Hp.step
  by_cases hk : x.kind = 2
  · simp only [if_pos hk]
    rcases hx : h.at x.n with _ | c
    · rfl
    · by_cases hc : 1 ≤ c.count
      · by_cases h1 : c.count = 1
        · simp [h1]
        · simp [hc, h1]
      · simp [hc]
  · simp [hk]

theorem Hp.drops_append : ∀ (n : Nat) (h : Hp) (a b : List Slt), a.length + tot h.cells ≤ n → h.drops (a ++ b) = if (h.drops a).2 = 0 then (h.drops a).1.drops b else (Hp.zero, 14) := by
  intro n
  induction n with
  | zero =>
    intro h a b hn
    have : a = [] := List.eq_nil_of_length_eq_zero (by omega)
    subst this
    simp [Hp.drops_nil]
  | succ n ih =>
    intro h a b hn
    rcases a with _ | ⟨x, a⟩
    · simp [Hp.drops_nil]
    · rw [List.cons_append, Hp.drops_cons, Hp.drops_cons, Hp.step_append]
      by_cases he : (h.step x a).2.2 = 0
      · have := Hp.step_msr he
        simp only [he, if_true]
        exact ih _ _ _ (by omega)
      · simp [he]
end Go.Proofs.Ytcakhebnebcpcaa
