/- What a heap needs for a Drop, in plain Lean; it lasts from step to step. -/
import Derived.Test.YtcakhebnebcpcaaHeapU
namespace Go.Proofs.Ytcakhebnebcpcaa
open Go.RowKit
set_option linter.unusedVariables false

/-- The heap may be dropped from, k slots to go. -/
structure Hp.Dk (k : Nat) (h : Hp) : Prop where
  len : h.cells.length ≤ 1000000
  slots : ∀ x ∈ h.cells, x.slots.length ≤ 8796093022208
  count : ∀ x ∈ h.cells, -1000000 ≤ x.count ∧ x.count ≤ 1000000
  lo : -4000000000000 ≤ h.live - k - tot h.cells
  hi : h.live ≤ 1000000

theorem Hp.put_tot {h : Hp} {n : Int} {x y : Cll} (hx : h.at n = some x) : tot (h.put n y).cells + x.slots.length = tot h.cells + y.slots.length := by
  obtain ⟨_, _, ys, zs, hl, hky⟩ := Hp.at_some hx
  rw [Hp.put_split hl hky, hl, tot_append, tot_append]
  simp [tot]
  omega

theorem Hp.Ok.dk {h : Hp} {M : Int} (hM : M ≤ 1000000) (hO : h.Ok M) : h.Dk 1 := by
  have hlen := hO.len
  have hlv := hO.live
  refine ⟨by omega, fun x hx => by have := hO.slots x hx; omega, fun x hx => by have := hO.count x hx; omega, ?_, by omega⟩
  have := tot_le (by omega : (0 : Int) ≤ M) hO.slots
  have h2 : (h.cells.length : Int) * M ≤ 1000000 * 1000000 := Int.mul_le_mul (by omega) hM (by omega) (by omega)
  omega

theorem Hp.Dk.put {h : Hp} {k k' : Nat} (D : h.Dk k) (n : Int) {y : Cll} (h1 : y.slots.length ≤ 8796093022208) (h2 : -1000000 ≤ y.count ∧ y.count ≤ 1000000) (l : Int)
    (hlo : -4000000000000 ≤ l - k' - tot (h.put n y).cells) (hhi : l ≤ 1000000) : ({ h.put n y with live := l } : Hp).Dk k' :=
  ⟨by simpa [Hp.put] using D.len, fun z hz => by rcases Hp.put_mem hz with rfl | hz; exact h1; exact D.slots z hz, fun z hz => by rcases Hp.put_mem hz with rfl | hz; exact h2; exact D.count z hz, hlo, hhi⟩

theorem Hp.Dk.step {h : Hp} {x : Slt} {st : List Slt} {k : Nat} (D : h.Dk ((x :: st).length + k)) (he : (h.step x st).2.2 = 0) :
    (h.step x st).1.Dk ((h.step x st).2.1.length + k) ∧ tot (h.step x st).1.cells ≤ tot h.cells := by
  have hlo := D.lo
  rw [List.length_cons] at hlo
  have hhi := D.hi
  unfold Hp.step at he ⊢
  by_cases hk : x.kind = 2
  · rw [if_pos hk] at he ⊢
    rcases hx : h.at x.n with _ | c
    · rw [hx] at he; simp at he
    · rw [hx] at he
      obtain ⟨_, _, ys, zs, hl, hky⟩ := Hp.at_some hx
      have hcm : c ∈ h.cells := by rw [hl]; simp
      have hcs := D.slots c hcm
      have hcc := D.count c hcm
      by_cases hc : 1 ≤ c.count
      · by_cases h1 : c.count = 1
        · have ht := Hp.put_tot (y := Cll.zero) hx
          simp [Cll.zero] at ht
          simp only [if_pos hc, if_pos h1]
          refine ⟨D.put _ (by simp [Cll.zero]) (by simp [Cll.zero]) _ ?_ (by omega), ?_⟩
          · simp [Cll.zero]
            omega
          · simp [Cll.zero]
            omega
        · have ht := Hp.put_tot (y := { c with count := c.count - 1 }) hx
          dsimp only at ht
          simp only [if_pos hc, if_neg h1]
          refine ⟨D.put (y := { c with count := c.count - 1 }) _ hcs (by dsimp only; omega) h.live ?_ hhi, ?_⟩
          · show _ ≤ h.live - _ - _
            omega
          · omega
      · simp [hc] at he
  · rw [if_neg hk]
    refine ⟨⟨D.len, D.slots, D.count, by dsimp only; omega, D.hi⟩, Nat.le_refl _⟩

theorem Hp.Dk.drops : ∀ (n : Nat) (h : Hp) (st : List Slt) (k : Nat), st.length + tot h.cells ≤ n → h.Dk (st.length + k) → (h.drops st).2 = 0 →
    (h.drops st).1.Dk k ∧ tot (h.drops st).1.cells ≤ tot h.cells := by
  intro n
  induction n with
  | zero =>
    intro h st k hn D he
    have : st = [] := List.eq_nil_of_length_eq_zero (by omega)
    subst this
    rw [Hp.drops_nil]
    exact ⟨by simpa using D, Nat.le_refl _⟩
  | succ n ih =>
    intro h st k hn D he
    rcases st with _ | ⟨x, st⟩
    · rw [Hp.drops_nil]
      exact ⟨by simpa using D, Nat.le_refl _⟩
    · rw [Hp.drops_cons] at he ⊢
      by_cases h0 : (h.step x st).2.2 = 0
      · rw [if_pos h0] at he ⊢
        have hm := Hp.step_msr h0
        obtain ⟨d1, d2⟩ := D.step h0
        obtain ⟨e1, e2⟩ := ih _ _ k (by omega) d1 he
        exact ⟨e1, by omega⟩
      · rw [if_neg h0] at he
        simp at he

/-- One slot: what Drop says of it. -/
theorem Hp.drop_kind {h : Hp} {s : Slt} (hk : s.kind ≠ 2) : h.drop s = (h, 0) := by
  simp [Hp.drop, Hp.drops_cons, Hp.step, hk, Hp.drops_nil]
theorem Hp.drop_gone {h : Hp} {s : Slt} (hk : s.kind = 2) (ht : h.there s = false) : h.drop s = (Hp.zero, 14) := by
  unfold Hp.there at ht
  rw [Hp.drop, Hp.drops_cons, Hp.step, if_pos hk]
  rcases hx : h.at s.n with _ | c
  · simp
  · rw [hx] at ht
    simp [hk] at ht
    simp [show ¬ 1 ≤ c.count by omega]
theorem Hp.drop_less {h : Hp} {s : Slt} {c : Cll} (hk : s.kind = 2) (hx : h.at s.n = some c) (hc : 1 ≤ c.count) (h1 : c.count ≠ 1) : h.drop s = (h.put s.n { c with count := c.count - 1 }, 0) := by
  rw [Hp.drop, Hp.drops_cons, Hp.step, if_pos hk, hx]
  simp [hc, h1, Hp.drops_nil]
theorem Hp.drop_last {h : Hp} {s : Slt} {c : Cll} (hk : s.kind = 2) (hx : h.at s.n = some c) (h1 : c.count = 1) : h.drop s = ({ h.put s.n Cll.zero with live := h.live - 1 } : Hp).drops c.slots.reverse := by
  rw [Hp.drop, Hp.drops_cons, Hp.step, if_pos hk, hx]
  simp [h1]
theorem Hp.drops_back (h : Hp) (ys : List Slt) (x : Slt) : h.drops (ys ++ [x]).reverse = if (h.drop x).2 = 0 then (h.drop x).1.drops ys.reverse else (Hp.zero, 14) := by
  rw [show (ys ++ [x]).reverse = [x] ++ ys.reverse from by simp, Hp.drops_append _ h [x] ys.reverse (Nat.le_refl _)]
  rfl
end Go.Proofs.Ytcakhebnebcpcaa
