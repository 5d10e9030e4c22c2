/- Opened and used up: as if what is in the cell were counted first, and the cell then dropped. No program. -/
import Derived.Test.YtcakhebnebcpcaaLawB
namespace Go.Proofs.Ytcakhebnebcpcaa
open Go.RowKit

theorem put_put (h : Hp) (n : Int) (x y : Cll) : (h.put n x).put n y = h.put n y := by simp [Hp.put]
theorem put_same {h : Hp} {n : Int} {x : Cll} (hx : h.at n = some x) : h.put n x = h := by
  obtain ⟨h0, h1, _⟩ := Hp.at_some hx
  rw [Hp.at, if_pos h0] at hx
  have : h.cells.set n.toNat x = h.cells := by
    apply List.ext_getElem?
    intro i
    rw [List.getElem?_set]
    split
    · rename_i he
      subst he
      rw [if_pos (by omega), hx]
    · rfl
  simp [Hp.put, this]

/-- Counted once more, and dropped. -/
theorem dup_drop {h : Hp} {s : Slt} (he : (h.dup s).2 = 0) : (h.dup s).1.drop s = (h, 0) := by
  rcases dup_two h s with ⟨hk, h1⟩ | ⟨a, x, b, hk, ht, hx, hl, ha, hc, h1⟩ | ⟨_, _, h1⟩
  · rw [h1, Hp.drop_kind hk]
  · rw [h1]
    have h2 := at_put (y := { x with count := x.count + 1 }) hx
    rw [Hp.drop_less hk h2 (by dsimp only; omega) (by dsimp only; omega), put_put]
    have : ({ x with count := x.count + 1 - 1 } : Cll) = x := by
      obtain ⟨c, t, l⟩ := x
      simp
    dsimp only
    rw [this, put_same hx]
  · rw [h1] at he; simp at he

theorem dups_append : ∀ (a : List Slt) {h : Hp} (b : List Slt), (h.dups a).2 = 0 → h.dups (a ++ b) = (h.dups a).1.dups b
  | [], h, b, _ => rfl
  | s :: a, h, b, he => by
    rw [Hp.dups] at he
    split at he
    · rename_i h0
      rw [List.cons_append, Hp.dups, if_pos h0, Hp.dups, if_pos h0]
      exact dups_append a b he
    · simp at he

theorem dups_drops : ∀ (l : List Slt) {g : Hp}, (g.dups l).2 = 0 → (g.dups l).1.drops l.reverse = (g, 0)
  | [], g, _ => Hp.drops_nil g
  | s :: l, g, he => by
    rw [Hp.dups] at he ⊢
    split at he
    · rename_i h0
      rw [if_pos h0, List.reverse_cons, Hp.drops_append _ _ l.reverse [s] (Nat.le_refl _), dups_drops l he]
      exact dup_drop h0
    · simp at he

theorem put_comm (h : Hp) {n m : Int} (hn : 0 ≤ n) (hm : 0 ≤ m) (hne : n ≠ m) (x y : Cll) : (h.put n x).put m y = (h.put m y).put n x := by
  simp only [Hp.put]
  rw [List.set_comm _ _ (by omega)]
theorem at_put_ne (h : Hp) {n m : Int} (hn : 0 ≤ n) (hm : 0 ≤ m) (hne : n ≠ m) (x : Cll) : (h.put n x).at m = h.at m := by
  simp only [Hp.at, Hp.put, if_pos hm]
  rw [List.getElem?_set, if_neg (by omega)]

/-- A cell is emptied. -/
def zap (h : Hp) (n : Int) : Hp := { h.put n Cll.zero with live := h.live - 1 }
theorem dup_zap {h : Hp} {t : Slt} {n : Int} (hn : 0 ≤ n) (ht : t.kind = 2 → t.n ≠ n) (he : (h.dup t).2 = 0) : (zap h n).dup t = (zap (h.dup t).1 n, 0) := by
  rcases dup_two h t with ⟨hk, h1⟩ | ⟨a, x, b, hk, _, hx, hl, ha, hc, h1⟩ | ⟨_, _, h1⟩
  · rw [h1, Hp.dup, if_neg hk]
  · have hne := ht hk
    have h2 : (zap h n).at t.n = some x := (at_put_ne h hn (by omega) (fun h => hne h.symm) Cll.zero).trans hx
    rw [h1, Hp.dup, if_pos hk, h2]
    simp only [if_pos hc]
    have := put_comm h hn (show 0 ≤ t.n by omega) (fun h => hne h.symm) Cll.zero { x with count := x.count + 1 }
    simp only [Hp.put, Hp.mk.injEq, and_true] at this
    simp only [zap, Hp.put, this]
  · rw [h1] at he; simp at he
theorem dups_zap : ∀ (l : List Slt) {h : Hp} {n : Int}, 0 ≤ n → (∀ t ∈ l, t.kind = 2 → t.n ≠ n) → (h.dups l).2 = 0 → (zap h n).dups l = (zap (h.dups l).1 n, 0)
  | [], h, n, _, _, _ => rfl
  | t :: l, h, n, hn, ht, he => by
    rw [Hp.dups] at he ⊢
    split at he
    · rename_i h0
      rw [dup_zap hn (ht t (by simp)) h0, if_pos rfl]
      have := dups_zap l hn (fun u hu => ht u (by simp [hu])) he
      rw [this, Hp.dups, if_pos h0]
    · simp at he

theorem dups_at : ∀ (l : List Slt) {h : Hp} {n : Int}, 0 ≤ n → (∀ t ∈ l, t.kind = 2 → t.n ≠ n) → (h.dups l).2 = 0 → (h.dups l).1.at n = h.at n
  | [], h, n, _, _, _ => rfl
  | t :: l, h, n, hn, ht, he => by
    rw [Hp.dups] at he ⊢
    split at he
    · rename_i h0
      rw [if_pos h0, dups_at l hn (fun u hu => ht u (by simp [hu])) he]
      rcases dup_two h t with ⟨hk, h1⟩ | ⟨a, x, b, hk, _, hx, hl, ha, hc, h1⟩ | ⟨_, _, h1⟩
      · rw [h1]
      · rw [h1]
        exact at_put_ne h (by omega) hn (ht t (by simp) hk) _
      · rw [h1] at h0; simp at h0
    · simp at he

/-- Nobody else has the cell: opened. -/
theorem take_one {h : Hp} {s : Slt} {x : Cll} {R : List Slt} (hP : RightP h (s :: R)) (hk : s.kind = 2) (hx : h.at s.n = some x) (h1 : x.count = 1) :
    (h.dups x.slots).2 = 0 ∧ (h.dups x.slots).1.drop s = ((h.open s false).1, 0) ∧ (h.open s false).2.2 = 0 := by
  have ht := hP.thereOf (.inl (List.mem_cons_self ..)) hk
  obtain ⟨_, a, x', b, hx', hl, ha, hc⟩ := RightP.split ht
  rw [hx] at hx'
  cases hx'
  have h0 := hP.cnt a.length x (by rw [hl]; simp)
  rw [cnt_cons, cnt_here hk ha.symm] at h0
  have hno : ∀ t ∈ x.slots, t.kind = 2 → t.n ≠ s.n := fun t hm hk' he => by
    have := cnt_pos (l := allS h.cells) (s := t) (i := a.length) (allS_mem.2 ⟨x, by rw [hl]; simp, hm⟩) hk' (by omega)
    omega
  obtain ⟨d1, _, _⟩ := RightP.dups x.slots hP fun t hm => .inr (.inl (allS_mem.2 ⟨x, by rw [hl]; simp, hm⟩))
  have hat := dups_at x.slots (by omega) hno d1
  have ho : h.open s false = (zap h s.n, true, 0) := by rw [Hp.open, if_pos ht, hx]; simp [h1, zap]
  have hz := dups_zap x.slots (n := s.n) (by omega) hno d1
  rw [ho]
  refine ⟨d1, ?_, rfl⟩
  rw [Hp.drop_last hk (hat.trans hx) h1]
  have := dups_drops x.slots (g := zap h s.n) (by rw [hz])
  rw [hz] at this
  exact this

/-- A cell is counted once less. -/
def less (h : Hp) (n : Int) : Hp := match h.at n with | some x => h.put n { x with count := x.count - 1 } | none => h
theorem less_some {h : Hp} {n : Int} {x : Cll} (hx : h.at n = some x) : less h n = h.put n { x with count := x.count - 1 } := by rw [less, hx]
theorem dup_less {h : Hp} {t : Slt} {n : Int} {x : Cll} (hx : h.at n = some x) (h2 : 2 ≤ x.count) (he : (h.dup t).2 = 0) :
    (less h n).dup t = (less (h.dup t).1 n, 0) ∧ ∃ y, (h.dup t).1.at n = some y ∧ 2 ≤ y.count := by
  have hn := (Hp.at_some hx).1
  rw [less_some hx]
  rcases dup_two h t with ⟨hk, h1⟩ | ⟨a, y, b, hk, _, hy, hl, ha, hc, h1⟩ | ⟨_, _, h1⟩
  · rw [h1, Hp.dup, if_neg hk, less_some hx]
    exact ⟨rfl, x, hx, h2⟩
  · rw [h1]
    by_cases hne : t.n = n
    · rw [hne] at hy ⊢
      rw [hx] at hy
      cases hy
      have e1 := at_put (y := { x with count := x.count - 1 }) hx
      have e2 := at_put (y := { x with count := x.count + 1 }) hx
      rw [Hp.dup, if_pos hk, hne, e1, less_some e2]
      simp only [put_put]
      rw [if_pos (by omega)]
      refine ⟨?_, _, e2, by dsimp only; omega⟩
      rw [show x.count - 1 + 1 = x.count + 1 - 1 by omega]
    · have e1 : (h.put n { x with count := x.count - 1 }).at t.n = some y := (at_put_ne h hn (by omega) (fun h => hne h.symm) _).trans hy
      have e2 : (h.put t.n { y with count := y.count + 1 }).at n = some x := (at_put_ne h (by omega) hn hne _).trans hx
      rw [Hp.dup, if_pos hk, e1, less_some e2]
      simp only [if_pos hc]
      exact ⟨by rw [put_comm h hn (by omega) (fun h => hne h.symm)], x, e2, h2⟩
  · rw [h1] at he; simp at he
theorem dups_less : ∀ (l : List Slt) {h : Hp} {n : Int} {x : Cll}, h.at n = some x → 2 ≤ x.count → (h.dups l).2 = 0 → (less h n).dups l = (less (h.dups l).1 n, 0) ∧ ∃ y, (h.dups l).1.at n = some y ∧ 2 ≤ y.count
  | [], h, n, x, hx, h2, _ => ⟨rfl, x, hx, h2⟩
  | t :: l, h, n, x, hx, h2, he => by
    rw [Hp.dups] at he ⊢
    split at he
    · rename_i h0
      obtain ⟨a1, y, a2, a3⟩ := dup_less hx h2 h0
      rw [a1, if_pos rfl, Hp.dups, if_pos h0]
      exact dups_less l a2 a3 he
    · simp at he

/-- Others have the cell too: opened. -/
theorem take_more {h : Hp} {s : Slt} {x : Cll} {R : List Slt} (hP : RightP h (s :: R)) (hk : s.kind = 2) (hx : h.at s.n = some x) (h1 : x.count ≠ 1) :
    (h.dups x.slots).2 = 0 ∧ (h.dups x.slots).1.drop s = ((h.open s false).1, 0) ∧ (h.open s false).2.2 = 0 := by
  have ht := hP.thereOf (.inl (List.mem_cons_self ..)) hk
  obtain ⟨_, a, x', b, hx', hl, ha, hc⟩ := RightP.split ht
  rw [hx] at hx'
  cases hx'
  obtain ⟨d1, _, _⟩ := RightP.dups x.slots hP fun t hm => .inr (.inl (allS_mem.2 ⟨x, by rw [hl]; simp, hm⟩))
  obtain ⟨a1, y, a2, a3⟩ := dups_less x.slots hx (by omega) d1
  rw [less_some hx] at a1
  have ho : h.open s false = (less (h.dups x.slots).1 s.n, false, 0) := by
    rw [Hp.open, if_pos ht, hx]
    simp [h1, a1]
  rw [ho]
  refine ⟨d1, ?_, rfl⟩
  rw [Hp.drop_less hk a2 (by omega) (by omega), less_some a2]
end Go.Proofs.Ytcakhebnebcpcaa
