/- What a cell's opening, and the use of its room, come to in a heap whose counts are right. No program. -/
import Derived.Test.YtcakhebnebcpcaaRightC
namespace Go.Proofs.Ytcakhebnebcpcaa
open Go.RowKit

theorem allS_dup (h : Hp) (s : Slt) (he : (h.dup s).2 = 0) : allS (h.dup s).1.cells = allS h.cells := by
  rcases dup_two h s with ⟨hk, h1⟩ | ⟨a, x, b, hk, ht, hx, hl, ha, hc, h1⟩ | ⟨_, _, h1⟩
  · rw [h1]
  · rw [h1, put_split hl ha, hl, allS_split, allS_split]
  · rw [h1] at he; simp at he

theorem RightP.dups : ∀ (l : List Slt) {h : Hp} {R : List Slt}, RightP h R → (∀ s ∈ l, s.kind ≠ 2 ∨ s ∈ allS h.cells ∨ s ∈ R) → (h.dups l).2 = 0 ∧ RightP (h.dups l).1 (l ++ R) ∧ allS (h.dups l).1.cells = allS h.cells
  | [], h, R, hP, _ => ⟨rfl, hP, rfl⟩
  | s :: l, h, R, hP, hs => by
    have h0 : (h.dup s).2 = 0 := hP.dupOk (by rcases hs s (by simp) with h | h | h <;> simp [h])
    have h1 := hP.dup s h0
    have h2 := allS_dup h s h0
    obtain ⟨a1, a2, a3⟩ := RightP.dups l h1 fun t ht => by
      rcases hs t (List.mem_cons_of_mem _ ht) with h | h | h
      · exact .inl h
      · exact .inr (.inl (by rw [h2]; exact h))
      · exact .inr (.inr (by simp [h]))
    rw [Hp.dups, if_pos h0]
    refine ⟨a1, a2.perm (fun t ht => .inl ?_) (fun i => ?_), a3.trans h2⟩
    · simp only [List.cons_append, List.mem_cons, List.mem_append] at ht ⊢
      rcases ht with ht | ht | ht
      · exact .inr (.inl ht)
      · exact .inl ht
      · exact .inr (.inr ht)
    · rw [List.cons_append, cnt_cons, cnt_append, cnt_append, cnt_cons s R]; omega

theorem Sz.dups {L : Nat} : ∀ (l : List Slt) {h : Hp}, Sz L h → Sz L (h.dups l).1
  | [], h, hS => hS
  | s :: l, h, hS => by
    rw [Hp.dups]
    split
    · exact Sz.dups l (hS.dup s)
    · exact Sz.zero L

theorem at_put {h : Hp} {n : Int} {x y : Cll} (hx : h.at n = some x) : (h.put n y).at n = some y := by
  obtain ⟨h0, h1, _⟩ := Hp.at_some hx
  rw [Hp.at, if_pos h0]
  simp only [Hp.put]
  rw [List.getElem?_set, if_pos rfl, if_pos (by omega)]

/-- A cell that nobody else has is held, and its room used. -/
theorem hold_one {h : Hp} {s : Slt} {x : Cll} (ht : h.there s = true) (hx : h.at s.n = some x) (h1 : x.count = 1) : h.hold s = (h.put s.n { Cll.zero with count := -1 }, s, 0) := by
  have ho : h.open s true = (h.put s.n { Cll.zero with count := -1 }, true, 0) := by
    rw [Hp.open, if_pos ht, hx]; simp [h1]
  rw [Hp.hold, ho]; rfl
theorem use_one {h : Hp} {s : Slt} {x : Cll} (hk : s.kind = 2) (hx : h.at s.n = some x) (tag : Int) (l : List Slt) : (h.put s.n { Cll.zero with count := -1 }).use s tag l = ({ (h.put s.n { Cll.zero with count := -1 }).put s.n ⟨1, tag, l⟩ with used := h.used + 1 }, s, 0) := by
  rw [Hp.use, if_pos hk, if_pos (by rw [Hp.kept, at_put hx]; rfl)]
  rfl

/-- A cell that others have too is opened. -/
theorem open_more {h : Hp} {s : Slt} {x : Cll} {R : List Slt} {L : Nat} (hP : RightP h (s :: R)) (hS : Sz L h) (hk : s.kind = 2) (hx : h.at s.n = some x) (h1 : x.count ≠ 1) (keep : Bool) :
    h.open s keep = (((h.put s.n { x with count := x.count - 1 }).dups x.slots).1, false, 0) ∧ RightP ((h.put s.n { x with count := x.count - 1 }).dups x.slots).1 (x.slots ++ R) ∧ Sz L ((h.put s.n { x with count := x.count - 1 }).dups x.slots).1 := by
  have ht := hP.thereOf (.inl (List.mem_cons_self ..)) hk
  obtain ⟨_, a, x', b, hx', hl, ha, hc⟩ := RightP.split ht
  rw [hx] at hx'
  cases hx'
  have hst : h.step s [] = (h.put s.n { x with count := x.count - 1 }, [], 0) := by
    rw [Hp.step, if_pos hk, hx]; simp [hc, h1]
  obtain ⟨_, hP'⟩ := RightP.step (st := []) hP
  rw [hst] at hP'
  dsimp only at hP'
  have hS' := hS.step s []
  rw [hst] at hS'
  dsimp only at hS'
  have hc' := put_split (y := { x with count := x.count - 1 }) hl ha
  obtain ⟨d1, d2, d3⟩ := RightP.dups x.slots hP' fun t ht => .inr (.inl (by rw [hc', allS_split]; simp [ht]))
  refine ⟨?_, d2, hS'.dups x.slots⟩
  rw [Hp.open, if_pos ht, hx]
  simp [h1, d1]
end Go.Proofs.Ytcakhebnebcpcaa
