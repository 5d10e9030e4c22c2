/- What the functions of a heap do to one whose counts are right. Plain lists; no program. -/
import Derived.Test.YtcakhebnebcpcaaRightA
namespace Go.Proofs.Ytcakhebnebcpcaa
open Go.RowKit

theorem RightP.thereOf {h : Hp} {R : List Slt} (hP : RightP h R) {s : Slt} (hs : s ∈ R ∨ s ∈ allS h.cells) (hk : s.kind = 2) : h.there s = true := by
  obtain ⟨a, x, b, h1, _, _, h2⟩ := hP.has hs hk
  unfold Hp.there
  rw [h1]
  simp [hk]; omega

theorem RightP.split {h : Hp} {s : Slt} (ht : h.there s = true) : s.kind = 2 ∧ ∃ a x b, h.at s.n = some x ∧ h.cells = a ++ x :: b ∧ (a.length : Int) = s.n ∧ 1 ≤ x.count := by
  obtain ⟨hk, x, hx, hc⟩ := Hp.there_inv ht
  obtain ⟨h0, _, a, b, hl, ha⟩ := Hp.at_some hx
  exact ⟨hk, a, x, b, hx, hl, by omega, hc⟩

theorem inR_of {h : Hp} {s : Slt} (ht : h.there s = true) : inR h.cells.length s := fun hk => by
  obtain ⟨_, a, x, b, _, hl, ha, _⟩ := RightP.split ht
  have : h.cells.length = a.length + b.length + 1 := by rw [hl]; simp; omega
  omega

theorem dup_two (h : Hp) (s : Slt) : (s.kind ≠ 2 ∧ h.dup s = (h, 0)) ∨ (∃ a x b, s.kind = 2 ∧ h.there s = true ∧ h.at s.n = some x ∧ h.cells = a ++ x :: b ∧ (a.length : Int) = s.n ∧ 1 ≤ x.count ∧ h.dup s = (h.put s.n { x with count := x.count + 1 }, 0)) ∨ (h.there s = false ∧ s.kind = 2 ∧ h.dup s = (Hp.zero, 14)) := by
  by_cases hk : s.kind = 2
  · cases ht : h.there s with
    | true =>
      obtain ⟨_, a, x, b, hx, hl, ha, hc⟩ := RightP.split ht
      exact .inr (.inl ⟨a, x, b, hk, rfl, hx, hl, ha, hc, by rw [Hp.dup, if_pos hk, hx]; simp [hc]⟩)
    | false =>
      refine .inr (.inr ⟨rfl, hk, ?_⟩)
      rw [Hp.dup, if_pos hk]
      unfold Hp.there at ht
      rcases hx : h.at s.n with _ | x
      · rfl
      · rw [hx] at ht
        simp [hk] at ht
        simp [show ¬ 1 ≤ x.count by omega]
  · exact .inl ⟨hk, by rw [Hp.dup, if_neg hk]⟩

theorem RightP.dup {h : Hp} {R : List Slt} (hP : RightP h R) (s : Slt) (he : (h.dup s).2 = 0) : RightP (h.dup s).1 (s :: R) := by
  rcases dup_two h s with ⟨hk, h1⟩ | ⟨a, x, b, hk, ht, hx, hl, ha, hc, h1⟩ | ⟨_, _, h1⟩
  · rw [h1]
    exact hP.perm (fun t ht => by
      rcases List.mem_cons.1 ht with rfl | ht
      · exact .inr hk
      · exact .inl ht) fun i => by rw [cnt_cons, cnt_not hk]; omega
  · rw [h1]
    have hr := inR_of ht
    refine hP.swap hl (put_split hl ha) (fun t ht => ?_) (fun i hi => ?_) ?_ (fun h0 => ?_) ?_ ?_
    · dsimp only at ht
      rcases List.mem_append.1 ht with ht | ht
      · exact .inl (List.mem_append_left _ ht)
      · rcases List.mem_cons.1 ht with rfl | ht
        · exact .inr hr
        · exact .inl (List.mem_append_right _ ht)
    · rw [cnt_cons s R, cnt_there (by omega)]; dsimp only; omega
    · rw [cnt_cons s R, cnt_here hk ha.symm]; dsimp only; omega
    · dsimp only at h0; omega
    · dsimp only [Hp.put]
      rw [one0_ne (by omega), one0_ne (by omega)]; omega
    · exact Acyc.sub (x := x) (by rw [← hl]; exact hP.acyc) fun _ h => h
  · rw [h1] at he; simp at he

theorem RightP.dupOk {h : Hp} {R : List Slt} (hP : RightP h R) {s : Slt} (hs : s ∈ R ∨ s ∈ allS h.cells ∨ s.kind ≠ 2) : (h.dup s).2 = 0 := by
  rcases dup_two h s with ⟨_, h1⟩ | ⟨_, _, _, _, _, _, _, _, _, h1⟩ | ⟨h0, hk, h1⟩
  · rw [h1]
  · rw [h1]
  · rcases hs with hs | hs | hs
    · rw [hP.thereOf (.inl hs) hk] at h0; cases h0
    · rw [hP.thereOf (.inr hs) hk] at h0; cases h0
    · exact absurd hk hs

theorem RightP.step {h : Hp} {x : Slt} {st R : List Slt} (hP : RightP h (x :: (st ++ R))) : (h.step x st).2.2 = 0 ∧ RightP (h.step x st).1 ((h.step x st).2.1 ++ R) := by
  by_cases hk : x.kind = 2
  · obtain ⟨a, c, b, hx, hl, ha, hc⟩ := hP.has (.inl (List.mem_cons_self ..)) hk
    have hz := cnt_here hk ha.symm
    by_cases h1 : c.count = 1
    · have he : h.step x st = ({ h.put x.n Cll.zero with live := h.live - 1 }, c.slots.reverse ++ st, 0) := by
        rw [Hp.step, if_pos hk, hx]; simp [h1]
      rw [he]
      refine ⟨rfl, hP.swap hl (y := Cll.zero) (put_split hl ha) (fun t ht => ?_) (fun i hi => ?_) ?_ (fun _ => rfl) ?_ ?_⟩
      · simp only [Cll.zero, List.nil_append, List.append_assoc, List.mem_append, List.mem_reverse] at ht
        refine .inl ?_
        simp only [List.mem_append, List.mem_cons]
        rcases ht with ht | ht | ht
        · exact .inl ht
        · exact .inr (.inr (.inl ht))
        · exact .inr (.inr (.inr ht))
      · rw [cnt_cons x, cnt_there (s := x) (by omega)]
        simp only [Cll.zero, cnt_append, cnt_reverse, cnt_nil]
        omega
      · rw [cnt_cons x, hz]
        simp only [Cll.zero, cnt_append, cnt_reverse, cnt_nil]
        omega
      · rw [one0_zero (n := Cll.zero.count) rfl, one0_ne (n := c.count) (by omega)]; dsimp only; omega
      · exact Acyc.sub (by rw [← hl]; exact hP.acyc) fun _ h => by simp [Cll.zero] at h
    · have he : h.step x st = (h.put x.n { c with count := c.count - 1 }, st, 0) := by
        rw [Hp.step, if_pos hk, hx]; simp [hc, h1]
      rw [he]
      refine ⟨rfl, hP.swap hl (put_split hl ha) (fun t ht => ?_) (fun i hi => ?_) ?_ (fun h0 => ?_) ?_ ?_⟩
      · dsimp only at ht
        refine .inl ?_
        simp only [List.mem_append, List.mem_cons] at ht ⊢
        rcases ht with ht | ht
        · exact .inl ht
        · exact .inr (.inr ht)
      · rw [cnt_cons x, cnt_there (s := x) (by omega)]; dsimp only; omega
      · rw [cnt_cons x, hz]; dsimp only; omega
      · dsimp only at h0; omega
      · dsimp only [Hp.put]
        rw [one0_ne (by omega), one0_ne (by omega)]; omega
      · exact Acyc.sub (x := c) (by rw [← hl]; exact hP.acyc) fun _ h => h
  · have he : h.step x st = (h, st, 0) := by rw [Hp.step, if_neg hk]
    rw [he]
    exact ⟨rfl, hP.perm (fun t ht => .inl (List.mem_cons_of_mem _ ht)) fun i => by rw [cnt_cons x, cnt_not hk]; dsimp only; omega⟩

theorem RightP.drops : ∀ (n : Nat) {h : Hp} {st R : List Slt}, st.length + tot h.cells ≤ n → RightP h (st ++ R) → (h.drops st).2 = 0 ∧ RightP (h.drops st).1 R
  | _, h, [], R, _, hP => by rw [Hp.drops_nil]; exact ⟨rfl, hP⟩
  | 0, h, x :: st, R, hn, _ => by simp at hn
  | n + 1, h, x :: st, R, hn, hP => by
    obtain ⟨h0, h1⟩ := RightP.step hP
    have hm := Hp.step_msr h0
    rw [Hp.drops_cons, if_pos h0]
    exact RightP.drops n (by simp only [List.length_cons] at hn hm; omega) h1

theorem RightP.drop {h : Hp} {s : Slt} {R : List Slt} (hP : RightP h (s :: R)) : (h.drop s).2 = 0 ∧ RightP (h.drop s).1 R :=
  RightP.drops _ (st := [s]) (Nat.le_refl _) hP

theorem RightP.more {h : Hp} {R : List Slt} (hP : RightP h R) : RightP { h with cells := h.cells ++ [Cll.zero] } R := by
  have hS : allS (h.cells ++ [Cll.zero]) = allS h.cells := by simp [allS, Cll.zero]
  refine ⟨fun c hc s hs => ?_, fun s hs hk => ?_, fun i c hi => ?_, fun c hc h0 => ?_, ?_, ?_⟩
  · dsimp only at hc
    rcases List.mem_append.1 hc with hc | hc
    · intro hk
      have := hP.rngC c hc s hs hk
      simp; omega
    · simp at hc; subst hc; simp [Cll.zero] at hs
  · have := hP.rngR s hs hk
    simp; omega
  · dsimp only at hi ⊢
    rw [hS]
    rw [List.getElem?_append] at hi
    split at hi
    · exact hP.cnt i c hi
    · rename_i hge
      have hc : c = Cll.zero := by
        have := List.mem_of_getElem? hi
        simpa using this
      subst hc
      have hz : ∀ s : Slt, s.kind = 2 → inR h.cells.length s → s.n ≠ (i : Int) := fun s hk hr => by have := hr hk; omega
      have e1 : _root_.Go.Proofs.Ytcakhebnebcpcaa.cnt (allS h.cells) i = 0 := by
        rcases Nat.eq_zero_or_pos (_root_.Go.Proofs.Ytcakhebnebcpcaa.cnt (allS h.cells) i) with h0 | h0
        · exact h0
        · obtain ⟨s, h1, h2, h3⟩ := cnt_mem h0
          obtain ⟨c, h4, h5⟩ := allS_mem.1 h1
          exact absurd h3 (hz s h2 (hP.rngC c h4 s h5))
      have e2 : _root_.Go.Proofs.Ytcakhebnebcpcaa.cnt R i = 0 := by
        rcases Nat.eq_zero_or_pos (_root_.Go.Proofs.Ytcakhebnebcpcaa.cnt R i) with h0 | h0
        · exact h0
        · obtain ⟨s, h1, h2, h3⟩ := cnt_mem h0
          exact absurd h3 (hz s h2 (hP.rngR s h1))
      rw [e1, e2]; rfl
  · dsimp only at hc
    rcases List.mem_append.1 hc with hc | hc
    · exact hP.zero c hc h0
    · simp at hc; subst hc; rfl
  · rw [hP.live]
    have := nz_split h.cells Cll.zero []
    dsimp only
    rw [this]
    simp [nz, Cll.zero, one0]
  · obtain ⟨rk, h1⟩ := hP.acyc
    refine ⟨rk, fun i c hi s hs hk => ?_⟩
    dsimp only at hi
    rw [List.getElem?_append] at hi
    split at hi
    · exact h1 i c hi s hs hk
    · have hc : c = Cll.zero := by
        have := List.mem_of_getElem? hi
        simpa using this
      subst hc
      simp [Cll.zero] at hs

/-- A free cell is filled. -/
theorem RightP.fill {h h' : Hp} {l R : List Slt} (hP : RightP h (l ++ R)) {a b : List Cll} {x : Cll} {t : Int} (hl : h.cells = a ++ x :: b) (hx : x.count = 0) (hc : h'.cells = a ++ ⟨1, t, l⟩ :: b) (hv : h'.live = h.live + 1) : RightP h' (⟨2, a.length⟩ :: R) := by
  have hxs := hP.zero x (by rw [hl]; simp) hx
  have hxc := hP.cnt a.length x (by rw [hl]; simp)
  rw [hx, cnt_append] at hxc
  have no : ∀ s : Slt, (s ∈ allS h.cells ∨ s ∈ l ∨ s ∈ R) → s.kind = 2 → inR h.cells.length s → s.n.toNat ≠ a.length := fun s hs hk hr he => by
    have h0 := hr hk
    have hn : s.n = (a.length : Int) := by omega
    rcases hs with hs | hs | hs <;> (have := cnt_pos hs hk hn; omega)
  refine hP.swap hl hc (fun s hs => ?_) (fun i hi => ?_) ?_ (fun h0 => ?_) ?_ ?_
  · dsimp only at hs
    rcases List.mem_append.1 hs with hs | hs
    · exact .inl (List.mem_append_right _ (List.mem_append_left _ hs))
    · rcases List.mem_cons.1 hs with rfl | hs
      · refine .inr fun _ => ?_
        have : h.cells.length = a.length + b.length + 1 := by rw [hl]; simp; omega
        dsimp only; omega
      · exact .inl (List.mem_append_right _ (List.mem_append_right _ hs))
  · rw [hxs, cnt_nil, cnt_append, cnt_cons _ R, cnt_there (by dsimp only; omega)]
    dsimp only; omega
  · rw [hxs, cnt_nil, cnt_append, cnt_cons _ R, cnt_here rfl rfl]
    dsimp only; omega
  · dsimp only at h0; omega
  · dsimp only
    rw [one0_ne (by omega), one0_zero hx]; omega
  · refine Acyc.new (x := x) (by rw [← hl]; exact hP.acyc) (fun c hc s hs hk => ?_) (fun s hs hk => ?_)
    · have hcm : c ∈ h.cells := by rw [hl]; rcases List.mem_append.1 hc with hc | hc <;> simp [hc]
      exact no s (.inl (allS_mem.2 ⟨c, hcm, hs⟩)) hk (hP.rngC c hcm s hs)
    · exact no s (.inr (.inl hs)) hk (hP.rngR s (List.mem_append_left _ hs))

theorem room_at (l : List Cll) : (room l = l.length ∧ ∀ x ∈ l, x.count ≠ 0) ∨ ∃ a x b, l = a ++ x :: b ∧ a.length = room l ∧ x.count = 0 := by
  induction l with
  | nil => exact .inl ⟨rfl, by simp⟩
  | cons x r ih =>
    unfold room
    split
    · rename_i h
      exact .inr ⟨[], x, r, rfl, rfl, h⟩
    · rename_i h
      rcases ih with ⟨h1, h2⟩ | ⟨a, y, b, h1, h2, h3⟩
      · exact .inl ⟨by simp [h1], fun y hy => by
          rcases List.mem_cons.1 hy with rfl | hy
          · exact h
          · exact h2 y hy⟩
      · exact .inr ⟨x :: a, y, b, by rw [h1]; rfl, by simp [h2], h3⟩

theorem RightP.make {h : Hp} {l R : List Slt} (hP : RightP h (l ++ R)) (t : Int) (hv : h.live < 200) : (h.make t l).2.2 = 0 ∧ RightP (h.make t l).1 ((h.make t l).2.1 :: R) := by
  have hm : h.make t l = (⟨h.cells.take (room h.cells) ++ ⟨1, t, l⟩ :: h.cells.drop (room h.cells + 1), h.made + 1, h.used, h.live + 1, max h.peak (h.live + 1)⟩, ⟨2, room h.cells⟩, 0) := by
    rw [Hp.make, if_neg (by omega)]
  rw [hm]
  refine ⟨rfl, ?_⟩
  dsimp only
  rcases room_at h.cells with ⟨h1, _⟩ | ⟨a, x, b, h1, h2, h3⟩
  · rw [h1]
    refine RightP.fill hP.more (a := h.cells) (x := Cll.zero) (b := []) (t := t) rfl rfl ?_ rfl
    dsimp only
    rw [List.take_length, List.drop_eq_nil_of_le (by omega)]
  · rw [← h2]
    refine RightP.fill hP h1 h3 (t := t) ?_ rfl
    dsimp only
    rw [h1]
    simp

/-- When nobody outside has a cell, nothing is left. -/
theorem RightP.none {h : Hp} (hP : RightP h []) : h.live = 0 := by
  rw [hP.live]
  have : nz h.cells = 0 := by
    obtain ⟨rk, hr⟩ := hP.acyc
    have key : ∀ n i c, h.cells[i]? = some c → c.count ≠ 0 → (∀ j d, h.cells[j]? = some d → rk j ≤ n + rk i) → False := fun n => by
      induction n with
      | zero =>
        intro i c hi hc hmax
        have h1 := hP.cnt i c hi
        rw [cnt_nil] at h1
        obtain ⟨s, h2, h3, h4⟩ := cnt_mem (l := allS h.cells) (i := i) (by omega)
        obtain ⟨d, h5, h6⟩ := allS_mem.1 h2
        obtain ⟨j, hj, he⟩ := List.getElem_of_mem h5
        have hj' : h.cells[j]? = some d := by rw [List.getElem?_eq_getElem hj, he]
        have h7 := hr j d hj' s h6 h3
        have h8 := hmax j d hj'
        rw [h4] at h7
        simp at h7 h8
        omega
      | succ n ih =>
        intro i c hi hc hmax
        have h1 := hP.cnt i c hi
        rw [cnt_nil] at h1
        obtain ⟨s, h2, h3, h4⟩ := cnt_mem (l := allS h.cells) (i := i) (by omega)
        obtain ⟨d, h5, h6⟩ := allS_mem.1 h2
        obtain ⟨j, hj, he⟩ := List.getElem_of_mem h5
        have hj' : h.cells[j]? = some d := by rw [List.getElem?_eq_getElem hj, he]
        have h7 := hr j d hj' s h6 h3
        rw [h4] at h7
        simp at h7
        refine ih j d hj' (fun h0 => ?_) fun k e hk => ?_
        · have := hP.zero d h5 h0
          rw [this] at h6
          cases h6
        · have := hmax k e hk
          omega
    rcases Nat.eq_zero_or_pos (nz h.cells) with h0 | h0
    · exact h0
    · obtain ⟨c, h1, h2⟩ := List.countP_pos_iff.1 h0
      obtain ⟨i, hi, he⟩ := List.getElem_of_mem h1
      have hb : ∃ n, ∀ j d, h.cells[j]? = some d → rk j ≤ n + rk i := by
        refine ⟨((List.range h.cells.length).map rk).sum, fun j d hj => ?_⟩
        have hlt := (List.getElem?_eq_some_iff.1 hj).1
        have : ∀ (l : List Nat) (x : Nat), x ∈ l → x ≤ l.sum := fun l => by
          induction l with
          | nil => simp
          | cons y r ih => intro x hx; rcases List.mem_cons.1 hx with rfl | hx; simp; have := ih x hx; simp; omega
        have := this _ (rk j) (List.mem_map.2 ⟨j, List.mem_range.2 hlt, rfl⟩)
        omega
      obtain ⟨n, hb⟩ := hb
      exact (key n i c (by rw [List.getElem?_eq_getElem hi, he]) (by simpa using h2) hb).elim
  rw [this]; rfl
end Go.Proofs.Ytcakhebnebcpcaa
