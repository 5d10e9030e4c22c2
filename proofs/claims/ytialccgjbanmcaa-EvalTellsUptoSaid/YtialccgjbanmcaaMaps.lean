/- Maps' entries, plainly; what is known in the middle of a round over a map. -/
import Derived.Test.YtialccgjbanmcaaEng3
namespace Go.Proofs.Ytialccgjbanmcaa
open Go.RowKit
set_option linter.unusedVariables false
set_option linter.unusedSimpArgs false

/-- Entries under names, each once. -/
structure EntS (l : List (D × List D)) : Prop where
  form : ∀ p ∈ l, ∃ (s : ByteArray) (r : List D), p = (.str s, r)
  nodup : l.Pairwise fun p q => D.keq p.1 q.1 = false
theorem keq_str (a b : ByteArray) : D.keq (.str a) (.str b) = decide (a = b) := rfl
theorem EntS.nil : EntS [] := ⟨(fun p hp => by cases hp), List.Pairwise.nil⟩
theorem EntS.put {l : List (D × List D)} (h : EntS l) (s : ByteArray) (r : List D) : EntS (D.aput (.str s) r l) := by
  refine ⟨fun p hp => ?_, D.aput_nodup _ _ h.nodup⟩
  rcases List.mem_cons.1 hp with rfl | hp
  · exact ⟨s, r, rfl⟩
  · exact h.form p (List.mem_filter.1 hp).1
theorem EntS.del {l : List (D × List D)} (h : EntS l) (s : ByteArray) : EntS (D.adel (.str s) l) := ⟨fun p hp => h.form p (List.mem_filter.1 hp).1, D.adel_nodup _ h.nodup⟩
theorem EntS.mem {l : List (D × List D)} (h : EntS l) {s : ByteArray} {r : List D} : (D.str s, r) ∈ l ↔ D.aget (.str s) l = some r := by
  constructor
  · intro hm
    obtain ⟨j, hj⟩ := List.mem_iff_getElem?.1 hm
    exact D.aget_some (ks := true) rfl h.nodup hj
  · exact fun hg => D.aget_mem hg
theorem aput_same {s : ByteArray} {r : List D} {l : List (D × List D)} : D.aget (.str s) (D.aput (.str s) r l) = some r := D.aput_get _ (ks := true) rfl _ _
theorem aput_other {s t : ByteArray} (h : ¬ t = s) {r : List D} {l : List (D × List D)} : D.aget (.str s) (D.aput (.str t) r l) = D.aget (.str s) l := D.aput_get_ne (by rw [keq_str]; exact decide_eq_false h) _ _
theorem adel_same {s : ByteArray} : ∀ {l : List (D × List D)}, D.aget (.str s) (D.adel (.str s) l) = none
  | [] => rfl
  | (k, r) :: l => by
    unfold D.adel
    rw [List.filter_cons]
    by_cases h : D.keq k (.str s) = true
    · rw [if_neg (by simp [h])]
      exact adel_same (l := l)
    · rw [if_pos (by simp [h])]
      show (if D.keq k (.str s) = true then some r else _) = none
      rw [if_neg h]
      exact adel_same (l := l)
theorem adel_other {s t : ByteArray} (h : ¬ t = s) {l : List (D × List D)} : D.aget (.str s) (D.adel (.str t) l) = D.aget (.str s) l := D.adel_get_ne (by rw [keq_str]; exact decide_eq_false h) _
theorem EntS.nd {l : List (D × List D)} (h : EntS l) : l.Nodup := by
  refine h.nodup.imp_of_mem fun {a b} ha hb hk e => ?_
  subst e
  obtain ⟨s, r, rfl⟩ := h.form a ha
  rw [keq_str] at hk
  simp at hk
theorem EntS.perm {l l' : List (D × List D)} (h : EntS l) (h' : EntS l') (hg : ∀ s, D.aget (.str s) l = D.aget (.str s) l') : l.Perm l' := by
  refine (List.perm_ext_iff_of_nodup h.nd h'.nd).2 fun p => ⟨fun hp => ?_, fun hp => ?_⟩
  · obtain ⟨s, r, rfl⟩ := h.form p hp
    exact h'.mem.2 (by rw [← hg s]; exact h.mem.1 hp)
  · obtain ⟨s, r, rfl⟩ := h'.form p hp
    exact h.mem.2 (by rw [hg s]; exact h'.mem.1 hp)
theorem EntS.of_perm {l l' : List (D × List D)} (h : EntS l) (hp : l.Perm l') : EntS l' := ⟨fun p hm => h.form p (hp.mem_iff.2 hm), (hp.pairwise_iff fun {a b} hab => by rw [D.keq_symm]; exact hab).1 h.nodup⟩
theorem aget_perm {l l' : List (D × List D)} (h : EntS l) (hp : l.Perm l') (s : ByteArray) : D.aget (.str s) l = D.aget (.str s) l' := by
  cases hg : D.aget (.str s) l' with
  | some r => exact h.mem.1 (hp.mem_iff.2 ((h.of_perm hp).mem.2 hg))
  | none =>
    cases hg2 : D.aget (.str s) l with
    | none => rfl
    | some r =>
      have := (h.of_perm hp).mem.1 (hp.mem_iff.1 (h.mem.2 hg2))
      rw [hg] at this
      cases this

/-! ### In the middle of a round -/
/-- How many births are not seen. -/
def unseen (bents : List (Nat × D × List D)) (seen : List Nat) : Nat := bents.countP fun p => !(seen.contains p.1)
theorem countP_lt {α : Type} {p q : α → Bool} {a : α} : ∀ {l : List α}, (∀ x, q x = true → p x = true) → a ∈ l → p a = true → q a = false → l.countP q < l.countP p
  | x :: l, hi, hm, hp, hq => by
    rw [List.countP_cons, List.countP_cons]
    have hle : l.countP q ≤ l.countP p := List.countP_mono_left fun x _ => hi x
    rcases List.mem_cons.1 hm with rfl | hm
    · rw [hp, hq]; simp; omega
    · have := countP_lt hi hm hp hq
      cases hx : q x with
      | true => rw [hi x hx]; simp; omega
      | false => simp; omega
theorem unseen_lt {bents : List (Nat × D × List D)} {seen : List Nat} {p : Nat × D × List D} (hp : p ∈ bents) (hs : p.1 ∉ seen) : unseen bents (seen ++ [p.1]) < unseen bents seen := by
  refine countP_lt (a := p) (fun x hx => ?_) hp (by simpa using hs) (by simp)
  simp only [List.contains_append, Bool.not_or, Bool.and_eq_true] at hx
  exact hx.1
/-- The entries that were seen stand in the other map; else what stood there. -/
structure Mid (bents : List (Nat × D × List D)) (O0 : List (D × List D)) (seen : List Nat) (O : List (D × List D)) : Prop where
  ents : EntS O
  get : ∀ s r, D.aget (.str s) O = some r ↔ (∃ k, (k, D.str s, r) ∈ bents ∧ k ∈ seen) ∨ ((¬ ∃ k r', (k, D.str s, r') ∈ bents ∧ k ∈ seen) ∧ D.aget (.str s) O0 = some r)
theorem Mid.start {bents : List (Nat × D × List D)} {O0 : List (D × List D)} (h : EntS O0) : Mid bents O0 [] O0 := ⟨h, fun s r => by simp⟩
theorem births_one {bents : List (Nat × D × List D)} {l : List (D × List D)} (hp : (bents.map (·.2)).Perm l) (hl : EntS l) {k k' : Nat} {s : ByteArray} {r r' : List D} (h : (k, D.str s, r) ∈ bents) (h' : (k', D.str s, r') ∈ bents) : r = r' := by
  have e : ∀ {k r}, (k, D.str s, r) ∈ bents → D.aget (.str s) l = some r := fun {k r} hm => hl.mem.1 (hp.mem_iff.1 (List.mem_map.2 ⟨_, hm, rfl⟩))
  have := e h
  rw [e h'] at this
  exact (Option.some.inj this).symm
theorem Mid.step {bents : List (Nat × D × List D)} {l O0 : List (D × List D)} {seen : List Nat} {O : List (D × List D)} (h : Mid bents O0 seen O) (hp : (bents.map (·.2)).Perm l) (hl : EntS l) (hn : (bents.map (·.1)).Nodup) {k : Nat} {t : ByteArray} {row : List D} (hm : (k, D.str t, row) ∈ bents) : Mid bents O0 (seen ++ [k]) (D.aput (.str t) row O) := by
  refine ⟨h.ents.put t row, fun s r => ?_⟩
  by_cases e : t = s
  · subst e
    rw [aput_same]
    constructor
    · rintro ⟨rfl⟩
      exact .inl ⟨k, hm, by simp⟩
    · rintro (⟨k', h1, _⟩ | ⟨h1, _⟩)
      · rw [births_one hp hl hm h1]
      · exact absurd ⟨k, row, hm, by simp⟩ h1
  · rw [aput_other e, h.get s r]
    have hk : ∀ {k' r'}, (k', D.str s, r') ∈ bents → k' ∈ seen ++ [k] → (bents.map (·.1)).Nodup → k' ∈ seen := fun {k' r'} h1 h2 hn => by
      rcases List.mem_append.1 h2 with h2 | h2
      · exact h2
      · exfalso
        rw [List.mem_singleton.1 h2] at h1
        obtain ⟨i, hi⟩ := List.mem_iff_getElem?.1 h1
        obtain ⟨j, hj⟩ := List.mem_iff_getElem?.1 hm
        have e1 : (bents.map (·.1))[i]? = some k := by rw [List.getElem?_map, hi]; rfl
        have e2 : (bents.map (·.1))[j]? = some k := by rw [List.getElem?_map, hj]; rfl
        have hij : i = j := (List.getElem?_inj (List.getElem?_eq_some_iff.1 e1).1 hn).1 (e1.trans e2.symm)
        subst hij
        rw [hi] at hj
        simp only [Option.some.injEq, Prod.mk.injEq, D.str.injEq] at hj
        exact e hj.2.1.symm
    constructor
    · rintro (⟨k', h1, h2⟩ | ⟨h1, h2⟩)
      · exact .inl ⟨k', h1, by simp [h2]⟩
      · exact .inr ⟨fun ⟨k', r', h3, h4⟩ => h1 ⟨k', r', h3, hk h3 h4 hn⟩, h2⟩
    · rintro (⟨k', h1, h2⟩ | ⟨h1, h2⟩)
      · exact .inl ⟨k', h1, hk h1 h2 hn⟩
      · exact .inr ⟨fun ⟨k', r', h3, h4⟩ => h1 ⟨k', r', h3, by simp [h4]⟩, h2⟩
/-- Behind the round. -/
theorem Mid.over {bents : List (Nat × D × List D)} {l O0 : List (D × List D)} {seen : List Nat} {O : List (D × List D)} (h : Mid bents O0 seen O) (hp : (bents.map (·.2)).Perm l) (hl : EntS l) (ha : ∀ p ∈ bents, p.1 ∈ seen) (s : ByteArray) : D.aget (.str s) O = (D.aget (.str s) l).or (D.aget (.str s) O0) := by
  have hb : ∀ r, (∃ k, (k, D.str s, r) ∈ bents ∧ k ∈ seen) ↔ D.aget (.str s) l = some r := fun r => by
    rw [← hl.mem, ← hp.mem_iff, List.mem_map]
    constructor
    · rintro ⟨k, h1, _⟩; exact ⟨_, h1, rfl⟩
    · rintro ⟨⟨k, q⟩, h1, h2⟩
      dsimp only at h2
      subst h2
      exact ⟨k, h1, ha _ h1⟩
  apply Option.ext
  intro r
  rw [h.get s r, hb r]
  cases hg : D.aget (.str s) l with
  | some r' =>
    simp only [Option.some_or]
    constructor
    · rintro (h1 | ⟨h1, _⟩)
      · exact h1
      · exfalso
        obtain ⟨k, h2, h3⟩ := (hb r').2 hg
        exact h1 ⟨k, r', h2, h3⟩
    · exact fun h1 => .inl h1
  | none =>
    simp only [Option.none_or]
    constructor
    · rintro (h1 | ⟨_, h1⟩)
      · cases h1
      · exact h1
    · refine fun h1 => .inr ⟨fun ⟨k, r', h2, h3⟩ => ?_, h1⟩
      have := (hb r').1 ⟨k, h2, h3⟩
      rw [hg] at this
      cases this
end Go.Proofs.Ytialccgjbanmcaa
