/- A heap whose counts are right: what keeps it so. Plain lists; no program. -/
import Derived.Test.YtcakhebnebcpcaaHeapZ
namespace Go.Proofs.Ytcakhebnebcpcaa
open Go.RowKit

/-- How often a list has the cell i. -/
def cnt (l : List Slt) (i : Nat) : Nat := l.countP fun s => s.kind == 2 && s.n == (i : Int)
theorem cnt_nil (i : Nat) : cnt [] i = 0 := rfl
theorem cnt_append (a b : List Slt) (i : Nat) : cnt (a ++ b) i = cnt a i + cnt b i := by simp [cnt]
theorem cnt_cons (s : Slt) (l : List Slt) (i : Nat) : cnt (s :: l) i = cnt [s] i + cnt l i := by
  rw [← List.singleton_append, cnt_append]
theorem cnt_reverse (l : List Slt) (i : Nat) : cnt l.reverse i = cnt l i := by simp [cnt]
theorem cnt_not {s : Slt} (h : s.kind ≠ 2) (i : Nat) : cnt [s] i = 0 := by simp [cnt, h]
theorem cnt_here {s : Slt} (h : s.kind = 2) {i : Nat} (hi : s.n = (i : Int)) : cnt [s] i = 1 := by simp [cnt, h, hi]
theorem cnt_there {s : Slt} {i : Nat} (hi : s.n ≠ (i : Int)) : cnt [s] i = 0 := by simp [cnt, hi]
theorem cnt_pos {s : Slt} {l : List Slt} (h : s ∈ l) (hk : s.kind = 2) {i : Nat} (hi : s.n = (i : Int)) : 1 ≤ cnt l i := by
  unfold cnt
  exact List.countP_pos_iff.2 ⟨s, h, by simp [hk, hi]⟩
theorem cnt_mem {l : List Slt} {i : Nat} (h : 1 ≤ cnt l i) : ∃ s ∈ l, s.kind = 2 ∧ s.n = (i : Int) := by
  obtain ⟨s, h1, h2⟩ := List.countP_pos_iff.1 h
  simp at h2
  exact ⟨s, h1, h2⟩
theorem cnt_le (l : List Slt) (i : Nat) : cnt l i ≤ l.length := List.countP_le_length

/-- What is in the cells. -/
def allS (l : List Cll) : List Slt := l.flatMap (·.slots)
theorem allS_split (a : List Cll) (x : Cll) (b : List Cll) : allS (a ++ x :: b) = allS a ++ (x.slots ++ allS b) := by simp [allS]
theorem allS_mem {l : List Cll} {s : Slt} : s ∈ allS l ↔ ∃ c ∈ l, s ∈ c.slots := by simp [allS]
theorem allS_len (l : List Cll) : (allS l).length = tot l := by
  induction l with
  | nil => rfl
  | cons x r ih =>
    have := allS_split [] x r
    simp only [List.nil_append] at this
    rw [this]
    simp [allS, tot]
    simpa [allS] using ih

/-- How many cells are not free. -/
def nz (l : List Cll) : Nat := l.countP fun c => c.count != 0
def one0 (n : Int) : Nat := if n = 0 then 0 else 1
theorem one0_zero {n : Int} (h : n = 0) : one0 n = 0 := if_pos h
theorem one0_ne {n : Int} (h : n ≠ 0) : one0 n = 1 := if_neg h
theorem nz_split (a : List Cll) (x : Cll) (b : List Cll) : nz (a ++ x :: b) = nz a + nz b + one0 x.count := by
  unfold nz one0
  rw [List.countP_append, List.countP_cons]
  by_cases h : x.count = 0 <;> simp [h] <;> omega

def inR (n : Nat) (s : Slt) : Prop := s.kind = 2 → 0 ≤ s.n ∧ s.n < n

def Acyc (l : List Cll) : Prop := ∃ rk : Nat → Nat, ∀ i c, l[i]? = some c → ∀ s ∈ c.slots, s.kind = 2 → rk s.n.toNat < rk i

/-- Each cell is counted as often as the cells, and who is outside (R), have it. -/
structure RightP (h : Hp) (R : List Slt) : Prop where
  rngC : ∀ c ∈ h.cells, ∀ s ∈ c.slots, inR h.cells.length s
  rngR : ∀ s ∈ R, inR h.cells.length s
  cnt : ∀ i c, h.cells[i]? = some c → c.count = ((cnt (allS h.cells) i + cnt R i : Nat) : Int)
  zero : ∀ c ∈ h.cells, c.count = 0 → c.slots = []
  live : h.live = nz h.cells
  acyc : Acyc h.cells

theorem get_split {α : Type} (a : List α) (x : α) (b : List α) (i : Nat) : (a ++ x :: b)[i]? = if i = a.length then some x else if i < a.length then a[i]? else b[i - a.length - 1]? := by
  rw [List.getElem?_append]
  split
  · rw [if_neg (by omega)]
  · rename_i h
    by_cases he : i = a.length
    · subst he; simp
    · rw [if_neg he, List.getElem?_cons, if_neg (by omega)]

theorem RightP.perm {h : Hp} {R R' : List Slt} (hP : RightP h R) (h1 : ∀ s ∈ R', s ∈ R ∨ s.kind ≠ 2) (h2 : ∀ i, _root_.Go.Proofs.Ytcakhebnebcpcaa.cnt R' i = _root_.Go.Proofs.Ytcakhebnebcpcaa.cnt R i) : RightP h R' :=
  ⟨hP.rngC, fun s hs => by
    rcases h1 s hs with h1 | h1
    · exact hP.rngR s h1
    · exact fun h => absurd h h1, fun i c hc => by rw [h2]; exact hP.cnt i c hc, hP.zero, hP.live, hP.acyc⟩

/-- One cell is another one, and what is outside changes with it. -/
theorem RightP.swap {h h' : Hp} {R R' : List Slt} (hP : RightP h R) {a b : List Cll} {x y : Cll} (hc : h.cells = a ++ x :: b) (hc' : h'.cells = a ++ y :: b)
    (hr : ∀ s ∈ y.slots ++ R', s ∈ x.slots ++ R ∨ inR h.cells.length s)
    (ho : ∀ i, i ≠ a.length → _root_.Go.Proofs.Ytcakhebnebcpcaa.cnt y.slots i + _root_.Go.Proofs.Ytcakhebnebcpcaa.cnt R' i = _root_.Go.Proofs.Ytcakhebnebcpcaa.cnt x.slots i + _root_.Go.Proofs.Ytcakhebnebcpcaa.cnt R i)
    (hk : y.count + ((_root_.Go.Proofs.Ytcakhebnebcpcaa.cnt x.slots a.length + _root_.Go.Proofs.Ytcakhebnebcpcaa.cnt R a.length : Nat) : Int) = x.count + ((_root_.Go.Proofs.Ytcakhebnebcpcaa.cnt y.slots a.length + _root_.Go.Proofs.Ytcakhebnebcpcaa.cnt R' a.length : Nat) : Int))
    (hz : y.count = 0 → y.slots = []) (hl : h'.live = h.live + one0 y.count - one0 x.count) (hac : Acyc (a ++ y :: b)) : RightP h' R' := by
  have hlen : h'.cells.length = h.cells.length := by rw [hc, hc']; simp
  have hxm : x ∈ h.cells := by rw [hc]; simp
  have hin : ∀ s ∈ y.slots ++ R', inR h.cells.length s := fun s hs => by
    rcases hr s hs with h1 | h1
    · rcases List.mem_append.1 h1 with h1 | h1
      · exact hP.rngC x hxm s h1
      · exact hP.rngR s h1
    · exact h1
  refine ⟨fun c hcm s hs => ?_, fun s hs => ?_, fun i c hi => ?_, fun c hcm h0 => ?_, ?_, by rw [hc']; exact hac⟩
  · rw [hlen]
    rw [hc'] at hcm
    rcases List.mem_append.1 hcm with h1 | h1
    · exact hP.rngC c (by rw [hc]; simp [h1]) s hs
    · rcases List.mem_cons.1 h1 with rfl | h1
      · exact hin s (List.mem_append_left _ hs)
      · exact hP.rngC c (by rw [hc]; simp [h1]) s hs
  · rw [hlen]; exact hin s (List.mem_append_right _ hs)
  · rw [hc', get_split] at hi
    rw [hc', allS_split, cnt_append, cnt_append]
    by_cases he : i = a.length
    · rw [if_pos he] at hi
      cases hi
      have hx := hP.cnt i x (by rw [hc, get_split, if_pos he])
      rw [hc, allS_split, cnt_append, cnt_append] at hx
      subst he
      omega
    · rw [if_neg he] at hi
      have hx := hP.cnt i c (by rw [hc, get_split, if_neg he]; exact hi)
      rw [hc, allS_split, cnt_append, cnt_append] at hx
      have := ho i he
      omega
  · rw [hc'] at hcm
    rcases List.mem_append.1 hcm with h1 | h1
    · exact hP.zero c (by rw [hc]; simp [h1]) h0
    · rcases List.mem_cons.1 h1 with rfl | h1
      · exact hz h0
      · exact hP.zero c (by rw [hc]; simp [h1]) h0
  · rw [hl, hP.live, hc, hc', nz_split, nz_split]
    omega

theorem Acyc.sub {a b : List Cll} {x y : Cll} (h : Acyc (a ++ x :: b)) (hs : ∀ s ∈ y.slots, s ∈ x.slots) : Acyc (a ++ y :: b) := by
  obtain ⟨rk, h⟩ := h
  refine ⟨rk, fun i c hi s hm hk => ?_⟩
  rw [get_split] at hi
  by_cases he : i = a.length
  · rw [if_pos he] at hi
    cases hi
    exact h i x (by rw [get_split, if_pos he]) s (hs s hm) hk
  · rw [if_neg he] at hi
    exact h i c (by rw [get_split, if_neg he]; exact hi) s hm hk

theorem le_sum {l : List Slt} {s : Slt} (f : Slt → Nat) (h : s ∈ l) : f s ≤ (l.map f).sum := by
  induction l with
  | nil => simp at h
  | cons x r ih =>
    rcases List.mem_cons.1 h with rfl | h
    · simp
    · have := ih h; simp; omega

theorem Acyc.new {a b : List Cll} {x y : Cll} (h : Acyc (a ++ x :: b)) (h1 : ∀ c ∈ a ++ b, ∀ s ∈ c.slots, s.kind = 2 → s.n.toNat ≠ a.length) (h2 : ∀ s ∈ y.slots, s.kind = 2 → s.n.toNat ≠ a.length) : Acyc (a ++ y :: b) := by
  obtain ⟨rk, h⟩ := h
  refine ⟨fun i => if i = a.length then 1 + (y.slots.map fun s => rk s.n.toNat).sum else rk i, fun i c hi s hm hk => ?_⟩
  rw [get_split] at hi
  dsimp only
  by_cases he : i = a.length
  · rw [if_pos he] at hi
    cases hi
    rw [if_neg (h2 s hm hk), if_pos he]
    have := le_sum (fun s => rk s.n.toNat) hm
    omega
  · rw [if_neg he] at hi
    have hcm : c ∈ a ++ b := by
      split at hi
      · exact List.mem_append_left _ (List.mem_of_getElem? hi)
      · exact List.mem_append_right _ (List.mem_of_getElem? hi)
    rw [if_neg (h1 c hcm s hm hk), if_neg he]
    exact h i c (by rw [get_split, if_neg he]; exact hi) s hm hk

/-- Whoever is had is there. -/
theorem RightP.has {h : Hp} {R : List Slt} (hP : RightP h R) {s : Slt} (hs : s ∈ R ∨ s ∈ allS h.cells) (hk : s.kind = 2) : ∃ a x b, h.at s.n = some x ∧ h.cells = a ++ x :: b ∧ (a.length : Int) = s.n ∧ 1 ≤ x.count := by
  have hr : inR h.cells.length s := by
    rcases hs with hs | hs
    · exact hP.rngR s hs
    · obtain ⟨c, h1, h2⟩ := allS_mem.1 hs
      exact hP.rngC c h1 s h2
  obtain ⟨h0, h1⟩ := hr hk
  have hi : s.n.toNat < h.cells.length := by omega
  have hx : h.cells[s.n.toNat]? = some h.cells[s.n.toNat] := List.getElem?_eq_getElem hi
  obtain ⟨a, b, h2, h3⟩ := split_at hx
  have hc := hP.cnt _ _ hx
  refine ⟨a, _, b, by rw [Hp.at, if_pos h0]; exact hx, h2, by omega, ?_⟩
  rcases hs with hs | hs
  · have := cnt_pos hs hk (i := s.n.toNat) (by omega)
    omega
  · have := cnt_pos hs hk (i := s.n.toNat) (by omega)
    omega

theorem RightP.nonneg {h : Hp} {R : List Slt} (hP : RightP h R) : ∀ c ∈ h.cells, 0 ≤ c.count := fun c hc => by
  obtain ⟨i, hi, he⟩ := List.getElem_of_mem hc
  have := hP.cnt i c (by rw [List.getElem?_eq_getElem hi, he])
  omega

theorem put_split {h : Hp} {n : Int} {a b : List Cll} {x y : Cll} (hc : h.cells = a ++ x :: b) (hn : (a.length : Int) = n) : (h.put n y).cells = a ++ y :: b := by
  have : n.toNat = a.length := by omega
  simp [Hp.put, hc, this]
end Go.Proofs.Ytcakhebnebcpcaa
