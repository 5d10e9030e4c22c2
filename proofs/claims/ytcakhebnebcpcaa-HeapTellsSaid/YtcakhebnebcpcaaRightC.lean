/- The heaps that the acts build: what they are, and that their counts are right. No program. -/
import Derived.Test.YtcakhebnebcpcaaRightB
import Derived.Test.YtcakhebnebcpcaaBuiltA
namespace Go.Proofs.Ytcakhebnebcpcaa
open Go.RowKit

/-- The sizes of a heap that L acts built. -/
structure Sz (L : Nat) (h : Hp) : Prop where
  len : h.cells.length ≤ L
  sl : ∀ c ∈ h.cells, c.slots.length ≤ 3
  tag : ∀ c ∈ h.cells, 0 ≤ c.tag ∧ c.tag ≤ 4
  made : 0 ≤ h.made ∧ h.made ≤ L
  used : h.used = 0
  peak : 0 ≤ h.peak ∧ h.peak ≤ L

theorem Sz.mono {L L' : Nat} {h : Hp} (hS : Sz L h) (hl : L ≤ L') : Sz L' h :=
  ⟨Nat.le_trans hS.len hl, hS.sl, hS.tag, ⟨hS.made.1, by have := hS.made.2; omega⟩, hS.used, ⟨hS.peak.1, by have := hS.peak.2; omega⟩⟩

theorem Sz.put {L : Nat} {h : Hp} (hS : Sz L h) (n : Int) {y : Cll} (h1 : y.slots.length ≤ 3) (h2 : 0 ≤ y.tag ∧ y.tag ≤ 4) (l : Int) : Sz L { h.put n y with live := l } :=
  ⟨by simpa [Hp.put] using hS.len, fun c hc => by rcases Hp.put_mem (h := h) (n := n) (y := y) hc with rfl | hc; exact h1; exact hS.sl c hc, fun c hc => by rcases Hp.put_mem (h := h) (n := n) (y := y) hc with rfl | hc; exact h2; exact hS.tag c hc, hS.made, hS.used, hS.peak⟩

theorem Sz.put0 {L : Nat} {h : Hp} (hS : Sz L h) (n : Int) {y : Cll} (h1 : y.slots.length ≤ 3) (h2 : 0 ≤ y.tag ∧ y.tag ≤ 4) : Sz L (h.put n y) := hS.put n h1 h2 h.live

theorem Sz.zero (L : Nat) : Sz L Hp.zero := ⟨by simp [Hp.zero], by simp [Hp.zero], by simp [Hp.zero], by simp [Hp.zero], rfl, by simp [Hp.zero]⟩

theorem Sz.dup {L : Nat} {h : Hp} (hS : Sz L h) (s : Slt) : Sz L (h.dup s).1 := by
  rcases dup_two h s with ⟨hk, h1⟩ | ⟨a, x, b, hk, ht, hx, hl, ha, hc, h1⟩ | ⟨_, _, h1⟩
  · rw [h1]; exact hS
  · rw [h1]
    have hm : x ∈ h.cells := by rw [hl]; simp
    exact hS.put0 s.n (y := { x with count := x.count + 1 }) (hS.sl x hm) (hS.tag x hm)
  · rw [h1]; exact Sz.zero L

theorem Sz.step {L : Nat} {h : Hp} (hS : Sz L h) (x : Slt) (st : List Slt) : Sz L (h.step x st).1 := by
  unfold Hp.step
  split
  · rcases hx : h.at x.n with _ | c
    · exact hS
    · obtain ⟨_, _, a, b, hl, ha⟩ := Hp.at_some hx
      have hm : c ∈ h.cells := by rw [hl]; simp
      dsimp only
      split
      · split
        · exact hS.put x.n (by simp [Cll.zero]) (by simp [Cll.zero]) _
        · exact hS.put0 x.n (y := { c with count := c.count - 1 }) (hS.sl c hm) (hS.tag c hm)
      · exact hS
  · exact hS

theorem Sz.drops {L : Nat} : ∀ (n : Nat) {h : Hp} {st : List Slt}, st.length + tot h.cells ≤ n → Sz L h → Sz L (h.drops st).1
  | _, h, [], _, hS => by rw [Hp.drops_nil]; exact hS
  | 0, h, x :: st, hn, _ => by simp at hn
  | n + 1, h, x :: st, hn, hS => by
    rw [Hp.drops_cons]
    split
    · rename_i h0
      have hm := Hp.step_msr h0
      exact Sz.drops n (by simp only [List.length_cons] at hn hm; omega) (hS.step x st)
    · exact Sz.zero L

theorem nz_le (l : List Cll) : nz l ≤ l.length := List.countP_le_length

theorem tot_le3 {l : List Cll} (h : ∀ c ∈ l, c.slots.length ≤ 3) : tot l ≤ 3 * l.length := by
  induction l with
  | nil => exact Nat.le_refl _
  | cons x r ih =>
    have h1 := h x (by simp)
    have h2 := ih fun c hc => h c (by simp [hc])
    simp only [tot, List.length_cons]
    omega

theorem Sz.ok {L : Nat} {h : Hp} {R : List Slt} (hS : Sz L h) (hP : RightP h R) (hL : L ≤ 61) (hR : R.length ≤ 70) : h.Ok 500 := by
  have h1 := hS.len
  have h2 := nz_le h.cells
  have h3 := hP.live
  have h4 := hS.made
  have h5 := hS.peak
  have h6 := hS.used
  refine ⟨by omega, fun x hx => by have := hS.sl x hx; omega, fun x hx => ?_, by omega, by omega, by omega, by omega⟩
  obtain ⟨i, hi, he⟩ := List.getElem_of_mem hx
  have h7 := hP.cnt i x (by rw [List.getElem?_eq_getElem hi, he])
  have h8 := cnt_le (allS h.cells) i
  have h9 := cnt_le R i
  have h10 := tot_le3 hS.sl
  rw [allS_len] at h8
  omega

theorem Sz.live {L : Nat} {h : Hp} {R : List Slt} (hS : Sz L h) (hP : RightP h R) : 0 ≤ h.live ∧ h.live ≤ L := by
  have h1 := hS.len
  have h2 := nz_le h.cells
  have h3 := hP.live
  omega

theorem Sz.make {L : Nat} {h : Hp} {R : List Slt} (hS : Sz L h) (hP : RightP h R) {t : Int} {l : List Slt} (ht : 0 ≤ t ∧ t ≤ 4) (hl : l.length ≤ 3) : Sz (L + 1) (h.make t l).1 := by
  have hv := hS.live hP
  unfold Hp.make
  split
  · exact Sz.zero _
  · have hr := room_le h.cells
    have hm := hS.made
    have hp := hS.peak
    refine ⟨?_, fun c hc => ?_, fun c hc => ?_, ⟨by dsimp only; omega, by dsimp only; omega⟩, hS.used, ⟨by dsimp only; omega, by dsimp only; omega⟩⟩
    · have := hS.len
      simp only [List.length_append, List.length_take, List.length_cons, List.length_drop]
      omega
    all_goals
      simp only [List.mem_append, List.mem_cons] at hc
      rcases hc with hc | rfl | hc
    · exact hS.sl c (List.mem_of_mem_take hc)
    · exact hl
    · exact hS.sl c (List.mem_of_mem_drop hc)
    · exact hS.tag c (List.mem_of_mem_take hc)
    · exact ht
    · exact hS.tag c (List.mem_of_mem_drop hc)

/-- The slots that a new cell is given, counted once more. -/
def innerB (h : Hp) (r : List Slt) (n : Nat) : Nat → Hp × List Slt
  | 0 => (h, [])
  | k + 1 => if ((innerB h r n k).1.dup (pickS r (n / 12 + k))).2 = 0 then (((innerB h r n k).1.dup (pickS r (n / 12 + k))).1, (innerB h r n k).2 ++ [pickS r (n / 12 + k)]) else innerB h r n k

def makeB (n : Nat) (p : Hp × List Slt) : Hp × List Slt :=
  if ((innerB p.1 p.2 n (n / 4 % 3)).1.make ((n % 5 : Nat) : Int) ((innerB p.1 p.2 n (n / 4 % 3)).2 ++ [⟨0, n⟩])).2.2 = 0 then
    (((innerB p.1 p.2 n (n / 4 % 3)).1.make ((n % 5 : Nat) : Int) ((innerB p.1 p.2 n (n / 4 % 3)).2 ++ [⟨0, n⟩])).1, p.2 ++ [((innerB p.1 p.2 n (n / 4 % 3)).1.make ((n % 5 : Nat) : Int) ((innerB p.1 p.2 n (n / 4 % 3)).2 ++ [⟨0, n⟩])).2.1])
  else ((innerB p.1 p.2 n (n / 4 % 3)).1, p.2)
def dupB (n : Nat) (p : Hp × List Slt) : Hp × List Slt :=
  if (p.1.dup (pickS p.2 (n / 4))).2 = 0 then ((p.1.dup (pickS p.2 (n / 4))).1, p.2 ++ [pickS p.2 (n / 4)]) else p
def dropB (k : Nat) (x : Slt) (p : Hp × List Slt) : Hp × List Slt :=
  if (p.1.drop x).2 = 0 then ((p.1.drop x).1, p.2.take k ++ p.2.drop (k + 1)) else p
def actB (n : Nat) (p : Hp × List Slt) : Hp × List Slt :=
  if n % 4 = 0 ∨ n % 4 = 1 then makeB n p
  else if n % 4 = 2 then dupB n p
  else match p.2[n / 4 % p.2.length]? with
    | some x => dropB (n / 4 % p.2.length) x p
    | none => p
def stepB (i : Nat) (n : Int) (p : Hp × List Slt) : Hp × List Slt := if n < 0 ∨ 1000 < n ∨ 60 < i then p else actB n.toNat p
/-- The heap, and its roots, after the first acts. -/
def builtN (acts : List Int) : Nat → Hp × List Slt
  | 0 => (Hp.zero, [])
  | i + 1 => stepB i ((acts[i]?).getD 0) (builtN acts i)

structure BInv (L : Nat) (p : Hp × List Slt) : Prop where
  right : RightP p.1 p.2
  sz : Sz L p.1
  roots : p.2.length ≤ L

theorem RightP.zero' : RightP Hp.zero [] :=
  ⟨by simp [Hp.zero], by simp, by simp [Hp.zero], by simp [Hp.zero], rfl, ⟨fun _ => 0, by simp [Hp.zero]⟩⟩

theorem innerB_inv {L : Nat} {h : Hp} {r : List Slt} (n : Nat) (hS : Sz L h) (hP : RightP h r) : ∀ k, Sz L (innerB h r n k).1 ∧ RightP (innerB h r n k).1 ((innerB h r n k).2 ++ r) ∧ (innerB h r n k).2.length ≤ k
  | 0 => ⟨hS, hP, Nat.le_refl _⟩
  | k + 1 => by
    obtain ⟨h1, h2, h3⟩ := innerB_inv n hS hP k
    rw [innerB]
    split
    · rename_i h0
      refine ⟨h1.dup _, (h2.dup _ h0).perm (fun s hs => .inl ?_) (fun i => ?_), by simp; omega⟩
      · simp only [List.mem_append, List.mem_cons, List.not_mem_nil, or_false] at hs ⊢
        rcases hs with (hs | hs) | hs
        · exact .inr (.inl hs)
        · exact .inl hs
        · exact .inr (.inr hs)
      · rw [cnt_cons]
        simp only [cnt_append]
        omega
    · exact ⟨h1, h2, by omega⟩

theorem makeB_inv {L : Nat} {p : Hp × List Slt} (n : Nat) (hI : BInv L p) (hL : L ≤ 60) : BInv (L + 1) (makeB n p) := by
  obtain ⟨h1, h2, h3⟩ := innerB_inv n hI.sz hI.right (n / 4 % 3)
  have hk : n / 4 % 3 < 3 := Nat.mod_lt _ (by omega)
  have hv := h1.live h2
  have h4 : RightP (innerB p.1 p.2 n (n / 4 % 3)).1 (((innerB p.1 p.2 n (n / 4 % 3)).2 ++ [⟨0, n⟩]) ++ p.2) := h2.perm (fun s hs => by
    simp only [List.mem_append, List.mem_cons, List.not_mem_nil, or_false] at hs ⊢
    rcases hs with (hs | rfl) | hs
    · exact .inl (.inl hs)
    · exact .inr (by simp)
    · exact .inl (.inr hs)) fun i => by
      simp only [cnt_append]
      rw [cnt_not (s := ⟨0, n⟩) (by simp)]
      omega
  obtain ⟨h5, h6⟩ := h4.make ((n % 5 : Nat) : Int) (by omega)
  unfold makeB
  rw [if_pos h5]
  refine ⟨h6.perm (fun s hs => .inl ?_) fun i => ?_, h1.make h2 ⟨by omega, by have := Nat.mod_lt n (show 5 > 0 by omega); omega⟩ (by simp; omega), ?_⟩
  · simp only [List.mem_append, List.mem_cons, List.not_mem_nil, or_false] at hs ⊢
    rcases hs with hs | hs
    · exact .inr hs
    · exact .inl hs
  · rw [cnt_cons]
    simp only [cnt_append]
    omega
  · have := hI.roots
    simp; omega

theorem dupB_inv {L : Nat} {p : Hp × List Slt} (n : Nat) (hI : BInv L p) : BInv (L + 1) (dupB n p) := by
  unfold dupB
  split
  · rename_i h0
    refine ⟨(hI.right.dup _ h0).perm (fun s hs => .inl ?_) fun i => ?_, (hI.sz.dup _).mono (by omega), ?_⟩
    · simp only [List.mem_append, List.mem_cons, List.not_mem_nil, or_false] at hs ⊢
      rcases hs with hs | hs
      · exact .inr hs
      · exact .inl hs
    · rw [cnt_cons]
      simp only [cnt_append]
      omega
    · have := hI.roots
      simp; omega
  · exact ⟨hI.right, hI.sz.mono (by omega), by have := hI.roots; omega⟩

theorem dropB_inv {L : Nat} {p : Hp × List Slt} {k : Nat} {x : Slt} (hx : p.2[k]? = some x) (hI : BInv L p) : BInv L (dropB k x p) := by
  obtain ⟨ys, zs, hl, hy⟩ := split_at hx
  have hcut : p.2.take k ++ p.2.drop (k + 1) = ys ++ zs := by rw [hl, ← hy]; simp
  have hP : RightP p.1 (x :: (ys ++ zs)) := hI.right.perm (fun s hs => .inl (by
    rw [hl]
    simp only [List.mem_append, List.mem_cons] at hs ⊢
    rcases hs with hs | hs | hs
    · exact .inr (.inl hs)
    · exact .inl hs
    · exact .inr (.inr hs))) fun i => by
      rw [cnt_cons, hl]
      simp only [cnt_append]
      rw [cnt_cons x zs]
      omega
  obtain ⟨h0, h1⟩ := hP.drop
  unfold dropB
  rw [if_pos h0, hcut]
  refine ⟨h1, Sz.drops _ (Nat.le_refl _) hI.sz, ?_⟩
  have := hI.roots
  rw [hl] at this
  simp at this ⊢
  omega

theorem actB_inv {L : Nat} {p : Hp × List Slt} (n : Nat) (hI : BInv L p) (hL : L ≤ 60) : BInv (L + 1) (actB n p) := by
  have hmono : ∀ q : Hp × List Slt, BInv L q → BInv (L + 1) q := fun q h => ⟨h.right, h.sz.mono (by omega), by have := h.roots; omega⟩
  unfold actB
  split
  · exact makeB_inv n hI hL
  · split
    · exact dupB_inv n hI
    · split
      · rename_i x hx
        exact hmono _ (dropB_inv hx hI)
      · exact hmono _ hI

theorem builtN_inv (acts : List Int) : ∀ i, BInv (min i 61) (builtN acts i)
  | 0 => ⟨RightP.zero', Sz.zero _, by simp [builtN]⟩
  | i + 1 => by
    have hI := builtN_inv acts i
    rw [builtN, stepB]
    split
    · exact ⟨hI.right, hI.sz.mono (by omega), by have := hI.roots; omega⟩
    · rename_i h
      have h1 : min i 61 = i := by omega
      rw [h1] at hI
      have := actB_inv ((acts[i]?).getD 0).toNat hI (by omega)
      have h2 : min (i + 1) 61 = i + 1 := by omega
      rw [h2]
      exact this
end Go.Proofs.Ytcakhebnebcpcaa
