/- What is built of what is wrong is no matter: both ways of telling values agree. -/
import Derived.Test.YtialccgjbanmcaaEvalE
namespace Go.Proofs.Ytialccgjbanmcaa
open Go.RowKit
set_option linter.unusedVariables false
set_option linter.unusedSimpArgs false

def ORel (o o' : Out) : Prop := o.2 = o'.2 ∧ (o.2.2 = 0 → o.1 = o'.1)
def LRel (o o' : OutL) : Prop := o.2 = o'.2 ∧ (o.2.2 = 0 → o.1 = o'.1)
theorem ORel.refl (o : Out) : ORel o o := ⟨rfl, fun _ => rfl⟩
theorem ORel.eq {o o' : Out} (h : ORel o o') (he : o.2.2 = 0) : o = o' := by
  obtain ⟨v, f, e⟩ := o
  obtain ⟨v', f', e'⟩ := o'
  obtain ⟨h1, h2⟩ := h
  cases h1
  rw [show v = v' from h2 he]
theorem LRel.eq {o o' : OutL} (h : LRel o o') (he : o.2.2 = 0) : o = o' := by
  obtain ⟨v, f, e⟩ := o
  obtain ⟨v', f', e'⟩ := o'
  obtain ⟨h1, h2⟩ := h
  cases h1
  rw [show v = v' from h2 he]
theorem ORel.err {o o' : Out} (h : ORel o o') : o'.2.2 = o.2.2 ∧ o'.2.1 = o.2.1 := ⟨(congrArg Prod.snd h.1).symm, (congrArg Prod.fst h.1).symm⟩
theorem evT_g {C C' : CallF} (hC : ∀ a vs f, ORel (C a vs f) (C' a vs f)) : ∀ (N : Nat) (t : Tm) (env : Env) (fuel : Int), t.sz < N → ORel (evT true C t env fuel) (evT false C' t env fuel) := by
  intro N
  induction N with
  | zero => intro t _ _ h; omega
  | succ N ih =>
  intro t env fuel hN
  obtain ⟨k, n, a, b, vs, xs, cs⟩ := t
  have hx : ∀ x ∈ xs, x.sz < N := fun x hj => by have := Tm.sz_arg (k := k) (n := n) (a := a) (b := b) (vs := vs) (cs := cs) hj; omega
  have hL : ∀ (ys : List Tm) (fuel : Int), (∀ y ∈ ys, y.sz < N) → LRel (evL true C ys env fuel) (evL false C' ys env fuel) := by
    intro ys
    induction ys with
    | nil => intro fuel _; rw [evL, evL]; exact ⟨rfl, fun _ => rfl⟩
    | cons y r ih2 =>
      intro fuel hm
      have h1 := ih y env fuel (hm y (List.mem_cons_self ..))
      rw [evL, evL, h1.err.1, h1.err.2]
      by_cases h : (evT true C y env fuel).2.2 = 0
      · have hn : ¬ (evT true C y env fuel).2.2 ≠ 0 := fun e => e h
        simp only [if_neg hn]
        have h2 := ih2 (evT true C y env fuel).2.1 fun z hz => hm z (List.mem_cons_of_mem _ hz)
        refine ⟨h2.1, fun e => ?_⟩
        simp only [consL] at e ⊢
        rw [h2.2 e, h1.2 h]
      · have hn : (evT true C y env fuel).2.2 ≠ 0 := h
        simp only [if_pos hn]
        exact ⟨rfl, fun e => absurd e h⟩
  have hB : ∀ (v : Vl) (ds : List Cs) (f : Int), (∀ d ∈ ds, d ∈ cs) → ORel (evC true C v ds env f) (evC false C' v ds env f) := by
    intro v ds
    induction ds with
    | nil => intro f _; rw [evC, evC]; exact ORel.refl _
    | cons d r ih2 =>
      intro f hm
      obtain ⟨t, ws, y⟩ := d
      have hd := hm _ (List.mem_cons_self ..)
      rw [evC, evC]
      split
      · split
        · rw [evB, evB]
          exact ih y _ f (by have := Tm.sz_case (k := k) (n := n) (a := a) (b := b) (vs := vs) (xs := xs) hd; omega)
        · exact ORel.refl _
      · exact ih2 f fun z hz => hm z (List.mem_cons_of_mem _ hz)
  rw [evT, evT]
  by_cases k1 : k = 1
  · rw [if_pos k1, if_pos k1]; exact ORel.refl _
  rw [if_neg k1, if_neg k1]
  by_cases k2 : k = 2
  · rw [if_pos k2, if_pos k2]; exact ORel.refl _
  rw [if_neg k2, if_neg k2]
  by_cases k6 : k = 6
  · rw [if_pos k6, if_pos k6]
    match xs, hx with
    | [], _ => rw [evLet, evLet]; exact ORel.refl _
    | x :: r, hx =>
      have h1 := ih x env fuel (hx x (List.mem_cons_self ..))
      rw [evLet, evLet, h1.err.1, h1.err.2]
      by_cases h : (evT true C x env fuel).2.2 = 0
      · have hn : ¬ (evT true C x env fuel).2.2 ≠ 0 := fun e => e h
        simp only [if_neg hn]
        rw [← h1.2 h]
        match r, hx with
        | [], _ => rw [evIn, evIn]; exact ORel.refl _
        | y :: r, hx => rw [evIn, evIn]; exact ih y _ _ (hx y (by simp))
      · have hn : (evT true C x env fuel).2.2 ≠ 0 := h
        simp only [if_pos hn]
        exact ORel.refl _
  rw [if_neg k6, if_neg k6]
  have h1 := hL xs fuel hx
  by_cases h : (evL true C xs env fuel).2.2 = 0
  · rw [← h1.eq h]
    unfold afterL
    split
    · rw [if_pos (.inl rfl), if_pos (.inr h)]; exact ORel.refl _
    split
    · exact ORel.refl _
    split
    · exact hC _ _ _
    split
    · exact ORel.refl _
    split
    · exact hB _ cs _ fun d hd => hd
    · exact ORel.refl _
  · have h' : ¬ (evL false C' xs env fuel).2.2 = 0 := by rw [← h1.1]; exact h
    have hn : (evL true C xs env fuel).2.2 ≠ 0 := h
    have hn' : (evL false C' xs env fuel).2.2 ≠ 0 := h'
    unfold afterL
    by_cases k3 : k = 3
    · simp only [if_pos k3]
      exact ⟨by rw [← h1.1], fun e => absurd e h⟩
    · simp only [if_neg k3, if_pos hn, if_pos hn']
      rw [← h1.1]
      exact ORel.refl _
theorem evCall_g (l : List Fn) : ∀ (n : Nat) (a : ByteArray) (vs : List Vl) (f : Int), ORel (evCall true l n a vs f) (evCall false l n a vs f) := by
  intro n
  induction n with
  | zero => intro a vs f; rw [evCall, evCall]; exact ORel.refl _
  | succ n ih =>
    intro a vs f
    rw [evCall, evCall]
    split
    · exact ORel.refl _
    split
    · exact ORel.refl _
    split
    · exact ORel.refl _
    · exact evT_g ih _ _ _ _ (Nat.lt_succ_self _)
theorem runE_g (l : List Fn) (name : ByteArray) (args : List Int) (fuel : Int) : runE true l name args fuel = runE false l name args fuel := by
  have h := evCall_g l 40 name (args.map argV) fuel
  unfold runE
  by_cases he : (evCall true l 40 name (args.map argV) fuel).2.2 = 0
  · rw [← h.eq he]
  · have hn : (evCall true l 40 name (args.map argV) fuel).2.2 ≠ 0 := he
    have hn' : (evCall false l 40 name (args.map argV) fuel).2.2 ≠ 0 := by rw [← h.1]; exact he
    rw [if_pos hn, if_pos hn', ← h.1]
end Go.Proofs.Ytialccgjbanmcaa
