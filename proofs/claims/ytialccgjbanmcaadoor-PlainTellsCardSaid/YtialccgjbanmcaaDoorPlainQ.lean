/- Terms step by step, plainly: they fit; whether a term is so. -/
import Derived.Test.YtialccgjbanmcaaDoorPlainD
namespace Go.Proofs.YtialccgjbanmcaaDoor
open Go.RowKit
set_option linter.unusedVariables false
set_option linter.unusedSimpArgs false

theorem around_ok : ∀ (bs : Bs) (t : Tm), (∀ b ∈ bs, b.1.size ≤ 140737488355328 ∧ b.2.Ok) → t.Ok → (around bs t).Ok
  | [], _, _, h => h
  | b :: r, t, hb, h => by
    have h1 := around_ok r t (fun x hx => hb x (List.mem_cons_of_mem _ hx)) h
    obtain ⟨h2, h3⟩ := hb b (List.mem_cons_self ..)
    exact ⟨⟨h2, by simp, by simp⟩, ⟨by simp, by simp, by simp⟩, ⟨h3, h1, trivial⟩, trivial⟩
theorem varT_ok {s : ByteArray} (h : s.size ≤ 140737488355328) : (varT s).Ok :=
  ⟨⟨h, by simp, by simp⟩, ⟨by simp, by simp, by simp⟩, trivial, trivial⟩
theorem pl_ok : ∀ (d : Nat) (t : Tm) (c : Int), t.Rt d → t.Ok → (t.pl c).1.Ok := by
  intro d
  induction d with
  | zero => intro t _ h; exact h.elim
  | succ d ih =>
  intro t c hR hO
  obtain ⟨k, n, a, b, vs, xs, cs⟩ := t
  obtain ⟨_, _, _, hx, hc⟩ := hR
  obtain ⟨⟨o1, o2, o3⟩, ⟨o4, o5, o6⟩, o7, o8⟩ := hO
  have o7' := Tm.Oks_iff.1 o7
  have o8' := Cs.Oks_iff.1 o8
  have hA : ∀ (ys : List Tm) (c : Int), (∀ y ∈ ys, y ∈ xs) → Tm.Oks (Tm.ats ys c).1 ∧ ∀ b ∈ (Tm.ats ys c).2.1, b.1.size ≤ 140737488355328 ∧ b.2.Ok := by
    intro ys
    induction ys with
    | nil => intro c _; exact ⟨trivial, fun b h => by simp [Tm.ats] at h⟩
    | cons y r ih2 =>
      intro c hm
      have hy := hm y (List.mem_cons_self ..)
      rw [Tm.ats]
      split
      · obtain ⟨h1, h2⟩ := ih2 c fun z hz => hm z (List.mem_cons_of_mem _ hz)
        exact ⟨⟨o7' y hy, h1⟩, h2⟩
      · obtain ⟨h1, h2⟩ := ih2 (y.pl (wr (c + 1))).2 fun z hz => hm z (List.mem_cons_of_mem _ hz)
        refine ⟨⟨varT_ok (wNm_le _), h1⟩, fun b hb => ?_⟩
        rcases List.mem_cons.1 hb with rfl | hb
        · exact ⟨wNm_le _, ih y _ (hx y hy) (o7' y hy)⟩
        · exact h2 b hb
  have hL : ∀ (ys : List Tm) (c : Int), (∀ y ∈ ys, y ∈ xs) → Tm.Oks (Tm.plL ys c).1 ∧ (Tm.plL ys c).1.length = ys.length := by
    intro ys
    induction ys with
    | nil => intro c _; exact ⟨trivial, rfl⟩
    | cons y r ih2 =>
      intro c hm
      have hy := hm y (List.mem_cons_self ..)
      obtain ⟨h1, h2⟩ := ih2 (y.pl c).2 fun z hz => hm z (List.mem_cons_of_mem _ hz)
      rw [Tm.plL]
      exact ⟨⟨ih y c (hx y hy) (o7' y hy), h1⟩, by simp [h2]⟩
  have hC : ∀ (ys : List Cs) (c : Int), (∀ y ∈ ys, y ∈ cs) → Cs.Oks (Cs.plL ys c).1 ∧ (Cs.plL ys c).1.length = ys.length := by
    intro ys
    induction ys with
    | nil => intro c _; exact ⟨trivial, rfl⟩
    | cons y r ih2 =>
      intro c hm
      have hy := hm y (List.mem_cons_self ..)
      obtain ⟨h1, h2⟩ := ih2 (y.pl c).2 fun z hz => hm z (List.mem_cons_of_mem _ hz)
      obtain ⟨t, ws, y⟩ := y
      obtain ⟨_, hyR⟩ := hc _ hy
      obtain ⟨p1, p2, p3⟩ := o8' _ hy
      rw [Cs.plL]
      rw [Cs.pl] at h1 h2 ⊢
      exact ⟨⟨⟨p1, p2, ih y c hyR p3⟩, h1⟩, by simp [h2]⟩
  rw [Tm.pl]
  split
  · obtain ⟨h1, h2⟩ := hA xs c fun y hy => hy
    refine around_ok _ _ h2 ⟨⟨o1, by simp, by simp⟩, ⟨by simp, by rw [ats_len]; exact o5, by simp⟩, h1, trivial⟩
  split
  · obtain ⟨h1, h2⟩ := hL xs c fun y hy => hy
    exact ⟨⟨o1, by simp, by simp⟩, ⟨by simp, by rw [h2]; exact o5, by simp⟩, h1, trivial⟩
  split
  · obtain ⟨h1, h2⟩ := hA xs c fun y hy => hy
    obtain ⟨h3, h4⟩ := hC cs (Tm.ats xs c).2.2 fun y hy => hy
    exact around_ok _ _ h2 ⟨⟨by simp, by simp, by simp⟩, ⟨by simp, by rw [ats_len]; exact o5, by rw [h4]; exact o6⟩, h1, h3⟩
  · exact ⟨⟨o1, o2, o3⟩, ⟨o4, o5, o6⟩, o7, o8⟩
theorem Fn.pl_ok (f : Fn) (hb : f.body.Ok) (hr : f.body.Rt 25) (hp : f.params.length ≤ 6) : f.pl.body.Ok ∧ f.pl.params.length ≤ 6 :=
  ⟨Go.Proofs.YtialccgjbanmcaaDoor.pl_ok 25 _ 0 (f.rn_rt hr) (f.rn_ok hb hr), by unfold Fn.pl Fn.rn; dsimp only; rw [freshL_len]; exact hp⟩

/-! ### Whether a term is so -/
mutual
def Tm.isP : Tm → Bool
  | .mk k _ _ _ _ xs cs => Tm.isL k xs && Cs.isL cs
def Tm.isL (k : Int) : List Tm → Bool
  | [] => true
  | x :: r => (if k = 6 then x.isP else decide (x.tk = 1)) && Tm.isL k r
def Cs.isL : List Cs → Bool
  | [] => true
  | c :: r => c.isP && Cs.isL r
def Cs.isP : Cs → Bool
  | .mk _ _ y => y.isP
end
end Go.Proofs.YtialccgjbanmcaaDoor
