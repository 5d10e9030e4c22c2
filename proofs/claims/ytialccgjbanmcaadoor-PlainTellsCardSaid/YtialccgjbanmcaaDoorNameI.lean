/- Other names, plainly: they fit. -/
import Derived.Test.YtialccgjbanmcaaDoorNameB
namespace Go.Proofs.YtialccgjbanmcaaDoor
open Go.RowKit
set_option linter.unusedVariables false
set_option linter.unusedSimpArgs false

theorem vNm_le (c : Int) : (vNm (wr c)).size ≤ 140737488355328 := by
  have := vsz (wr c) (wr_in c)
  omega
theorem nowP_le : ∀ (ps : Ps) (s : ByteArray), s.size ≤ 140737488355328 → (∀ p ∈ ps, p.2.size ≤ 140737488355328) → (nowP ps s).size ≤ 140737488355328 := by
  intro ps s hs hp
  unfold nowP
  have : ∀ (ps : Ps) (o : ByteArray), o.size ≤ 140737488355328 → (∀ p ∈ ps, p.2.size ≤ 140737488355328) → (ps.foldl (fun o p => if p.1 = s then p.2 else o) o).size ≤ 140737488355328 := by
    intro ps
    induction ps with
    | nil => intro o ho _; exact ho
    | cons p r ih =>
      intro o ho h
      simp only [List.foldl_cons]
      refine ih _ ?_ fun q hq => h q (List.mem_cons_of_mem _ hq)
      split
      · exact h p (List.mem_cons_self ..)
      · exact ho
  exact this ps s hs hp
theorem freshL_le : ∀ (l : List ByteArray) (c : Int), ∀ s ∈ freshL l c, s.size ≤ 140737488355328
  | [], _, s, h => by cases h
  | _ :: r, c, s, h => by
    rw [freshL] at h
    rcases List.mem_cons.1 h with rfl | h
    · exact vNm_le _
    · exact freshL_le r _ s h
theorem rn_ok : ∀ (d : Nat) (t : Tm) (ps : Ps) (c : Int), t.Rt d → t.Ok → (∀ p ∈ ps, p.2.size ≤ 140737488355328) → (t.rn ps c).1.Ok := by
  intro d
  induction d with
  | zero => intro t _ _ h; exact h.elim
  | succ d ih =>
  intro t ps c hR hO hps
  obtain ⟨k, n, a, b, vs, xs, cs⟩ := t
  obtain ⟨_, _, _, hx, hc⟩ := hR
  obtain ⟨⟨o1, o2, o3⟩, ⟨o4, o5, o6⟩, o7, o8⟩ := hO
  rw [Tm.Oks_iff] at o7
  rw [Cs.Oks_iff] at o8
  have hL : ∀ (ys : List Tm) (i : Nat) (nm : ByteArray) (c : Int), (∀ y ∈ ys, y ∈ xs) → nm.size ≤ 140737488355328 → Tm.Oks (Tm.rns k a ps i ys nm c).1 ∧ (Tm.rns k a ps i ys nm c).2.1.size ≤ 140737488355328 ∧ (Tm.rns k a ps i ys nm c).1.length = ys.length := by
    intro ys
    induction ys with
    | nil => intro i nm c _ h; exact ⟨trivial, h, rfl⟩
    | cons y r ih2 =>
      intro i nm c hm hn
      have hy := hm y (List.mem_cons_self ..)
      rw [Tm.rns]
      split
      · have h1 := ih y (ps ++ [(a, vNm (wr (c + 1)))]) (wr (c + 1)) (hx y hy) (o7 y hy) (fun p hp => (List.mem_append.1 hp).elim (hps p) fun hp => by rw [List.mem_singleton.1 hp]; exact vNm_le _)
        obtain ⟨h2, h3, h4⟩ := ih2 (i + 1) (vNm (wr (c + 1))) (y.rn (ps ++ [(a, vNm (wr (c + 1)))]) (wr (c + 1))).2 (fun z hz => hm z (List.mem_cons_of_mem _ hz)) (vNm_le _)
        exact ⟨⟨h1, h2⟩, h3, by simp [h4]⟩
      · have h1 := ih y ps c (hx y hy) (o7 y hy) hps
        obtain ⟨h2, h3, h4⟩ := ih2 (i + 1) nm (y.rn ps c).2 (fun z hz => hm z (List.mem_cons_of_mem _ hz)) hn
        exact ⟨⟨h1, h2⟩, h3, by simp [h4]⟩
  have hC : ∀ (ys : List Cs) (c : Int), (∀ y ∈ ys, y ∈ cs) → Cs.Oks (Cs.rnL ys ps c).1 ∧ (Cs.rnL ys ps c).1.length = ys.length := by
    intro ys
    induction ys with
    | nil => intro c _; exact ⟨trivial, rfl⟩
    | cons y r ih2 =>
      intro c hm
      have hy := hm y (List.mem_cons_self ..)
      obtain ⟨t, ws, y⟩ := y
      obtain ⟨hw, hyR⟩ := hc _ hy
      obtain ⟨p1, p2, p3⟩ := o8 _ hy
      rw [Cs.rnL, Cs.rn]
      have h1 := ih y (ps ++ ws.zip (freshL ws c)) (freshC ws c) hyR p3 (fun p hp => (List.mem_append.1 hp).elim (hps p) fun hp => freshL_le ws c _ (List.of_mem_zip hp).2)
      obtain ⟨h2, h4⟩ := ih2 (y.rn (ps ++ ws.zip (freshL ws c)) (freshC ws c)).2 fun z hz => hm z (List.mem_cons_of_mem _ hz)
      exact ⟨⟨⟨freshL_le ws c, by rw [freshL_len]; exact p2, h1⟩, h2⟩, by simp [h4]⟩
  rw [Tm.rn]
  split
  · exact ⟨⟨nowP_le ps a o1 hps, o2, o3⟩, ⟨o4, by simp, by simp⟩, trivial, trivial⟩
  · obtain ⟨h1, h2, h3⟩ := hL xs 0 a c (fun y hy => hy) o1
    obtain ⟨h4, h5⟩ := hC cs (Tm.rns k a ps 0 xs a c).2.2 fun y hy => hy
    exact ⟨⟨h2, o2, o3⟩, ⟨o4, by rw [h3]; exact o5, by rw [h5]; exact o6⟩, h1, h4⟩
theorem Fn.rn_ok (f : Fn) (hb : f.body.Ok) (hr : f.body.Rt 25) : f.rn.body.Ok :=
  Go.Proofs.YtialccgjbanmcaaDoor.rn_ok 25 f.body _ _ hr hb fun p hp => freshL_le _ _ _ (List.of_mem_zip hp).2
theorem right_all {l : List Fn} (hl : FnsOk l) (h : checkE l = 0) : ∀ f ∈ l, f.body.Ok ∧ f.body.Rt 25 ∧ f.params.length ≤ 6 := fun f hf => by
  have hr := (check_zero h).2.2.2 f hf
  exact ⟨(hl.all f hf).body, wrong_rt _ 25 _ _ 0 (by omega) hr.wrong, hr.params⟩
end Go.Proofs.YtialccgjbanmcaaDoor
