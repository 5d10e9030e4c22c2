import Derived.Test.YtialccgjbanmcaaDoorFuseP
/- Plain functions of right programs are not too great. -/
namespace Go.Proofs.YtialccgjbanmcaaDoor
open Go.RowKit
set_option linter.unusedVariables false
set_option linter.unusedSimpArgs false

theorem rt_mono : ∀ (d : Nat) (t : Tm) (e : Nat), d ≤ e → t.Rt d → t.Rt e := by
  intro d
  induction d with
  | zero => intro t e _ h; exact h.elim
  | succ d ih =>
    intro t e he h
    obtain ⟨e, rfl⟩ : ∃ e', e = e' + 1 := ⟨e - 1, by omega⟩
    obtain ⟨k, n, a, b, vs, xs, cs⟩ := t
    obtain ⟨h1, h2, h3, h4, h5⟩ := h
    exact ⟨h1, h2, h3, fun x hx => ih x e (by omega) (h4 x hx), fun c hc => ⟨(h5 c hc).1, ih _ e (by omega) (h5 c hc).2⟩⟩
theorem around_rt (d : Nat) : ∀ (bs : Bs) (t : Tm), (∀ b ∈ bs, b.2.Rt d) → t.Rt d → (around bs t).Rt (bs.length + d)
  | [], t, _, h => by simpa [around] using h
  | b :: r, t, hb, h => by
    have h1 := around_rt d r t (fun x hx => hb x (List.mem_cons_of_mem _ hx)) h
    rw [around, List.length_cons, show r.length + 1 + d = (r.length + d) + 1 from by omega]
    refine ⟨by omega, rfl, by simp, fun x hx => ?_, by simp⟩
    rcases List.mem_cons.1 hx with rfl | hx
    · exact rt_mono d _ _ (by omega) (hb b (List.mem_cons_self ..))
    · rw [List.mem_singleton.1 hx]; exact h1
theorem varT_rt (s : ByteArray) (d : Nat) : (varT s).Rt (d + 1) := ⟨by omega, rfl, by simp, by simp, by simp⟩
theorem pl_rt : ∀ (d : Nat) (t : Tm) (c : Int), t.Rt d → (t.pl c).1.Rt (7 * d) := by
  intro d
  induction d with
  | zero => intro t _ h; exact h.elim
  | succ d ih =>
  intro t c hR
  obtain ⟨k, n, a, b, vs, xs, cs⟩ := t
  have hR' := hR
  obtain ⟨hk, hmany, h6, hx, hc⟩ := hR'
  have hA : ∀ (ys : List Tm) (c : Int), (∀ y ∈ ys, y ∈ xs) → (∀ x ∈ (Tm.ats ys c).1, x.Rt (7 * d)) ∧ ∀ b ∈ (Tm.ats ys c).2.1, b.2.Rt (7 * d) := by
    intro ys
    induction ys with
    | nil => intro c _; exact ⟨fun x h => by simp [Tm.ats] at h, fun b h => by simp [Tm.ats] at h⟩
    | cons y r ih2 =>
      intro c hm
      have hy := hx y (hm y (List.mem_cons_self ..))
      have hd0 : 0 < d := by
        rcases d with _ | d
        · exact hy.elim
        · omega
      rw [Tm.ats]
      split
      · obtain ⟨h1, h2⟩ := ih2 c fun z hz => hm z (List.mem_cons_of_mem _ hz)
        refine ⟨fun x hx => ?_, h2⟩
        rcases List.mem_cons.1 hx with rfl | hx
        · exact rt_mono d _ _ (by omega) hy
        · exact h1 x hx
      · obtain ⟨h1, h2⟩ := ih2 (y.pl (wr (c + 1))).2 fun z hz => hm z (List.mem_cons_of_mem _ hz)
        refine ⟨fun x hx => ?_, fun b hb => ?_⟩
        · rcases List.mem_cons.1 hx with rfl | hx
          · rw [show 7 * d = (7 * d - 1) + 1 from by omega]
            exact varT_rt _ _
          · exact h1 x hx
        · rcases List.mem_cons.1 hb with rfl | hb
          · exact ih y _ hy
          · exact h2 b hb
  have hL : ∀ (ys : List Tm) (c : Int), (∀ y ∈ ys, y ∈ xs) → (∀ x ∈ (Tm.plL ys c).1, x.Rt (7 * d)) ∧ (Tm.plL ys c).1.length = ys.length := by
    intro ys
    induction ys with
    | nil => intro c _; exact ⟨fun x h => by simp [Tm.plL] at h, rfl⟩
    | cons y r ih2 =>
      intro c hm
      obtain ⟨h1, h2⟩ := ih2 (y.pl c).2 fun z hz => hm z (List.mem_cons_of_mem _ hz)
      rw [Tm.plL]
      refine ⟨fun x hx' => ?_, by simp [h2]⟩
      rcases List.mem_cons.1 hx' with rfl | hx'
      · exact ih y c (hx y (hm y (List.mem_cons_self ..)))
      · exact h1 x hx'
  have hC : ∀ (ys : List Cs) (c : Int), (∀ y ∈ ys, y ∈ cs) → (∀ x ∈ (Cs.plL ys c).1, x.2.length ≤ 6 ∧ x.3.Rt (7 * d)) ∧ (Cs.plL ys c).1.length = ys.length := by
    intro ys
    induction ys with
    | nil => intro c _; exact ⟨fun x h => by simp [Cs.plL] at h, rfl⟩
    | cons y r ih2 =>
      intro c hm
      obtain ⟨h1, h2⟩ := ih2 (y.pl c).2 fun z hz => hm z (List.mem_cons_of_mem _ hz)
      obtain ⟨g1, g2⟩ := hc y (hm y (List.mem_cons_self ..))
      obtain ⟨t, ws, y⟩ := y
      rw [Cs.plL]
      refine ⟨fun x hx' => ?_, by simp [h2]⟩
      rcases List.mem_cons.1 hx' with rfl | hx'
      · rw [Cs.pl]; exact ⟨g1, ih y c g2⟩
      · exact h1 x hx'
  have hbl := ats_blen xs c
  have hvl := ats_len xs c
  obtain ⟨hv, hb⟩ := hA xs c fun _ h => h
  have hxs : xs.length + cs.length ≤ 6 := h6
  rw [Tm.pl]
  split
  · rename_i hk3
    have hcs : cs = [] := by
      unfold manyB at hmany
      rcases hk3 with rfl | rfl | rfl <;> simp at hmany <;> exact hmany.2
    subst hcs
    have hN : (Tm.mk k n a .empty [] (Tm.ats xs c).1 []).Rt (7 * d + 1) := ⟨hk, by rw [hvl]; exact hmany, by rw [hvl]; exact h6, hv, by simp⟩
    exact rt_mono _ _ _ (by omega) (around_rt (7 * d + 1) _ _ (fun b hb' => rt_mono _ _ _ (by omega) (hb b hb')) hN)
  split
  · rename_i hk6
    subst hk6
    have hx2 : xs.length = 2 ∧ cs = [] := by
      unfold manyB at hmany
      simp at hmany
      exact hmany
    obtain ⟨g1, g2⟩ := hL xs c fun _ h => h
    refine rt_mono (7 * d + 1) _ _ (by omega) ⟨hk, ?_, by rw [g2]; simp; omega, g1, by simp⟩
    rw [g2, hx2.1]; rfl
  split
  · rename_i hk7
    subst hk7
    obtain ⟨g1, g2⟩ := hC cs (Tm.ats xs c).2.2 fun _ h => h
    have hN : (Tm.mk 7 0 .empty .empty [] (Tm.ats xs c).1 (Cs.plL cs (Tm.ats xs c).2.2).1).Rt (7 * d + 1) := ⟨hk, by rw [hvl, g2]; exact hmany, by rw [hvl, g2]; exact h6, hv, g1⟩
    have hx1 : xs.length = 1 := by
      unfold manyB at hmany
      simp at hmany
      exact hmany
    exact rt_mono _ _ _ (by omega) (around_rt (7 * d + 1) _ _ (fun b hb' => rt_mono _ _ _ (by omega) (hb b hb')) hN)
  · exact rt_mono (d + 1) _ _ (by omega) hR

def bsz : Bs → Nat
  | [] => 0
  | b :: r => 1 + b.2.sz + bsz r
theorem around_sz : ∀ (bs : Bs) (t : Tm), (around bs t).sz = bsz bs + t.sz
  | [], t => by simp [around, bsz]
  | b :: r, t => by
    have := around_sz r t
    simp only [around, Tm.sz, Tm.szs, Cs.szs, bsz, this]
    omega
mutual
theorem Tm.pl_sz : ∀ (t : Tm) (c : Int), (t.pl c).1.sz + 2 ≤ 3 * t.sz
  | .mk k n a b vs xs cs, c => by
    have hA := Tm.ats_sz xs c
    have hL := Tm.plL_sz xs c
    have hC := Cs.plL_sz cs (Tm.ats xs c).2.2
    rw [Tm.pl]
    split
    · dsimp only; rw [around_sz]; simp only [Tm.sz, Cs.szs]; omega
    split
    · simp only [Tm.sz, Cs.szs]; omega
    split
    · dsimp only; rw [around_sz]; simp only [Tm.sz]; omega
    · simp only [Tm.sz]; omega
theorem Tm.ats_sz : ∀ (l : List Tm) (c : Int), bsz (Tm.ats l c).2.1 + Tm.szs (Tm.ats l c).1 ≤ 3 * Tm.szs l
  | [], c => by simp [Tm.ats, bsz, Tm.szs]
  | x :: r, c => by
    have h1 := Tm.ats_sz r c
    have h2 := Tm.pl_sz x (wr (c + 1))
    have h3 := Tm.ats_sz r (x.pl (wr (c + 1))).2
    have h4 : ∀ s, (varT s).sz = 1 := fun s => by simp [varT, Tm.sz, Tm.szs, Cs.szs]
    rw [Tm.ats]
    split
    · simp only [Tm.szs]; omega
    · simp only [Tm.szs, bsz, h4]; omega
theorem Tm.plL_sz : ∀ (l : List Tm) (c : Int), Tm.szs (Tm.plL l c).1 ≤ 3 * Tm.szs l
  | [], c => by simp [Tm.plL, Tm.szs]
  | x :: r, c => by
    have h1 := Tm.plL_sz r (x.pl c).2
    have h2 := Tm.pl_sz x c
    rw [Tm.plL]
    simp only [Tm.szs]; omega
theorem Cs.plL_sz : ∀ (l : List Cs) (c : Int), Cs.szs (Cs.plL l c).1 ≤ 3 * Cs.szs l
  | [], c => by simp [Cs.plL, Cs.szs]
  | x :: r, c => by
    have h1 := Cs.plL_sz r (x.pl c).2
    have h2 := Cs.pl_sz x c
    rw [Cs.plL]
    simp only [Cs.szs]; omega
theorem Cs.pl_sz : ∀ (d : Cs) (c : Int), (d.pl c).1.sz ≤ 3 * d.sz
  | .mk t ws y, c => by
    have := Tm.pl_sz y c
    rw [Cs.pl]
    simp only [Cs.sz]; omega
end
mutual
theorem Tm.rn_sz : ∀ (t : Tm) (ps : Ps) (c : Int), (t.rn ps c).1.sz ≤ t.sz
  | .mk k n a b vs xs cs, ps, c => by
    have h1 := Tm.rns_sz k a ps 0 xs a c
    have h2 := Cs.rnL_sz cs ps (Tm.rns k a ps 0 xs a c).2.2
    rw [Tm.rn]
    split
    · simp only [Tm.sz, Tm.szs, Cs.szs]; omega
    · simp only [Tm.sz]; omega
theorem Tm.rns_sz (k : Int) (a : ByteArray) (ps : Ps) : ∀ (i : Nat) (l : List Tm) (nm : ByteArray) (c : Int), Tm.szs (Tm.rns k a ps i l nm c).1 ≤ Tm.szs l
  | _, [], _, _ => by simp [Tm.rns, Tm.szs]
  | i, x :: r, nm, c => by
    rw [Tm.rns]
    split
    · have h1 := Tm.rn_sz x (ps ++ [(a, vNm (wr (c + 1)))]) (wr (c + 1))
      have h2 := Tm.rns_sz k a ps (i + 1) r (vNm (wr (c + 1))) (x.rn (ps ++ [(a, vNm (wr (c + 1)))]) (wr (c + 1))).2
      simp only [Tm.szs]; omega
    · have h1 := Tm.rn_sz x ps c
      have h2 := Tm.rns_sz k a ps (i + 1) r nm (x.rn ps c).2
      simp only [Tm.szs]; omega
theorem Cs.rnL_sz : ∀ (l : List Cs) (ps : Ps) (c : Int), Cs.szs (Cs.rnL l ps c).1 ≤ Cs.szs l
  | [], _, _ => by simp [Cs.rnL, Cs.szs]
  | x :: r, ps, c => by
    have h1 := Cs.rn_sz x ps c
    have h2 := Cs.rnL_sz r ps (x.rn ps c).2
    rw [Cs.rnL]
    simp only [Cs.szs]; omega
theorem Cs.rn_sz : ∀ (d : Cs) (ps : Ps) (c : Int), (d.rn ps c).1.sz ≤ d.sz
  | .mk t ws y, ps, c => by
    have := Tm.rn_sz y (ps ++ ws.zip (freshL ws c)) (freshC ws c)
    rw [Cs.rn]
    simp only [Cs.sz]; omega
end
theorem Fn.pl_pt (f : Fn) (hb : f.body.Ok) (hr : f.body.Rt 25) (hp : f.params.length ≤ 6) (hz : f.body.sz ≤ 349525) : f.pl.Pt := by
  obtain ⟨h1, h2⟩ := Fn.pl_ok f hb hr hp
  have h3 : f.rn.body.sz ≤ f.body.sz := Tm.rn_sz f.body _ _
  have h4 : f.pl.body.sz + 2 ≤ 3 * f.rn.body.sz := Tm.pl_sz f.rn.body 0
  refine ⟨Go.Proofs.YtialccgjbanmcaaDoor.pl_rt 25 f.rn.body 0 (f.rn_rt hr), ⟨h1, by omega⟩, h2, fun s hs => freshL_le f.params 0 s ?_⟩
  exact hs
end Go.Proofs.YtialccgjbanmcaaDoor
