import Derived.Test.YtapiiklnnkkdlaaDoorPlainD
import Derived.Test.YtapiiklnnkkdlaaDoorNameB
/- Terms step by step, plainly: they fit; whether a term is so. -/
namespace Go.Proofs.YtapiiklnnkkdlaaDoor
open Go.RowKit
set_option linter.unusedVariables false
set_option linter.unusedSimpArgs false
theorem around_ok : ∀ (bs : Bs) (t : Tm), (∀ b ∈ bs, b.1.size ≤ 140737488355328 ∧ b.2.Ok) → t.Ok → (around bs t).Ok
  | [], _, _, h => h
  | b :: r, t, hb, h => by
    have h1 := around_ok r t (fun x hx => hb x (List.mem_cons_of_mem _ hx)) h
    obtain ⟨h2, h3⟩ := hb b (List.mem_cons_self ..)
    exact ⟨⟨h2, by simp, by simp⟩, ⟨by simp, by simp, by simp⟩, ⟨h3, h1, trivial⟩, trivial⟩
theorem varT_ok {s : ByteArray} (h : s.size ≤ 140737488355328) : (varT s).Ok :=
  ⟨⟨h, by simp, by simp⟩, ⟨by simp, by simp, by simp⟩, trivial, trivial⟩
theorem pl_ok : ∀ (d : Nat) (t : Tm) (c : Int), t.Rt d → t.Ok → (t.pl c).1.Ok := by
  intro d
  induction d with
  | zero => intro t _ h; exact h.elim
  | succ d ih =>
  intro t c hR hO
  obtain ⟨k, n, a, b, vs, xs, cs⟩ := t
  obtain ⟨_, _, _, hx, hc⟩ := hR
  obtain ⟨⟨o1, o2, o3⟩, ⟨o4, o5, o6⟩, o7, o8⟩ := hO
  have o7' := Tm.Oks_iff.1 o7
  have o8' := Cs.Oks_iff.1 o8
  have hA : ∀ (ys : List Tm) (c : Int), (∀ y ∈ ys, y ∈ xs) → Tm.Oks (Tm.ats ys c).1 ∧ ∀ b ∈ (Tm.ats ys c).2.1, b.1.size ≤ 140737488355328 ∧ b.2.Ok := by
    intro ys
    induction ys with
    | nil => intro c _; exact ⟨trivial, fun b h => by simp [Tm.ats] at h⟩
    | cons y r ih2 =>
      intro c hm
      have hy := hm y (List.mem_cons_self ..)
      rw [Tm.ats]
      split
      · obtain ⟨h1, h2⟩ := ih2 c fun z hz => hm z (List.mem_cons_of_mem _ hz)
        exact ⟨⟨o7' y hy, h1⟩, h2⟩
      · obtain ⟨h1, h2⟩ := ih2 (y.pl (wr (c + 1))).2 fun z hz => hm z (List.mem_cons_of_mem _ hz)
        refine ⟨⟨varT_ok (wNm_le _), h1⟩, fun b hb => ?_⟩
        rcases List.mem_cons.1 hb with rfl | hb
        · exact ⟨wNm_le _, ih y _ (hx y hy) (o7' y hy)⟩
        · exact h2 b hb
  have hL : ∀ (ys : List Tm) (c : Int), (∀ y ∈ ys, y ∈ xs) → Tm.Oks (Tm.plL ys c).1 ∧ (Tm.plL ys c).1.length = ys.length := by
    intro ys
    induction ys with
    | nil => intro c _; exact ⟨trivial, rfl⟩
    | cons y r ih2 =>
      intro c hm
      have hy := hm y (List.mem_cons_self ..)
      obtain ⟨h1, h2⟩ := ih2 (y.pl c).2 fun z hz => hm z (List.mem_cons_of_mem _ hz)
      rw [Tm.plL]
      exact ⟨⟨ih y c (hx y hy) (o7' y hy), h1⟩, by simp [h2]⟩
  have hC : ∀ (ys : List Cs) (c : Int), (∀ y ∈ ys, y ∈ cs) → Cs.Oks (Cs.plL ys c).1 ∧ (Cs.plL ys c).1.length = ys.length := by
    intro ys
    induction ys with
    | nil => intro c _; exact ⟨trivial, rfl⟩
    | cons y r ih2 =>
      intro c hm
      have hy := hm y (List.mem_cons_self ..)
      obtain ⟨h1, h2⟩ := ih2 (y.pl c).2 fun z hz => hm z (List.mem_cons_of_mem _ hz)
      obtain ⟨t, ws, y⟩ := y
      obtain ⟨_, hyR⟩ := hc _ hy
      obtain ⟨p1, p2, p3⟩ := o8' _ hy
      rw [Cs.plL]
      rw [Cs.pl] at h1 h2 ⊢
      exact ⟨⟨⟨p1, p2, ih y c hyR p3⟩, h1⟩, by simp [h2]⟩
  rw [Tm.pl]
  split
  · obtain ⟨h1, h2⟩ := hA xs c fun y hy => hy
    refine around_ok _ _ h2 ⟨⟨o1, by simp, by simp⟩, ⟨by simp, by rw [ats_len]; exact o5, by simp⟩, h1, trivial⟩
  split
  · obtain ⟨h1, h2⟩ := hL xs c fun y hy => hy
    exact ⟨⟨o1, by simp, by simp⟩, ⟨by simp, by rw [h2]; exact o5, by simp⟩, h1, trivial⟩
  split
  · obtain ⟨h1, h2⟩ := hA xs c fun y hy => hy
    obtain ⟨h3, h4⟩ := hC cs (Tm.ats xs c).2.2 fun y hy => hy
    exact around_ok _ _ h2 ⟨⟨by simp, by simp, by simp⟩, ⟨by simp, by rw [ats_len]; exact o5, by rw [h4]; exact o6⟩, h1, h3⟩
  · exact ⟨⟨o1, o2, o3⟩, ⟨o4, o5, o6⟩, o7, o8⟩
theorem Fn.pl_ok (f : Fn) (hb : f.body.Ok) (hr : f.body.Rt 25) (hp : f.params.length ≤ 6) : f.pl.body.Ok ∧ f.pl.params.length ≤ 6 :=
  ⟨Go.Proofs.YtapiiklnnkkdlaaDoor.pl_ok 25 _ 0 (f.rn_rt hr) (f.rn_ok hb hr), by unfold Fn.pl Fn.rn; dsimp only; rw [freshL_len]; exact hp⟩

def Tm.xs : Tm → List Tm
  | .mk _ _ _ _ _ xs _ => xs
def Tm.a0 (t : Tm) : Tm := t.xs.headD t
mutual
def Tm.sr : Tm → List ByteArray → List ByteArray × Tm
  | .mk k n a b vs xs cs, rest => if k = 8 ∧ hasB rest a = true then Tm.srL xs (woN rest [a]) (.mk k n a b vs xs cs) else (rest, .mk k n a b vs xs cs)
def Tm.srL : List Tm → List ByteArray → Tm → List ByteArray × Tm
  | [], rest, t => (rest, t)
  | x :: _, rest, _ => x.sr rest
end
def fuOne (k : Int) (na : Nat) (nm : ByteArray) (ws : List ByteArray) (body : Tm) : Tm :=
  if ws.length ≠ 0 ∧ na = 1 ∧ k = 7 ∧ (body.sr ws).2.tk = 9 ∧ (body.sr ws).2.nm = nm then .mk 10 0 nm .empty ws [cnt 9 (body.sr ws).1 (body.sr ws).2.a0] [] else body
mutual
def Tm.fu : Tm → Tm
  | .mk k n a b vs xs cs => .mk k n a b vs (Tm.fuL xs) (Cs.fuL k xs.length (nmH xs) cs)
def Tm.fuL : List Tm → List Tm
  | [] => []
  | x :: r => x.fu :: Tm.fuL r
def Cs.fuL (k : Int) (na : Nat) (nm : ByteArray) : List Cs → List Cs
  | [] => []
  | c :: r => c.fu k na nm :: Cs.fuL k na nm r
def Cs.fu (k : Int) (na : Nat) (nm : ByteArray) : Cs → Cs
  | .mk t ws y => .mk t ws (fuOne k na nm ws y.fu)
end
theorem Tm.fuL_eq : ∀ l : List Tm, Tm.fuL l = l.map Tm.fu
  | [] => rfl
  | x :: r => by rw [Tm.fuL, Tm.fuL_eq r]; rfl
theorem Cs.fuL_eq (k : Int) (na : Nat) (nm : ByteArray) : ∀ l : List Cs, Cs.fuL k na nm l = l.map (Cs.fu k na nm)
  | [] => rfl
  | x :: r => by rw [Cs.fuL, Cs.fuL_eq k na nm r]; rfl
def Fn.fu (f : Fn) : Fn := ⟨f.name, f.params, f.body.fu⟩
mutual
def Tm.Du : Tm → Prop
  | .mk k _ _ _ _ xs cs => (k = 8 ∨ k = 9 → xs ≠ []) ∧ Tm.DuL xs ∧ Cs.DuL cs
def Tm.DuL : List Tm → Prop
  | [] => True
  | x :: r => x.Du ∧ Tm.DuL r
def Cs.DuL : List Cs → Prop
  | [] => True
  | c :: r => c.Du ∧ Cs.DuL r
def Cs.Du : Cs → Prop
  | .mk _ ws y => ws.length ≤ 6 ∧ y.Du
end
theorem Tm.DuL_iff : ∀ {l : List Tm}, Tm.DuL l ↔ ∀ x ∈ l, x.Du
  | [] => by simp [Tm.DuL]
  | x :: r => by simp [Tm.DuL, Tm.DuL_iff (l := r)]
theorem Cs.DuL_iff : ∀ {l : List Cs}, Cs.DuL l ↔ ∀ x ∈ l, x.Du
  | [] => by simp [Cs.DuL]
  | x :: r => by simp [Cs.DuL, Cs.DuL_iff (l := r)]
theorem Tm.Du.a0 {t : Tm} (h : t.Du) : t.a0.Du := by
  obtain ⟨k, n, a, b, vs, xs, cs⟩ := t
  unfold Tm.a0 Tm.xs
  rcases xs with _ | ⟨x, r⟩
  · exact h
  · exact h.2.1.1
theorem Tm.Ok.a0 {t : Tm} (h : t.Ok) : t.a0.Ok := by
  obtain ⟨k, n, a, b, vs, xs, cs⟩ := t
  unfold Tm.a0 Tm.xs
  rcases xs with _ | ⟨x, r⟩
  · exact h
  · exact h.2.2.1.1

theorem rt_mono : ∀ (d : Nat) (t : Tm) (e : Nat), d ≤ e → t.Rt d → t.Rt e := by
  intro d
  induction d with
  | zero => intro t e _ h; exact h.elim
  | succ d ih =>
    intro t e he h
    obtain ⟨e, rfl⟩ : ∃ e', e = e' + 1 := ⟨e - 1, by omega⟩
    obtain ⟨k, n, a, b, vs, xs, cs⟩ := t
    obtain ⟨h1, h2, h3, h4, h5⟩ := h
    exact ⟨h1, h2, h3, fun x hx => ih x e (by omega) (h4 x hx), fun c hc => ⟨(h5 c hc).1, ih _ e (by omega) (h5 c hc).2⟩⟩
theorem around_rt (d : Nat) : ∀ (bs : Bs) (t : Tm), (∀ b ∈ bs, b.2.Rt d) → t.Rt d → (around bs t).Rt (bs.length + d)
  | [], t, _, h => by simpa [around] using h
  | b :: r, t, hb, h => by
    have h1 := around_rt d r t (fun x hx => hb x (List.mem_cons_of_mem _ hx)) h
    rw [around, List.length_cons, show r.length + 1 + d = (r.length + d) + 1 from by omega]
    refine ⟨by omega, rfl, by simp, fun x hx => ?_, by simp⟩
    rcases List.mem_cons.1 hx with rfl | hx
    · exact rt_mono d _ _ (by omega) (hb b (List.mem_cons_self ..))
    · rw [List.mem_singleton.1 hx]; exact h1
theorem varT_rt (s : ByteArray) (d : Nat) : (varT s).Rt (d + 1) := ⟨by omega, rfl, by simp, by simp, by simp⟩
theorem pl_rt : ∀ (d : Nat) (t : Tm) (c : Int), t.Rt d → (t.pl c).1.Rt (7 * d) := by
  intro d
  induction d with
  | zero => intro t _ h; exact h.elim
  | succ d ih =>
  intro t c hR
  obtain ⟨k, n, a, b, vs, xs, cs⟩ := t
  have hR' := hR
  obtain ⟨hk, hmany, h6, hx, hc⟩ := hR'
  have hA : ∀ (ys : List Tm) (c : Int), (∀ y ∈ ys, y ∈ xs) → (∀ x ∈ (Tm.ats ys c).1, x.Rt (7 * d)) ∧ ∀ b ∈ (Tm.ats ys c).2.1, b.2.Rt (7 * d) := by
    intro ys
    induction ys with
    | nil => intro c _; exact ⟨fun x h => by simp [Tm.ats] at h, fun b h => by simp [Tm.ats] at h⟩
    | cons y r ih2 =>
      intro c hm
      have hy := hx y (hm y (List.mem_cons_self ..))
      have hd0 : 0 < d := by
        rcases d with _ | d
        · exact hy.elim
        · omega
      rw [Tm.ats]
      split
      · obtain ⟨h1, h2⟩ := ih2 c fun z hz => hm z (List.mem_cons_of_mem _ hz)
        refine ⟨fun x hx => ?_, h2⟩
        rcases List.mem_cons.1 hx with rfl | hx
        · exact rt_mono d _ _ (by omega) hy
        · exact h1 x hx
      · obtain ⟨h1, h2⟩ := ih2 (y.pl (wr (c + 1))).2 fun z hz => hm z (List.mem_cons_of_mem _ hz)
        refine ⟨fun x hx => ?_, fun b hb => ?_⟩
        · rcases List.mem_cons.1 hx with rfl | hx
          · rw [show 7 * d = (7 * d - 1) + 1 from by omega]
            exact varT_rt _ _
          · exact h1 x hx
        · rcases List.mem_cons.1 hb with rfl | hb
          · exact ih y _ hy
          · exact h2 b hb
  have hL : ∀ (ys : List Tm) (c : Int), (∀ y ∈ ys, y ∈ xs) → (∀ x ∈ (Tm.plL ys c).1, x.Rt (7 * d)) ∧ (Tm.plL ys c).1.length = ys.length := by
    intro ys
    induction ys with
    | nil => intro c _; exact ⟨fun x h => by simp [Tm.plL] at h, rfl⟩
    | cons y r ih2 =>
      intro c hm
      obtain ⟨h1, h2⟩ := ih2 (y.pl c).2 fun z hz => hm z (List.mem_cons_of_mem _ hz)
      rw [Tm.plL]
      refine ⟨fun x hx' => ?_, by simp [h2]⟩
      rcases List.mem_cons.1 hx' with rfl | hx'
      · exact ih y c (hx y (hm y (List.mem_cons_self ..)))
      · exact h1 x hx'
  have hC : ∀ (ys : List Cs) (c : Int), (∀ y ∈ ys, y ∈ cs) → (∀ x ∈ (Cs.plL ys c).1, x.2.length ≤ 6 ∧ x.3.Rt (7 * d)) ∧ (Cs.plL ys c).1.length = ys.length := by
    intro ys
    induction ys with
    | nil => intro c _; exact ⟨fun x h => by simp [Cs.plL] at h, rfl⟩
    | cons y r ih2 =>
      intro c hm
      obtain ⟨h1, h2⟩ := ih2 (y.pl c).2 fun z hz => hm z (List.mem_cons_of_mem _ hz)
      obtain ⟨g1, g2⟩ := hc y (hm y (List.mem_cons_self ..))
      obtain ⟨t, ws, y⟩ := y
      rw [Cs.plL]
      refine ⟨fun x hx' => ?_, by simp [h2]⟩
      rcases List.mem_cons.1 hx' with rfl | hx'
      · rw [Cs.pl]; exact ⟨g1, ih y c g2⟩
      · exact h1 x hx'
  have hbl := ats_blen xs c
  have hvl := ats_len xs c
  obtain ⟨hv, hb⟩ := hA xs c fun _ h => h
  have hxs : xs.length + cs.length ≤ 6 := h6
  rw [Tm.pl]
  split
  · rename_i hk3
    have hcs : cs = [] := by
      unfold manyB at hmany
      rcases hk3 with rfl | rfl | rfl <;> simp at hmany <;> exact hmany.2
    subst hcs
    have hN : (Tm.mk k n a .empty [] (Tm.ats xs c).1 []).Rt (7 * d + 1) := ⟨hk, by rw [hvl]; exact hmany, by rw [hvl]; exact h6, hv, by simp⟩
    exact rt_mono _ _ _ (by omega) (around_rt (7 * d + 1) _ _ (fun b hb' => rt_mono _ _ _ (by omega) (hb b hb')) hN)
  split
  · rename_i hk6
    subst hk6
    have hx2 : xs.length = 2 ∧ cs = [] := by
      unfold manyB at hmany
      simp at hmany
      exact hmany
    obtain ⟨g1, g2⟩ := hL xs c fun _ h => h
    refine rt_mono (7 * d + 1) _ _ (by omega) ⟨hk, ?_, by rw [g2]; simp; omega, g1, by simp⟩
    rw [g2, hx2.1]; rfl
  split
  · rename_i hk7
    subst hk7
    obtain ⟨g1, g2⟩ := hC cs (Tm.ats xs c).2.2 fun _ h => h
    have hN : (Tm.mk 7 0 .empty .empty [] (Tm.ats xs c).1 (Cs.plL cs (Tm.ats xs c).2.2).1).Rt (7 * d + 1) := ⟨hk, by rw [hvl, g2]; exact hmany, by rw [hvl, g2]; exact h6, hv, g1⟩
    have hx1 : xs.length = 1 := by
      unfold manyB at hmany
      simp at hmany
      exact hmany
    exact rt_mono _ _ _ (by omega) (around_rt (7 * d + 1) _ _ (fun b hb' => rt_mono _ _ _ (by omega) (hb b hb')) hN)
  · exact rt_mono (d + 1) _ _ (by omega) hR

def erK (k : Int) : Bool := decide (k = 8 ∨ k = 9 ∨ k = 10 ∨ k = 11 ∨ k = 13)
mutual
def Tm.er : Tm → Tm
  | .mk k n a b vs xs cs => if erK k = true ∧ xs.length = 1 then Tm.erH xs else .mk (if k = 12 then 3 else k) n a (if k = 12 then ⟨#[]⟩ else b) vs (Tm.erL xs) (Cs.erL cs)
def Tm.erH : List Tm → Tm
  | [] => .mk 0 0 .empty .empty [] [] []
  | x :: _ => x.er
def Tm.erL : List Tm → List Tm
  | [] => []
  | x :: r => x.er :: Tm.erL r
def Cs.erL : List Cs → List Cs
  | [] => []
  | c :: r => c.er :: Cs.erL r
def Cs.er : Cs → Cs
  | .mk t ws y => .mk t ws y.er
end
theorem cnt_er {k : Int} (hk : k = 8 ∨ k = 9) : ∀ (l : List ByteArray) (t : Tm), (cnt k l t).er = t.er
  | [], _ => rfl
  | s :: r, t => by
    have h : erK k = true := by unfold erK; exact decide_eq_true (by omega)
    rw [cnt, Tm.er, if_pos ⟨h, rfl⟩, Tm.erH, cnt_er hk r t]
theorem erK_small {k : Int} (h : k ≤ 7) : erK k = false := by unfold erK; exact decide_eq_false (by omega)
theorem er_rt : ∀ (d : Nat) (t : Tm), t.Rt d → t.er = t := by
  intro d
  induction d with
  | zero => intro t h; exact h.elim
  | succ d ih =>
  intro t hR
  obtain ⟨k, n, a, b, vs, xs, cs⟩ := t
  obtain ⟨hk, _, _, hx, hc⟩ := hR
  have hL : ∀ ys : List Tm, (∀ y ∈ ys, y ∈ xs) → Tm.erL ys = ys := by
    intro ys
    induction ys with
    | nil => intro _; rfl
    | cons y r ih2 =>
      intro hm
      rw [Tm.erL, ih y (hx y (hm y (List.mem_cons_self ..))), ih2 fun z hz => hm z (List.mem_cons_of_mem _ hz)]
  have hC : ∀ ys : List Cs, (∀ y ∈ ys, y ∈ cs) → Cs.erL ys = ys := by
    intro ys
    induction ys with
    | nil => intro _; rfl
    | cons y r ih2 =>
      intro hm
      have hy := hc y (hm y (List.mem_cons_self ..))
      obtain ⟨t, ws, y⟩ := y
      rw [Cs.erL, Cs.er, ih y hy.2, ih2 fun z hz => hm z (List.mem_cons_of_mem _ hz)]
  rw [Tm.er, erK_small hk.2, if_neg (by simp), hL xs fun _ h => h, hC cs fun _ h => h, if_neg (by omega), if_neg (by omega)]
mutual
def Tm.PlS : Tm → Prop
  | .mk k n a b vs xs cs => (k = 6 → n = 0 ∧ b = .empty ∧ vs = [] ∧ Tm.PlSs xs) ∧ (k = 7 → n = 0 ∧ a = .empty ∧ b = .empty ∧ vs = [] ∧ Cs.PlSs cs)
def Tm.PlSs : List Tm → Prop
  | [] => True
  | x :: r => x.PlS ∧ Tm.PlSs r
def Cs.PlSs : List Cs → Prop
  | [] => True
  | c :: r => c.PlS ∧ Cs.PlSs r
def Cs.PlS : Cs → Prop
  | .mk _ _ y => y.PlS
end
theorem Tm.PlSs_iff : ∀ {l : List Tm}, Tm.PlSs l ↔ ∀ t ∈ l, t.PlS
  | [] => by simp [Tm.PlSs]
  | t :: r => by simp [Tm.PlSs, Tm.PlSs_iff (l := r)]
theorem Cs.PlSs_iff : ∀ {l : List Cs}, Cs.PlSs l ↔ ∀ t ∈ l, t.PlS
  | [] => by simp [Cs.PlSs]
  | t :: r => by simp [Cs.PlSs, Cs.PlSs_iff (l := r)]
theorem around_pls : ∀ (bs : Bs) (t : Tm), (∀ b ∈ bs, b.2.PlS) → t.PlS → (around bs t).PlS
  | [], _, _, h => h
  | b :: r, t, hb, h => by
    rw [around]
    exact ⟨fun _ => ⟨rfl, rfl, rfl, hb b (List.mem_cons_self ..), around_pls r t (fun x hx => hb x (List.mem_cons_of_mem _ hx)) h, trivial⟩, fun h => by omega⟩
theorem pl_pls : ∀ (d : Nat) (t : Tm) (c : Int), t.Rt d → (t.pl c).1.PlS := by
  intro d
  induction d with
  | zero => intro t _ h; exact h.elim
  | succ d ih =>
  intro t c hR
  obtain ⟨k, n, a, b, vs, xs, cs⟩ := t
  obtain ⟨_, _, _, hx, hc⟩ := hR
  have hA : ∀ (ys : List Tm) (c : Int), (∀ y ∈ ys, y ∈ xs) → ∀ b ∈ (Tm.ats ys c).2.1, b.2.PlS := by
    intro ys
    induction ys with
    | nil => intro c _ b h; simp [Tm.ats] at h
    | cons y r ih2 =>
      intro c hm
      have hy := hm y (List.mem_cons_self ..)
      rw [Tm.ats]
      split
      · exact ih2 c fun z hz => hm z (List.mem_cons_of_mem _ hz)
      · intro b hb
        rcases List.mem_cons.1 hb with rfl | hb
        · exact ih y _ (hx y hy)
        · exact ih2 (y.pl (wr (c + 1))).2 (fun z hz => hm z (List.mem_cons_of_mem _ hz)) b hb
  have hL : ∀ (ys : List Tm) (c : Int), (∀ y ∈ ys, y ∈ xs) → Tm.PlSs (Tm.plL ys c).1 := by
    intro ys
    induction ys with
    | nil => intro c _; exact trivial
    | cons y r ih2 =>
      intro c hm
      rw [Tm.plL]
      exact ⟨ih y c (hx y (hm y (List.mem_cons_self ..))), ih2 (y.pl c).2 fun z hz => hm z (List.mem_cons_of_mem _ hz)⟩
  have hC : ∀ (ys : List Cs) (c : Int), (∀ y ∈ ys, y ∈ cs) → Cs.PlSs (Cs.plL ys c).1 := by
    intro ys
    induction ys with
    | nil => intro c _; exact trivial
    | cons y r ih2 =>
      intro c hm
      have hy := hc y (hm y (List.mem_cons_self ..))
      have h2 := ih2 (y.pl c).2 fun z hz => hm z (List.mem_cons_of_mem _ hz)
      obtain ⟨t, ws, y⟩ := y
      rw [Cs.plL]
      rw [Cs.pl] at h2 ⊢
      exact ⟨ih y c hy.2, h2⟩
  rw [Tm.pl]
  split
  · exact around_pls _ _ (hA xs c fun _ h => h) ⟨fun h => by omega, fun h => by omega⟩
  split
  · exact ⟨fun _ => ⟨rfl, rfl, rfl, hL xs c fun _ h => h⟩, fun h => by omega⟩
  split
  · exact around_pls _ _ (hA xs c fun _ h => h) ⟨fun h => by omega, fun _ => ⟨rfl, rfl, rfl, rfl, hC cs _ fun _ h => h⟩⟩
  · exact ⟨fun h => by omega, fun h => by omega⟩
theorem ow_er : ∀ (d : Nat) (t : Tm) (has : List ByteArray), t.Rt d → t.PlS → (t.ow has).er = t := by
  intro d
  induction d with
  | zero => intro t _ h; exact h.elim
  | succ d ih =>
  intro t has hR hP
  have hself := er_rt _ t hR
  obtain ⟨k, n, a, b, vs, xs, cs⟩ := t
  obtain ⟨hk, hmany, _, hx, hc⟩ := hR
  rw [Tm.ow, cnt_er (.inr rfl)]
  by_cases k3 : k = 3 ∨ k = 4 ∨ k = 5
  · rw [if_pos k3, cnt_er (.inl rfl), hself]
  rw [if_neg k3]
  by_cases k6 : k = 6
  · rw [if_pos k6, cnt_er (.inl rfl)]
    obtain ⟨rfl, rfl, rfl, hxs⟩ := hP.1 k6
    subst k6
    have hx2 : xs.length = 2 ∧ cs = [] := by
      unfold manyB at hmany
      simp at hmany
      exact hmany
    obtain ⟨hx2, rfl⟩ := hx2
    obtain ⟨x, y, rfl⟩ : ∃ x y, xs = [x, y] := by
      rcases xs with _ | ⟨x, _ | ⟨y, _ | ⟨z, l⟩⟩⟩
      · cases hx2
      · cases hx2
      · exact ⟨x, y, rfl⟩
      · simp at hx2
    rw [letH, Tm.owZ, List.headD_cons, List.tail_cons, Tm.owZ, List.headD_cons, List.tail_cons, Tm.owZ]
    rw [Tm.er, erK_small (by omega), if_neg (by simp), Tm.erL, Tm.erL, Tm.erL, Cs.erL, ih x _ (hx x (by simp)) hxs.1, ih y _ (hx y (by simp)) hxs.2.1]
    rfl
  rw [if_neg k6]
  by_cases k7 : k = 7
  · rw [if_pos k7]
    obtain ⟨rfl, rfl, rfl, rfl, hcs⟩ := hP.2 k7
    subst k7
    have hC : ∀ (own : List ByteArray) (nm : ByteArray) (ys : List Cs), (∀ y ∈ ys, y ∈ cs) → Cs.erL (Cs.owL ys own nm) = ys := by
      intro own nm ys
      induction ys with
      | nil => intro _; rfl
      | cons y r ih2 =>
        intro hm
        have hm1 := hm y (List.mem_cons_self ..)
        have hy := hc y hm1
        have hp := Cs.PlSs_iff.1 hcs y hm1
        obtain ⟨t, ws, y⟩ := y
        rw [Cs.owL, Cs.erL, Cs.ow, Cs.er, cnt_er (.inl rfl), cnt_er (.inr rfl), ih y _ hy.2 hp, ih2 fun z hz => hm z (List.mem_cons_of_mem _ hz)]
    have hL : Tm.erL xs = xs := by
      have : ∀ ys : List Tm, (∀ y ∈ ys, y ∈ xs) → Tm.erL ys = ys := by
        intro ys
        induction ys with
        | nil => intro _; rfl
        | cons y r ih2 =>
          intro hm
          rw [Tm.erL, er_rt d y (hx y (hm y (List.mem_cons_self ..))), ih2 fun z hz => hm z (List.mem_cons_of_mem _ hz)]
      exact this xs fun _ h => h
    rw [Tm.er, erK_small (by omega), if_neg (by simp), hL, hC _ _ cs fun _ h => h]
    rfl
  · rw [if_neg k7, hself]
theorem Fn.ow_er (f : Fn) (hr : f.body.Rt 25) : f.pl.ow.body.er = f.pl.body := Go.Proofs.YtapiiklnnkkdlaaDoor.ow_er (7 * 25) f.pl.body f.pl.params (pl_rt 25 _ 0 (f.rn_rt hr)) (pl_pls 25 _ 0 (f.rn_rt hr))
end Go.Proofs.YtapiiklnnkkdlaaDoor

namespace Go.Proofs.YtapiiklnnkkdlaaDoor
open Go.RowKit
attribute [local simp] runD mkRc ldOf stOf stOk ldArg noAny dstOk guardOk opEff opEff0 effOp pureOp callOp zEff evA constAV scalAV Value.oneCell' frGet memGet startAS frOf isGoCall idIn AS.after nextR opnIds objIds AV.ids idsL AObj.ids frNo memNo opnAny isAny mkVal rdCells wrCells fldAddr idxAddr srcRows litRows toD1 toDs setAt sliceAV optI partAV bldAV fillAV binAV binI AV.cells callEff calleeOf frKill memKill AV.kill AObj.kill AV.has AV.hasL Op.operands Call.operands keepF keepM viewIds cChk renOf moGet moWs moQ cEff moLike moHave AV.ren renL AObj.ren AObj.like kept startC moMem AV.frz frz1 frzL frSub memSub frzs AS.frz frFrz memFrz AObj.frz takeMap takeLen bleF Nat.ble_eq memAny objAny mapOp D.keyOk rowAV valRow extOp wrapOp phO
set_option linter.unusedVariables false
set_option linter.unusedSimpArgs false
def ErN (N : Nat) : Prop := ∀ t : Tm, t.sz ≤ N → t.Ok → PSpec Tryd.prog 38 [tmAV t] (fun _ => tmAV t.er) none
@[simp] theorem emp_le : ((⟨#[]⟩ : ByteArray).size ≤ maxLen) = True := eq_true (by show 0 ≤ maxLen; decide)
theorem erK_iff {k : Int} : erK k = true ↔ (k = 8 ∨ k = 9 ∨ k = 10 ∨ k = 11 ∨ k = 13) := by unfold erK; exact decide_eq_true_iff
theorem erL_eq : ∀ l : List Tm, Tm.erL l = l.map Tm.er
  | [] => rfl
  | x :: r => by rw [Tm.erL, erL_eq r]; rfl
theorem cerL_eq : ∀ l : List Cs, Cs.erL l = l.map Cs.er
  | [] => rfl
  | x :: r => by rw [Cs.erL, cerL_eq r]; rfl
set_option maxRecDepth 20000 in
set_option maxHeartbeats 16000000 in
theorem er_step (N : Nat) (ih : ErN N) : ErN (N + 1) := by
  intro t hsz hO
  obtain ⟨R, hR⟩ : ∃ R, R = t.er := ⟨_, rfl⟩
  rw [← hR]
  obtain ⟨tk, tn, ta, tb, tvs, txs, tcs⟩ := t
  obtain ⟨p1, p2, p3, p4, p5⟩ := hO.vars
  have how := cs_Own (.mk tk tn ta tb tvs txs tcs) hO
  dsimp only at how
  obtain ⟨_, ⟨_, o5, o6⟩, o7, o8⟩ := hO
  have hxO := Tm.Oks_iff.1 o7
  have hcO := Cs.Oks_iff.1 o8
  simp only [Tm.sz] at hsz
  rw [Tm.er] at hR
  obtain ⟨rk, rn, ra, rb, rvs, rxs, rcs⟩ := R
  obtain ⟨A, hA⟩ : ∃ A : Int, (txs.length : Int) = A := ⟨_, rfl⟩
  refine PSpec.of Tryd.func38 rfl rfl rfl (Nat.le_of_ble_eq_true rfl) ?_
  show AWp _ _ (endQ _ Tryd.f38 _ _ _) (startAS 66 _)
  refine AWp.rg [] [] ?_ (hr := by conv => lhs; simp [Tm.row, Tm.rows_eq, Cs.rows_eq])
  refine AWp.seqJP1 (¬ (erK tk = true ∧ txs.length = 1)) ⟨66, [(1, .ptr 1 0), (2, .ptr 2 0)], [(1, some (.blk 34 [.d (.int tk), .d (.int tn), .d (.str ta), .d (.str tb), .d (strsD tvs), .d (.sl (txs.map Tm.row)), .d (.sl (tcs.map Cs.row))])), (2, some (.blk 34 [.d (.int 0), .d (.int 0), .d (.str ByteArray.empty), .d (.str ByteArray.empty), .lit (.slice none 0 0), .lit (.slice none 0 0), .lit (.slice none 0 0)]))]⟩ (fun hφ => ?_) (fun W hW => ?_)
  rotate_left
  · refine AWp.rg [] [] ?_ (hr := by conv => lhs; simp [Tm.row, Tm.rows_eq, Cs.rows_eq])
    by_cases q1 : tk = 8
    · have q1t := eq_true q1
      refine AWp.rg [] [] ?_ (hr := by conv => lhs; simp [Tm.row, Tm.rows_eq, Cs.rows_eq, q1t])
      refine AWp.cy ?_
      refine AWp.skip ?_
      refine AWp.cy ?_
      by_cases q2 : A = 1
      · have q2t := eq_true q2
        refine AWp.rg [] [] ?_ (hr := by conv => lhs; simp [Tm.row, Tm.rows_eq, Cs.rows_eq, hA, q1t, q2t])
        refine AWp.cy ?_
        have hl1 : txs.length = 1 := by have := q2; omega
        rw [if_pos ⟨erK_iff.2 (by omega), hl1⟩] at hR
        obtain ⟨y, hy⟩ : ∃ y, txs = [y] := by
          rcases txs with _ | ⟨y0, _ | ⟨y1, r⟩⟩
          · simp at hl1
          · exact ⟨y0, rfl⟩
          · simp at hl1
        have hy0 : txs[0]? = some y := by rw [hy]; rfl
        rw [hy, Tm.erH] at hR
        have hym : y ∈ txs := by rw [hy]; simp
        have hx := ih y (by have := Tm.szs_mem hym; omega) (hxO y hym)
        rw [← hR] at hx
        obtain ⟨yk, yn, ya, yb, yvs, yxs, ycs⟩ := y
        refine AWp.rg [] [.p (fun _ => .agg [.d (.int rk), .d (.int rn), .d (.str ra), .d (.str rb), .d (strsD rvs), .d (.sl (rxs.map Tm.row)), .d (.sl (rcs.map Cs.row))]) none] ?_ (hr := by conv => lhs; simp [Tm.row, Tm.rows_eq, Cs.rows_eq, hy0, q1t, q2t])
        refine AWp.ret ?_
        try dsimp only [thenQ, blockQ]
        apply endQ.ret
        · rfl
        · conv => lhs; simp [resAV, Tryd.results38]
        first | rfl | simp [resVal, tmAV, AV.nilD, nilDL, strsD]
      refine AWp.rg [] [] ?_ (hr := by conv => lhs; simp [Tm.row, Tm.rows_eq, Cs.rows_eq, hA, q1t, q2])
      refine AWp.cn ?_
      refine AWp.skip ?_
      exact hW (fun h => by have h1 := erK_iff.1 h.1; have h2 := h.2; omega) _ (Le.sub (by simp [Tm.row, Tm.rows_eq, Cs.rows_eq]) (by simp))
    refine AWp.rg [] [] ?_ (hr := by conv => lhs; simp [Tm.row, Tm.rows_eq, Cs.rows_eq, q1])
    refine AWp.cn ?_
    by_cases q3 : tk = 9
    · have q3t := eq_true q3
      refine AWp.rg [] [] ?_ (hr := by conv => lhs; simp [Tm.row, Tm.rows_eq, Cs.rows_eq, q1, q3t])
      refine AWp.cy ?_
      refine AWp.skip ?_
      refine AWp.cy ?_
      by_cases q4 : A = 1
      · have q4t := eq_true q4
        refine AWp.rg [] [] ?_ (hr := by conv => lhs; simp [Tm.row, Tm.rows_eq, Cs.rows_eq, hA, q1, q3t, q4t])
        refine AWp.cy ?_
        have hl1 : txs.length = 1 := by have := q4; omega
        rw [if_pos ⟨erK_iff.2 (by omega), hl1⟩] at hR
        obtain ⟨y, hy⟩ : ∃ y, txs = [y] := by
          rcases txs with _ | ⟨y0, _ | ⟨y1, r⟩⟩
          · simp at hl1
          · exact ⟨y0, rfl⟩
          · simp at hl1
        have hy0 : txs[0]? = some y := by rw [hy]; rfl
        rw [hy, Tm.erH] at hR
        have hym : y ∈ txs := by rw [hy]; simp
        have hx := ih y (by have := Tm.szs_mem hym; omega) (hxO y hym)
        rw [← hR] at hx
        obtain ⟨yk, yn, ya, yb, yvs, yxs, ycs⟩ := y
        refine AWp.rg [] [.p (fun _ => .agg [.d (.int rk), .d (.int rn), .d (.str ra), .d (.str rb), .d (strsD rvs), .d (.sl (rxs.map Tm.row)), .d (.sl (rcs.map Cs.row))]) none] ?_ (hr := by conv => lhs; simp [Tm.row, Tm.rows_eq, Cs.rows_eq, hy0, q1, q3t, q4t])
        refine AWp.ret ?_
        try dsimp only [thenQ, blockQ]
        apply endQ.ret
        · rfl
        · conv => lhs; simp [resAV, Tryd.results38]
        first | rfl | simp [resVal, tmAV, AV.nilD, nilDL, strsD]
      refine AWp.rg [] [] ?_ (hr := by conv => lhs; simp [Tm.row, Tm.rows_eq, Cs.rows_eq, hA, q1, q3t, q4])
      refine AWp.cn ?_
      refine AWp.skip ?_
      exact hW (fun h => by have h1 := erK_iff.1 h.1; have h2 := h.2; omega) _ (Le.sub (by simp [Tm.row, Tm.rows_eq, Cs.rows_eq]) (by simp))
    refine AWp.rg [] [] ?_ (hr := by conv => lhs; simp [Tm.row, Tm.rows_eq, Cs.rows_eq, q1, q3])
    refine AWp.cn ?_
    by_cases q5 : tk = 10
    · have q5t := eq_true q5
      refine AWp.rg [] [] ?_ (hr := by conv => lhs; simp [Tm.row, Tm.rows_eq, Cs.rows_eq, q1, q3, q5t])
      refine AWp.cy ?_
      refine AWp.skip ?_
      refine AWp.cy ?_
      by_cases q6 : A = 1
      · have q6t := eq_true q6
        refine AWp.rg [] [] ?_ (hr := by conv => lhs; simp [Tm.row, Tm.rows_eq, Cs.rows_eq, hA, q1, q3, q5t, q6t])
        refine AWp.cy ?_
        have hl1 : txs.length = 1 := by have := q6; omega
        rw [if_pos ⟨erK_iff.2 (by omega), hl1⟩] at hR
        obtain ⟨y, hy⟩ : ∃ y, txs = [y] := by
          rcases txs with _ | ⟨y0, _ | ⟨y1, r⟩⟩
          · simp at hl1
          · exact ⟨y0, rfl⟩
          · simp at hl1
        have hy0 : txs[0]? = some y := by rw [hy]; rfl
        rw [hy, Tm.erH] at hR
        have hym : y ∈ txs := by rw [hy]; simp
        have hx := ih y (by have := Tm.szs_mem hym; omega) (hxO y hym)
        rw [← hR] at hx
        obtain ⟨yk, yn, ya, yb, yvs, yxs, ycs⟩ := y
        refine AWp.rg [] [.p (fun _ => .agg [.d (.int rk), .d (.int rn), .d (.str ra), .d (.str rb), .d (strsD rvs), .d (.sl (rxs.map Tm.row)), .d (.sl (rcs.map Cs.row))]) none] ?_ (hr := by conv => lhs; simp [Tm.row, Tm.rows_eq, Cs.rows_eq, hy0, q1, q3, q5t, q6t])
        refine AWp.ret ?_
        try dsimp only [thenQ, blockQ]
        apply endQ.ret
        · rfl
        · conv => lhs; simp [resAV, Tryd.results38]
        first | rfl | simp [resVal, tmAV, AV.nilD, nilDL, strsD]
      refine AWp.rg [] [] ?_ (hr := by conv => lhs; simp [Tm.row, Tm.rows_eq, Cs.rows_eq, hA, q1, q3, q5t, q6])
      refine AWp.cn ?_
      refine AWp.skip ?_
      exact hW (fun h => by have h1 := erK_iff.1 h.1; have h2 := h.2; omega) _ (Le.sub (by simp [Tm.row, Tm.rows_eq, Cs.rows_eq]) (by simp))
    refine AWp.rg [] [] ?_ (hr := by conv => lhs; simp [Tm.row, Tm.rows_eq, Cs.rows_eq, q1, q3, q5])
    refine AWp.cn ?_
    by_cases q7 : tk = 11
    · have q7t := eq_true q7
      refine AWp.rg [] [] ?_ (hr := by conv => lhs; simp [Tm.row, Tm.rows_eq, Cs.rows_eq, q1, q3, q5, q7t])
      refine AWp.cy ?_
      refine AWp.skip ?_
      refine AWp.cy ?_
      by_cases q8 : A = 1
      · have q8t := eq_true q8
        refine AWp.rg [] [] ?_ (hr := by conv => lhs; simp [Tm.row, Tm.rows_eq, Cs.rows_eq, hA, q1, q3, q5, q7t, q8t])
        refine AWp.cy ?_
        have hl1 : txs.length = 1 := by have := q8; omega
        rw [if_pos ⟨erK_iff.2 (by omega), hl1⟩] at hR
        obtain ⟨y, hy⟩ : ∃ y, txs = [y] := by
          rcases txs with _ | ⟨y0, _ | ⟨y1, r⟩⟩
          · simp at hl1
          · exact ⟨y0, rfl⟩
          · simp at hl1
        have hy0 : txs[0]? = some y := by rw [hy]; rfl
        rw [hy, Tm.erH] at hR
        have hym : y ∈ txs := by rw [hy]; simp
        have hx := ih y (by have := Tm.szs_mem hym; omega) (hxO y hym)
        rw [← hR] at hx
        obtain ⟨yk, yn, ya, yb, yvs, yxs, ycs⟩ := y
        refine AWp.rg [] [.p (fun _ => .agg [.d (.int rk), .d (.int rn), .d (.str ra), .d (.str rb), .d (strsD rvs), .d (.sl (rxs.map Tm.row)), .d (.sl (rcs.map Cs.row))]) none] ?_ (hr := by conv => lhs; simp [Tm.row, Tm.rows_eq, Cs.rows_eq, hy0, q1, q3, q5, q7t, q8t])
        refine AWp.ret ?_
        try dsimp only [thenQ, blockQ]
        apply endQ.ret
        · rfl
        · conv => lhs; simp [resAV, Tryd.results38]
        first | rfl | simp [resVal, tmAV, AV.nilD, nilDL, strsD]
      refine AWp.rg [] [] ?_ (hr := by conv => lhs; simp [Tm.row, Tm.rows_eq, Cs.rows_eq, hA, q1, q3, q5, q7t, q8])
      refine AWp.cn ?_
      refine AWp.skip ?_
      exact hW (fun h => by have h1 := erK_iff.1 h.1; have h2 := h.2; omega) _ (Le.sub (by simp [Tm.row, Tm.rows_eq, Cs.rows_eq]) (by simp))
    refine AWp.rg [] [] ?_ (hr := by conv => lhs; simp [Tm.row, Tm.rows_eq, Cs.rows_eq, q1, q3, q5, q7])
    refine AWp.cn ?_
    by_cases q9 : tk = 13
    · have q9t := eq_true q9
      refine AWp.rg [] [] ?_ (hr := by conv => lhs; simp [Tm.row, Tm.rows_eq, Cs.rows_eq, q1, q3, q5, q7, q9t])
      refine AWp.cy ?_
      by_cases q10 : A = 1
      · have q10t := eq_true q10
        refine AWp.rg [] [] ?_ (hr := by conv => lhs; simp [Tm.row, Tm.rows_eq, Cs.rows_eq, hA, q1, q3, q5, q7, q9t, q10t])
        refine AWp.cy ?_
        have hl1 : txs.length = 1 := by have := q10; omega
        rw [if_pos ⟨erK_iff.2 (by omega), hl1⟩] at hR
        obtain ⟨y, hy⟩ : ∃ y, txs = [y] := by
          rcases txs with _ | ⟨y0, _ | ⟨y1, r⟩⟩
          · simp at hl1
          · exact ⟨y0, rfl⟩
          · simp at hl1
        have hy0 : txs[0]? = some y := by rw [hy]; rfl
        rw [hy, Tm.erH] at hR
        have hym : y ∈ txs := by rw [hy]; simp
        have hx := ih y (by have := Tm.szs_mem hym; omega) (hxO y hym)
        rw [← hR] at hx
        obtain ⟨yk, yn, ya, yb, yvs, yxs, ycs⟩ := y
        refine AWp.rg [] [.p (fun _ => .agg [.d (.int rk), .d (.int rn), .d (.str ra), .d (.str rb), .d (strsD rvs), .d (.sl (rxs.map Tm.row)), .d (.sl (rcs.map Cs.row))]) none] ?_ (hr := by conv => lhs; simp [Tm.row, Tm.rows_eq, Cs.rows_eq, hy0, q1, q3, q5, q7, q9t, q10t])
        refine AWp.ret ?_
        try dsimp only [thenQ, blockQ]
        apply endQ.ret
        · rfl
        · conv => lhs; simp [resAV, Tryd.results38]
        first | rfl | simp [resVal, tmAV, AV.nilD, nilDL, strsD]
      refine AWp.rg [] [] ?_ (hr := by conv => lhs; simp [Tm.row, Tm.rows_eq, Cs.rows_eq, hA, q1, q3, q5, q7, q9t, q10])
      refine AWp.cn ?_
      refine AWp.skip ?_
      exact hW (fun h => by have h1 := erK_iff.1 h.1; have h2 := h.2; omega) _ (Le.sub (by simp [Tm.row, Tm.rows_eq, Cs.rows_eq]) (by simp))
    refine AWp.rg [] [] ?_ (hr := by conv => lhs; simp [Tm.row, Tm.rows_eq, Cs.rows_eq, q1, q3, q5, q7, q9])
    refine AWp.cn ?_
    refine AWp.skip ?_
    exact hW (fun h => by have h1 := erK_iff.1 h.1; have h2 := h.2; omega) _ (Le.sub (by simp [Tm.row, Tm.rows_eq, Cs.rows_eq]) (by simp))
  rw [if_neg hφ] at hR
  refine AWp.rg [] [.n [(500, 400), (501, 401)] [.agg [.d (.int tk), .d (.int tn), .d (.str ta), .d (.str tb), .d (strsD tvs), .d (.sl (txs.map Tm.row)), .d (.sl (tcs.map Cs.row))]] [] (.agg [.d (.int tk), .d (.int tn), .d (.str ta), .d (.str tb), .d (strsD tvs), .arr 500 0 txs.length, .arr 501 0 tcs.length]) [(500, .arr 34 7 (txs.map Tm.row)), (501, .arr 40 9 (tcs.map Cs.row))] [500, 501]] ?_ (hr := by conv => lhs; simp [Tm.row, Tm.rows_eq, Cs.rows_eq])
  by_cases q11 : tk = 12
  · have q11t := eq_true q11
    refine AWp.rg [] [] ?_ (hr := by conv => lhs; simp [Tm.row, Tm.rows_eq, Cs.rows_eq, q11t])
    refine AWp.cy ?_
    refine AWp.rg [] [] ?_ (hr := by conv => lhs; simp [Tm.row, Tm.rows_eq, Cs.rows_eq, q11t])
    rw [if_pos q11, if_pos q11] at hR
    refine AWp.rg [] [] ?_ (hr := by conv => lhs; simp [Tm.row, Tm.rows_eq, Cs.rows_eq, q11t])
    repeat (first | refine AWp.seq ?_ | refine AWp.block ?_)
    refine AWp.loop (σ := fun u : {u : Nat × List Tm × List (List D) // u.1 ≤ txs.length ∧ (u.2.1 = (txs.take u.1).map Tm.er ∧ u.2.1.length = u.1 ∧ u.2.2 = (u.2.1 ++ txs.drop u.1).map Tm.row)} => ⟨66, [(1, .ptr 1 0), (2, .ptr 2 0), (31, .d (.int txs.length)), (32, .d (.int (u.1.1 : Int)))], [(1, some (.blk 34 [.d (.int 3), .d (.int tn), .d (.str ta), .d (.str (⟨#[]⟩)), .d (strsD tvs), .arr 400 0 txs.length, .arr 401 0 tcs.length])), (2, some (.blk 34 [.d (.int 0), .d (.int 0), .d (.str ByteArray.empty), .d (.str ByteArray.empty), .lit (.slice none 0 0), .lit (.slice none 0 0), .lit (.slice none 0 0)])), (400, some (.arr 34 7 u.1.2.2)), (401, some (.arr 40 9 (tcs.map Cs.row)))]⟩)
      (μ := fun u => txs.length - u.1.1) ⟨(0, [], txs.map Tm.row), ⟨Nat.zero_le _, ⟨by simp, rfl, by simp⟩⟩⟩ (Le.sub (by simp) (by simp)) (fun ⟨(i, ys, RS), ⟨hi13, hw⟩⟩ => ?_)
    dsimp only at hi13 hw ⊢
    refine AWp.rg [] [] ?_ (hr := by conv => lhs; simp [Tm.row, Tm.rows_eq, Cs.rows_eq, q11t])
    repeat (first | refine AWp.seq ?_ | refine AWp.block ?_)
    refine AWp.cond rfl (fun hc => ?_) (fun hc => ?_)
    · have hi1 : i < txs.length := by have := of_decide_eq_true hc; omega
      clear hc
      have h1y : txs[i]? = some txs[i] := List.getElem?_eq_getElem hi1
      have hmy : txs[i] ∈ txs := List.getElem_mem hi1
      have hdy : txs.drop i = txs[i] :: txs.drop (i + 1) := List.drop_eq_getElem_cons hi1
      generalize txs[i] = y at h1y hmy hdy
      obtain ⟨hys, hyl, hRS⟩ := hw
      have hx := ih y (by have := Tm.szs_mem hmy; omega) (hxO y hmy)
      have hsn : (txs.take (i + 1)).map Tm.er = ys ++ [y.er] := by rw [List.take_add_one, h1y, List.map_append, ← hys]; rfl
      rw [hdy] at hRS
      generalize y.er = z at hx hsn
      obtain ⟨yk, yn, ya, yb, yvs, yxs, ycs⟩ := y
      obtain ⟨zk, zn, za, zb, zvs, zxs, zcs⟩ := z
      have hRS0 : RS[i]? = some (Tm.row (.mk yk yn ya yb yvs yxs ycs)) := by rw [hRS, List.getElem?_map, List.getElem?_append_right (by omega), hyl, Nat.sub_self]; rfl
      obtain ⟨RS1, hRS1⟩ : ∃ R, R = RS.set i (Tm.row (.mk zk zn za zb zvs zxs zcs)) := ⟨_, rfl⟩
      have hRS2 : RS1 = ((ys ++ [Tm.mk zk zn za zb zvs zxs zcs]) ++ txs.drop (i + 1)).map Tm.row := by
        rw [hRS1, hRS, ← List.map_set, List.set_append_right _ _ (by omega), hyl, Nat.sub_self]
        simp
      have hRSl : RS.length = txs.length := by rw [hRS, List.length_map, List.length_append, List.length_cons, List.length_drop]; omega
      simp only [Tm.row, Tm.rows_eq, Cs.rows_eq] at hRS0 hRS1
      replace hRS1 := hRS1.symm
      refine AWp.skip ?_
      refine AWp.rg [] [] ?_ (hr := by conv => lhs; simp [Tm.row, Tm.rows_eq, Cs.rows_eq, h1y, hRS0, hRS1, q11t])
      refine AWp.dw [] [.p (fun _ => .agg [.d (.int zk), .d (.int zn), .d (.str za), .d (.str zb), .d (strsD zvs), .d (.sl (zxs.map Tm.row)), .d (.sl (zcs.map Cs.row))]) none] mixed ?_ (hr := by conv => lhs; simp [Tm.row, Tm.rows_eq, Cs.rows_eq, h1y, hRS0, hRS1, q11t])
      refine AWp.rg [] [] ?_ (hr := by conv => lhs; simp [Tm.row, Tm.rows_eq, Cs.rows_eq, h1y, hRS0, hRS1, q11t])
      refine ⟨⟨(i + 1, ys ++ [.mk zk zn za zb zvs zxs zcs], RS1), hi1, ⟨by rw [hsn], by simp [hyl], hRS2⟩⟩, by simp; omega, ?_⟩
      dsimp only
      exact Le.sub (by simp) (by simp)
    have hi1 : i = txs.length := by have := of_decide_eq_false hc; omega
    subst hi1
    clear hc
    obtain ⟨hys, hyl, hRS⟩ := hw
    rw [List.drop_length, List.append_nil] at hRS
    rw [List.take_length] at hys
    rw [erL_eq, ← hys] at hR
    clear hys
    subst hRS
    have hT1 : List.take txs.length (ys.map Tm.row) = ys.map Tm.row := List.take_of_length_le (by simp [hyl])
    refine AWp.exit ?_
    refine AWp.rg [] [] ?_ (hr := by conv => lhs; simp [Tm.row, Tm.rows_eq, Cs.rows_eq, q11t])
    repeat (first | refine AWp.seq ?_ | refine AWp.block ?_)
    refine AWp.loop (σ := fun u : {u : Nat × List Cs × List (List D) // u.1 ≤ tcs.length ∧ (u.2.1 = (tcs.take u.1).map Cs.er ∧ u.2.1.length = u.1 ∧ u.2.2 = (u.2.1 ++ tcs.drop u.1).map Cs.row)} => ⟨66, [(1, .ptr 1 0), (2, .ptr 2 0), (48, .d (.int tcs.length)), (49, .d (.int (u.1.1 : Int)))], [(1, some (.blk 34 [.d (.int 3), .d (.int tn), .d (.str ta), .d (.str (⟨#[]⟩)), .d (strsD tvs), .arr 400 0 txs.length, .arr 401 0 tcs.length])), (2, some (.blk 34 [.d (.int 0), .d (.int 0), .d (.str ByteArray.empty), .d (.str ByteArray.empty), .lit (.slice none 0 0), .lit (.slice none 0 0), .lit (.slice none 0 0)])), (400, some (.arr 34 7 (ys.map Tm.row))), (401, some (.arr 40 9 u.1.2.2))]⟩)
      (μ := fun u => tcs.length - u.1.1) ⟨(0, [], tcs.map Cs.row), ⟨Nat.zero_le _, ⟨by simp, rfl, by simp⟩⟩⟩ (Le.sub (by simp) (by simp)) (fun ⟨(i, ds, RS), ⟨hi18, hw2⟩⟩ => ?_)
    dsimp only at hi18 hw2 ⊢
    refine AWp.rg [] [] ?_ (hr := by conv => lhs; simp [Tm.row, Tm.rows_eq, Cs.rows_eq, q11t])
    repeat (first | refine AWp.seq ?_ | refine AWp.block ?_)
    refine AWp.cond rfl (fun hc => ?_) (fun hc => ?_)
    · have hi1 : i < tcs.length := by have := of_decide_eq_true hc; omega
      clear hc
      have h1d : tcs[i]? = some tcs[i] := List.getElem?_eq_getElem hi1
      have hmd : tcs[i] ∈ tcs := List.getElem_mem hi1
      have hdd : tcs.drop i = tcs[i] :: tcs.drop (i + 1) := List.drop_eq_getElem_cons hi1
      generalize tcs[i] = d at h1d hmd hdd
      obtain ⟨hds, hdl, hRS⟩ := hw2
      have hdO := hcO d hmd
      have hsz := Cs.szs_mem hmd
      rw [hdd] at hRS
      have hsn : (tcs.take (i + 1)).map Cs.er = ds ++ [d.er] := by rw [List.take_add_one, h1d, List.map_append, ← hds]; rfl
      obtain ⟨dt, dws, y⟩ := d
      have hx := ih y (by simp only [Cs.sz] at hsz; omega) hdO.2.2
      rw [Cs.er] at hsn
      generalize y.er = z at hx hsn
      obtain ⟨yk, yn, ya, yb, yvs, yxs, ycs⟩ := y
      obtain ⟨zk, zn, za, zb, zvs, zxs, zcs⟩ := z
      have hRSl : RS.length = tcs.length := by rw [hRS, List.length_map, List.length_append, List.length_cons, List.length_drop]; omega
      have hR0 : RS[i]? = some [.int dt, strsD dws, .int yk, .int yn, .str ya, .str yb, strsD yvs, .sl (yxs.map Tm.row), .sl (ycs.map Cs.row)] := by rw [hRS, List.getElem?_map, List.getElem?_append_right (by omega), hdl, Nat.sub_self]; simp [Cs.row, Tm.row, Tm.rows_eq, Cs.rows_eq]
      obtain ⟨R1, hR1⟩ : ∃ R1, RS.set i [.int dt, strsD dws, .int zk, .int zn, .str za, .str zb, strsD zvs, .sl (zxs.map Tm.row), .sl (zcs.map Cs.row)] = R1 := ⟨_, rfl⟩
      have hRS2 : RS.set i [.int dt, strsD dws, .int zk, .int zn, .str za, .str zb, strsD zvs, .sl (zxs.map Tm.row), .sl (zcs.map Cs.row)] = ((ds ++ [Cs.mk dt dws (.mk zk zn za zb zvs zxs zcs)]) ++ tcs.drop (i + 1)).map Cs.row := by
        rw [show ([.int dt, strsD dws, .int zk, .int zn, .str za, .str zb, strsD zvs, .sl (zxs.map Tm.row), .sl (zcs.map Cs.row)] : List D) = Cs.row (Cs.mk dt dws (.mk zk zn za zb zvs zxs zcs)) from by simp [Cs.row, Tm.row, Tm.rows_eq, Cs.rows_eq], hRS, ← List.map_set, List.set_append_right _ _ (by omega), hdl, Nat.sub_self]
        simp
      refine AWp.skip ?_
      refine AWp.rg [] [] ?_ (hr := by conv => lhs; simp [Tm.row, Tm.rows_eq, Cs.rows_eq, h1d, Cs.row, hR0, hR1, q11t])
      refine AWp.dw [] [.p (fun _ => .agg [.d (.int zk), .d (.int zn), .d (.str za), .d (.str zb), .d (strsD zvs), .d (.sl (zxs.map Tm.row)), .d (.sl (zcs.map Cs.row))]) none] mixed ?_ (hr := by conv => lhs; simp [Tm.row, Tm.rows_eq, Cs.rows_eq, h1d, Cs.row, hR0, hR1, q11t])
      refine AWp.rg [] [] ?_ (hr := by conv => lhs; simp [Tm.row, Tm.rows_eq, Cs.rows_eq, h1d, Cs.row, hR0, hR1, q11t])
      refine ⟨⟨(i + 1, ds ++ [.mk dt dws (.mk zk zn za zb zvs zxs zcs)], R1), hi1, ⟨hsn.symm, by simp [hdl], by rw [← hR1]; exact hRS2⟩⟩, by simp; omega, ?_⟩
      dsimp only
      exact Le.sub (by simp) (by simp)
    have hi1 : i = tcs.length := by have := of_decide_eq_false hc; omega
    subst hi1
    clear hc
    obtain ⟨hds, hdl, hRS⟩ := hw2
    rw [List.drop_length, List.append_nil] at hRS
    rw [List.take_length] at hds
    rw [cerL_eq, ← hds] at hR
    replace hR := hR.symm
    injection hR with e1 e2 e3 e4 e5 e6 e7
    subst e1 e2 e3 e4 e5 e6 e7
    subst hRS
    have hT2 : List.take tcs.length (ds.map Cs.row) = ds.map Cs.row := List.take_of_length_le (by simp [hdl])
    refine AWp.exit ?_
    refine AWp.rg [] [] ?_ (hr := by conv => lhs; simp [Tm.row, Tm.rows_eq, Cs.rows_eq, q11t])
    refine AWp.ret ?_
    try dsimp only [thenQ, blockQ]
    apply endQ.retF [400, 401]
    · rfl
    · conv => lhs; simp
    · conv => lhs; simp [resAV, Tryd.results38]
    first | rfl | simp [resVal, tmAV, AV.nilD, nilDL, strsD, *]
  refine AWp.rg [] [] ?_ (hr := by conv => lhs; simp [Tm.row, Tm.rows_eq, Cs.rows_eq, q11])
  refine AWp.cn ?_
  refine AWp.skip ?_
  rw [if_neg q11, if_neg q11] at hR
  refine AWp.rg [] [] ?_ (hr := by conv => lhs; simp [Tm.row, Tm.rows_eq, Cs.rows_eq, q11])
  repeat (first | refine AWp.seq ?_ | refine AWp.block ?_)
  refine AWp.loop (σ := fun u : {u : Nat × List Tm × List (List D) // u.1 ≤ txs.length ∧ (u.2.1 = (txs.take u.1).map Tm.er ∧ u.2.1.length = u.1 ∧ u.2.2 = (u.2.1 ++ txs.drop u.1).map Tm.row)} => ⟨66, [(1, .ptr 1 0), (2, .ptr 2 0), (31, .d (.int txs.length)), (32, .d (.int (u.1.1 : Int)))], [(1, some (.blk 34 [.d (.int tk), .d (.int tn), .d (.str ta), .d (.str tb), .d (strsD tvs), .arr 400 0 txs.length, .arr 401 0 tcs.length])), (2, some (.blk 34 [.d (.int 0), .d (.int 0), .d (.str ByteArray.empty), .d (.str ByteArray.empty), .lit (.slice none 0 0), .lit (.slice none 0 0), .lit (.slice none 0 0)])), (400, some (.arr 34 7 u.1.2.2)), (401, some (.arr 40 9 (tcs.map Cs.row)))]⟩)
    (μ := fun u => txs.length - u.1.1) ⟨(0, [], txs.map Tm.row), ⟨Nat.zero_le _, ⟨by simp, rfl, by simp⟩⟩⟩ (Le.sub (by simp) (by simp)) (fun ⟨(i, ys, RS), ⟨hi13, hw⟩⟩ => ?_)
  dsimp only at hi13 hw ⊢
  refine AWp.rg [] [] ?_ (hr := by conv => lhs; simp [Tm.row, Tm.rows_eq, Cs.rows_eq, q11])
  repeat (first | refine AWp.seq ?_ | refine AWp.block ?_)
  refine AWp.cond rfl (fun hc => ?_) (fun hc => ?_)
  · have hi1 : i < txs.length := by have := of_decide_eq_true hc; omega
    clear hc
    have h1y : txs[i]? = some txs[i] := List.getElem?_eq_getElem hi1
    have hmy : txs[i] ∈ txs := List.getElem_mem hi1
    have hdy : txs.drop i = txs[i] :: txs.drop (i + 1) := List.drop_eq_getElem_cons hi1
    generalize txs[i] = y at h1y hmy hdy
    obtain ⟨hys, hyl, hRS⟩ := hw
    have hx := ih y (by have := Tm.szs_mem hmy; omega) (hxO y hmy)
    have hsn : (txs.take (i + 1)).map Tm.er = ys ++ [y.er] := by rw [List.take_add_one, h1y, List.map_append, ← hys]; rfl
    rw [hdy] at hRS
    generalize y.er = z at hx hsn
    obtain ⟨yk, yn, ya, yb, yvs, yxs, ycs⟩ := y
    obtain ⟨zk, zn, za, zb, zvs, zxs, zcs⟩ := z
    have hRS0 : RS[i]? = some (Tm.row (.mk yk yn ya yb yvs yxs ycs)) := by rw [hRS, List.getElem?_map, List.getElem?_append_right (by omega), hyl, Nat.sub_self]; rfl
    obtain ⟨RS1, hRS1⟩ : ∃ R, R = RS.set i (Tm.row (.mk zk zn za zb zvs zxs zcs)) := ⟨_, rfl⟩
    have hRS2 : RS1 = ((ys ++ [Tm.mk zk zn za zb zvs zxs zcs]) ++ txs.drop (i + 1)).map Tm.row := by
      rw [hRS1, hRS, ← List.map_set, List.set_append_right _ _ (by omega), hyl, Nat.sub_self]
      simp
    have hRSl : RS.length = txs.length := by rw [hRS, List.length_map, List.length_append, List.length_cons, List.length_drop]; omega
    simp only [Tm.row, Tm.rows_eq, Cs.rows_eq] at hRS0 hRS1
    replace hRS1 := hRS1.symm
    refine AWp.skip ?_
    refine AWp.rg [] [] ?_ (hr := by conv => lhs; simp [Tm.row, Tm.rows_eq, Cs.rows_eq, h1y, hRS0, hRS1, q11])
    refine AWp.dw [] [.p (fun _ => .agg [.d (.int zk), .d (.int zn), .d (.str za), .d (.str zb), .d (strsD zvs), .d (.sl (zxs.map Tm.row)), .d (.sl (zcs.map Cs.row))]) none] mixed ?_ (hr := by conv => lhs; simp [Tm.row, Tm.rows_eq, Cs.rows_eq, h1y, hRS0, hRS1, q11])
    refine AWp.rg [] [] ?_ (hr := by conv => lhs; simp [Tm.row, Tm.rows_eq, Cs.rows_eq, h1y, hRS0, hRS1, q11])
    refine ⟨⟨(i + 1, ys ++ [.mk zk zn za zb zvs zxs zcs], RS1), hi1, ⟨by rw [hsn], by simp [hyl], hRS2⟩⟩, by simp; omega, ?_⟩
    dsimp only
    exact Le.sub (by simp) (by simp)
  have hi1 : i = txs.length := by have := of_decide_eq_false hc; omega
  subst hi1
  clear hc
  obtain ⟨hys, hyl, hRS⟩ := hw
  rw [List.drop_length, List.append_nil] at hRS
  rw [List.take_length] at hys
  rw [erL_eq, ← hys] at hR
  clear hys
  subst hRS
  have hT1 : List.take txs.length (ys.map Tm.row) = ys.map Tm.row := List.take_of_length_le (by simp [hyl])
  refine AWp.exit ?_
  refine AWp.rg [] [] ?_ (hr := by conv => lhs; simp [Tm.row, Tm.rows_eq, Cs.rows_eq, q11])
  repeat (first | refine AWp.seq ?_ | refine AWp.block ?_)
  refine AWp.loop (σ := fun u : {u : Nat × List Cs × List (List D) // u.1 ≤ tcs.length ∧ (u.2.1 = (tcs.take u.1).map Cs.er ∧ u.2.1.length = u.1 ∧ u.2.2 = (u.2.1 ++ tcs.drop u.1).map Cs.row)} => ⟨66, [(1, .ptr 1 0), (2, .ptr 2 0), (48, .d (.int tcs.length)), (49, .d (.int (u.1.1 : Int)))], [(1, some (.blk 34 [.d (.int tk), .d (.int tn), .d (.str ta), .d (.str tb), .d (strsD tvs), .arr 400 0 txs.length, .arr 401 0 tcs.length])), (2, some (.blk 34 [.d (.int 0), .d (.int 0), .d (.str ByteArray.empty), .d (.str ByteArray.empty), .lit (.slice none 0 0), .lit (.slice none 0 0), .lit (.slice none 0 0)])), (400, some (.arr 34 7 (ys.map Tm.row))), (401, some (.arr 40 9 u.1.2.2))]⟩)
    (μ := fun u => tcs.length - u.1.1) ⟨(0, [], tcs.map Cs.row), ⟨Nat.zero_le _, ⟨by simp, rfl, by simp⟩⟩⟩ (Le.sub (by simp) (by simp)) (fun ⟨(i, ds, RS), ⟨hi18, hw2⟩⟩ => ?_)
  dsimp only at hi18 hw2 ⊢
  refine AWp.rg [] [] ?_ (hr := by conv => lhs; simp [Tm.row, Tm.rows_eq, Cs.rows_eq, q11])
  repeat (first | refine AWp.seq ?_ | refine AWp.block ?_)
  refine AWp.cond rfl (fun hc => ?_) (fun hc => ?_)
  · have hi1 : i < tcs.length := by have := of_decide_eq_true hc; omega
    clear hc
    have h1d : tcs[i]? = some tcs[i] := List.getElem?_eq_getElem hi1
    have hmd : tcs[i] ∈ tcs := List.getElem_mem hi1
    have hdd : tcs.drop i = tcs[i] :: tcs.drop (i + 1) := List.drop_eq_getElem_cons hi1
    generalize tcs[i] = d at h1d hmd hdd
    obtain ⟨hds, hdl, hRS⟩ := hw2
    have hdO := hcO d hmd
    have hsz := Cs.szs_mem hmd
    rw [hdd] at hRS
    have hsn : (tcs.take (i + 1)).map Cs.er = ds ++ [d.er] := by rw [List.take_add_one, h1d, List.map_append, ← hds]; rfl
    obtain ⟨dt, dws, y⟩ := d
    have hx := ih y (by simp only [Cs.sz] at hsz; omega) hdO.2.2
    rw [Cs.er] at hsn
    generalize y.er = z at hx hsn
    obtain ⟨yk, yn, ya, yb, yvs, yxs, ycs⟩ := y
    obtain ⟨zk, zn, za, zb, zvs, zxs, zcs⟩ := z
    have hRSl : RS.length = tcs.length := by rw [hRS, List.length_map, List.length_append, List.length_cons, List.length_drop]; omega
    have hR0 : RS[i]? = some [.int dt, strsD dws, .int yk, .int yn, .str ya, .str yb, strsD yvs, .sl (yxs.map Tm.row), .sl (ycs.map Cs.row)] := by rw [hRS, List.getElem?_map, List.getElem?_append_right (by omega), hdl, Nat.sub_self]; simp [Cs.row, Tm.row, Tm.rows_eq, Cs.rows_eq]
    obtain ⟨R1, hR1⟩ : ∃ R1, RS.set i [.int dt, strsD dws, .int zk, .int zn, .str za, .str zb, strsD zvs, .sl (zxs.map Tm.row), .sl (zcs.map Cs.row)] = R1 := ⟨_, rfl⟩
    have hRS2 : RS.set i [.int dt, strsD dws, .int zk, .int zn, .str za, .str zb, strsD zvs, .sl (zxs.map Tm.row), .sl (zcs.map Cs.row)] = ((ds ++ [Cs.mk dt dws (.mk zk zn za zb zvs zxs zcs)]) ++ tcs.drop (i + 1)).map Cs.row := by
      rw [show ([.int dt, strsD dws, .int zk, .int zn, .str za, .str zb, strsD zvs, .sl (zxs.map Tm.row), .sl (zcs.map Cs.row)] : List D) = Cs.row (Cs.mk dt dws (.mk zk zn za zb zvs zxs zcs)) from by simp [Cs.row, Tm.row, Tm.rows_eq, Cs.rows_eq], hRS, ← List.map_set, List.set_append_right _ _ (by omega), hdl, Nat.sub_self]
      simp
    refine AWp.skip ?_
    refine AWp.rg [] [] ?_ (hr := by conv => lhs; simp [Tm.row, Tm.rows_eq, Cs.rows_eq, h1d, Cs.row, hR0, hR1, q11])
    refine AWp.dw [] [.p (fun _ => .agg [.d (.int zk), .d (.int zn), .d (.str za), .d (.str zb), .d (strsD zvs), .d (.sl (zxs.map Tm.row)), .d (.sl (zcs.map Cs.row))]) none] mixed ?_ (hr := by conv => lhs; simp [Tm.row, Tm.rows_eq, Cs.rows_eq, h1d, Cs.row, hR0, hR1, q11])
    refine AWp.rg [] [] ?_ (hr := by conv => lhs; simp [Tm.row, Tm.rows_eq, Cs.rows_eq, h1d, Cs.row, hR0, hR1, q11])
    refine ⟨⟨(i + 1, ds ++ [.mk dt dws (.mk zk zn za zb zvs zxs zcs)], R1), hi1, ⟨hsn.symm, by simp [hdl], by rw [← hR1]; exact hRS2⟩⟩, by simp; omega, ?_⟩
    dsimp only
    exact Le.sub (by simp) (by simp)
  have hi1 : i = tcs.length := by have := of_decide_eq_false hc; omega
  subst hi1
  clear hc
  obtain ⟨hds, hdl, hRS⟩ := hw2
  rw [List.drop_length, List.append_nil] at hRS
  rw [List.take_length] at hds
  rw [cerL_eq, ← hds] at hR
  replace hR := hR.symm
  injection hR with e1 e2 e3 e4 e5 e6 e7
  subst e1 e2 e3 e4 e5 e6 e7
  subst hRS
  have hT2 : List.take tcs.length (ds.map Cs.row) = ds.map Cs.row := List.take_of_length_le (by simp [hdl])
  refine AWp.exit ?_
  refine AWp.rg [] [] ?_ (hr := by conv => lhs; simp [Tm.row, Tm.rows_eq, Cs.rows_eq, q11])
  refine AWp.ret ?_
  try dsimp only [thenQ, blockQ]
  apply endQ.retF [400, 401]
  · rfl
  · conv => lhs; simp
  · conv => lhs; simp [resAV, Tryd.results38]
  first | rfl | simp [resVal, tmAV, AV.nilD, nilDL, strsD, *]
theorem er_all : ∀ N, ErN N
  | 0 => fun t h => by obtain ⟨k, n, a, b, vs, xs, cs⟩ := t; simp only [Tm.sz] at h; omega
  | N + 1 => er_step N (er_all N)
theorem sp_Erase (t : Tm) (h : t.Ok) : PSpec Tryd.prog 38 [tmAV t] (fun _ => tmAV t.er) none := er_all t.sz t (Nat.le_refl _) h
end Go.Proofs.YtapiiklnnkkdlaaDoor

namespace Go.Proofs.YtapiiklnnkkdlaaDoor
open Go.RowKit
attribute [local simp] runD mkRc ldOf stOf stOk ldArg noAny dstOk guardOk opEff opEff0 effOp pureOp callOp zEff evA constAV scalAV Value.oneCell' frGet memGet startAS frOf isGoCall idIn AS.after nextR opnIds objIds AV.ids idsL AObj.ids frNo memNo opnAny isAny mkVal rdCells wrCells fldAddr idxAddr srcRows litRows toD1 toDs setAt sliceAV optI partAV bldAV fillAV binAV binI AV.cells callEff calleeOf frKill memKill AV.kill AObj.kill AV.has AV.hasL Op.operands Call.operands keepF keepM viewIds cChk renOf moGet moWs moQ cEff moLike moHave AV.ren renL AObj.ren AObj.like kept startC moMem AV.frz frz1 frzL frSub memSub frzs AS.frz frFrz memFrz AObj.frz takeMap takeLen bleF Nat.ble_eq memAny objAny mapOp D.keyOk rowAV valRow extOp wrapOp phO frLow memLow memLow1 objLow memEmpty Low LowL
set_option linter.unusedVariables false
set_option linter.unusedSimpArgs false
end Go.Proofs.YtapiiklnnkkdlaaDoor

namespace Go.Proofs.YtapiiklnnkkdlaaDoor
open Go.RowKit
attribute [local simp] runD mkRc ldOf stOf stOk ldArg noAny dstOk guardOk opEff opEff0 effOp pureOp callOp zEff evA constAV scalAV Value.oneCell' frGet memGet startAS frOf isGoCall idIn AS.after nextR opnIds objIds AV.ids idsL AObj.ids frNo memNo opnAny isAny mkVal rdCells wrCells fldAddr idxAddr srcRows litRows toD1 toDs setAt sliceAV optI partAV bldAV fillAV binAV binI AV.cells callEff calleeOf frKill memKill AV.kill AObj.kill AV.has AV.hasL Op.operands Call.operands keepF keepM viewIds cChk renOf moGet moWs moQ cEff moLike moHave AV.ren renL AObj.ren AObj.like kept startC moMem AV.frz frz1 frzL frSub memSub frzs AS.frz frFrz memFrz AObj.frz takeMap takeLen bleF Nat.ble_eq memAny objAny mapOp D.keyOk rowAV valRow extOp wrapOp phO
set_option linter.unusedVariables false
set_option linter.unusedSimpArgs false
end Go.Proofs.YtapiiklnnkkdlaaDoor
