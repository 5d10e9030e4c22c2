import Derived.Test.YtapiiklnnkkdlaaDoorEvalB
/- What comes of terms: plainly. -/
namespace Go.Proofs.YtapiiklnnkkdlaaDoor
open Go.RowKit
set_option linter.unusedVariables false
set_option linter.unusedSimpArgs false
abbrev Out := Vl × Int × Int
abbrev OutL := List Vl × Int × Int
abbrev CallF := ByteArray → List Vl → Int → Out
def bindE (ws : List ByteArray) (vs : List Vl) (env : Env) : Env := (ws.zip vs).reverse ++ env
def primR (n : Int) (u v : Vl) (fuel : Int) : Out :=
  if (u.con || v.con) = true then (zeroV, fuel, 10) else if (primV n u.n v.n).2 ≠ 0 then (zeroV, fuel, (primV n u.n v.n).2) else ((primV n u.n v.n).1, fuel, 0)
def afterL (g : Bool) (C : CallF) (k n : Int) (a : ByteArray) (o : OutL) (M : Vl → Int → Out) : Out :=
  if k = 3 then ((if g = true ∨ o.2.2 = 0 then .mk true n o.1 else zeroV), o.2.1, o.2.2)
  else if o.2.2 ≠ 0 then (zeroV, o.2.1, o.2.2)
  else if k = 4 then C a o.1 o.2.1
  else if k = 5 then primR n (o.1.getD 0 zeroV) (o.1.getD 1 zeroV) o.2.1
  else if (o.1.getD 0 zeroV).con = true then M (o.1.getD 0 zeroV) o.2.1 else (zeroV, o.2.1, 10)
def consL (v : Vl) (o : OutL) : OutL := (v :: o.1, o.2.1, o.2.2)
mutual
def evT (g : Bool) (C : CallF) : Tm → Env → Int → Out
  | .mk k n a _ _ xs cs, env, fuel =>
    if k = 1 then (envVal env a, fuel, 0) else if k = 2 then (.mk false n [], fuel, 0) else if k = 6 then evLet g C a xs env fuel
    else afterL g C k n a (evL g C xs env fuel) (fun v f => evC g C v cs env f)
def evL (g : Bool) (C : CallF) : List Tm → Env → Int → OutL
  | [], _, fuel => ([], fuel, 0)
  | x :: r, env, fuel => if (evT g C x env fuel).2.2 ≠ 0 then ([(evT g C x env fuel).1], (evT g C x env fuel).2.1, (evT g C x env fuel).2.2)
    else consL (evT g C x env fuel).1 (evL g C r env (evT g C x env fuel).2.1)
def evLet (g : Bool) (C : CallF) (a : ByteArray) : List Tm → Env → Int → Out
  | [], _, fuel => (zeroV, fuel, 0)
  | x :: r, env, fuel => if (evT g C x env fuel).2.2 ≠ 0 then (zeroV, (evT g C x env fuel).2.1, (evT g C x env fuel).2.2) else evIn g C r ((a, (evT g C x env fuel).1) :: env) (evT g C x env fuel).2.1
def evIn (g : Bool) (C : CallF) : List Tm → Env → Int → Out
  | [], _, fuel => (zeroV, fuel, 0)
  | y :: _, env, fuel => evT g C y env fuel
def evC (g : Bool) (C : CallF) (v : Vl) : List Cs → Env → Int → Out
  | [], _, fuel => (zeroV, fuel, 11)
  | c :: r, env, fuel => if c.tag = v.n then (if c.vars.length = v.kids.length then evB g C v c env fuel else (zeroV, fuel, 11)) else evC g C v r env fuel
def evB (g : Bool) (C : CallF) (v : Vl) : Cs → Env → Int → Out
  | .mk _ ws b, env, fuel => evT g C b (bindE ws v.kids env) fuel
end
noncomputable def evCall (g : Bool) (l : List Fn) : Nat → CallF
  | 0, name, vs, fuel => match l.find? (fun x => eqB x.name name) with
    | none => (zeroV, fuel, 6)
    | some x => if x.params.length ≠ vs.length then (zeroV, fuel, 6) else if fuel = 0 then (zeroV, fuel, 12) else (zeroV, fuel, 9)
  | n + 1, name, vs, fuel => match l.find? (fun x => eqB x.name name) with
    | none => (zeroV, fuel, 6)
    | some x => if x.params.length ≠ vs.length then (zeroV, fuel, 6) else if fuel = 0 then (zeroV, fuel, 12) else evT g (evCall g l n) x.body (bindE x.params vs []) (fuel - 1)
mutual
def Vl.Fine : Vl → Prop
  | .mk _ n ks => (-2147483648 ≤ n ∧ n ≤ 2147483647) ∧ ks.length ≤ 6 ∧ Vl.Fines ks
def Vl.Fines : List Vl → Prop
  | [] => True
  | t :: r => t.Fine ∧ Vl.Fines r
end
theorem Vl.Fines_iff : ∀ {l : List Vl}, Vl.Fines l ↔ ∀ t ∈ l, t.Fine
  | [] => by simp [Vl.Fines]
  | t :: r => by simp [Vl.Fines, Vl.Fines_iff (l := r)]
theorem Vl.Fine.ok_at : ∀ (N : Nat) (v : Vl), v.sz < N → v.Fine → v.Ok := by
  intro N
  induction N with
  | zero => intro v h; omega
  | succ N ih =>
  intro v hN h
  obtain ⟨c, n, ks⟩ := v
  exact ⟨⟨by have := h.1.1; omega, by have := h.1.2; omega⟩, by have := h.2.1; omega, Vl.Oks_iff.2 fun x hx => ih x (by have := Vl.sz_kid (c := c) (n := n) hx; omega) (Vl.Fines_iff.1 h.2.2 x hx)⟩
theorem Vl.Fine.ok {v : Vl} (h : v.Fine) : v.Ok := Vl.Fine.ok_at _ v (Nat.lt_succ_self _) h
theorem zeroV_fine : zeroV.Fine := ⟨⟨by omega, by omega⟩, Nat.zero_le _, trivial⟩
theorem primV_fine (p a b : Int) : (primV p a b).1.Fine := by
  have bf : ∀ x : Bool, -2147483648 ≤ bi x ∧ bi x ≤ 2147483647 := fun x => by cases x <;> decide
  have wf : ∀ x : Int, -2147483648 ≤ wr32 x ∧ wr32 x ≤ 2147483647 := wr32_in
  unfold primV
  repeat' split
  · exact ⟨wf _, Nat.zero_le _, trivial⟩
  · exact ⟨wf _, Nat.zero_le _, trivial⟩
  · exact ⟨wf _, Nat.zero_le _, trivial⟩
  · exact ⟨bf _, Nat.zero_le _, trivial⟩
  · exact ⟨bf _, Nat.zero_le _, trivial⟩
  · exact zeroV_fine
def EnvF (env : Env) : Prop := ∀ p ∈ env, p.2.Fine
theorem EnvF.get {s : ByteArray} {v : Vl} : ∀ {env : Env}, EnvF env → envGet env s = some v → v.Fine
  | [], _, h => by cases h
  | (x, u) :: r, hF, h => by
    rw [envGet] at h
    split at h
    · cases h; exact hF _ (List.mem_cons_self ..)
    · exact EnvF.get (fun p hp => hF p (List.mem_cons_of_mem _ hp)) h
theorem EnvF.cons {env : Env} (h : EnvF env) {v : Vl} (hv : v.Fine) (s : ByteArray) : EnvF ((s, v) :: env) := fun p hp => by
  rcases List.mem_cons.1 hp with rfl | hp
  · exact hv
  · exact h p hp
theorem EnvF.bind {env : Env} (h : EnvF env) {vs : List Vl} (hv : ∀ v ∈ vs, v.Fine) (ws : List ByteArray) : EnvF (bindE ws vs env) := fun p hp => by
  unfold bindE at hp
  rcases List.mem_append.1 hp with hp | hp
  · exact hv _ (List.of_mem_zip (List.mem_reverse.1 hp)).2
  · exact h p hp
def CovE (env : Env) (names : List ByteArray) : Prop := ∀ s ∈ names, ∃ v, envGet env s = some v
theorem CovE.cons {env : Env} {names : List ByteArray} (h : CovE env names) (a : ByteArray) (v : Vl) : CovE ((a, v) :: env) (names ++ [a]) := fun s hs => by
  by_cases e : a = s
  · exact ⟨v, by rw [envGet, if_pos e]⟩
  · rcases List.mem_append.1 hs with hs | hs
    · obtain ⟨u, hu⟩ := h s hs
      exact ⟨u, by rw [envGet, if_neg e]; exact hu⟩
    · exact absurd (List.mem_singleton.1 hs).symm e
theorem envGet_append (s : ByteArray) (b : Env) : ∀ a : Env, envGet (a ++ b) s = (envGet a s).or (envGet b s)
  | [] => by simp [envGet]
  | (x, v) :: r => by
    simp only [List.cons_append, envGet]
    split
    · rfl
    · exact envGet_append s b r
theorem envGet_mem {s : ByteArray} : ∀ {a : Env}, s ∈ a.map (·.1) → ∃ v, envGet a s = some v
  | (x, v) :: r, h => by
    by_cases e : x = s
    · exact ⟨v, by rw [envGet, if_pos e]⟩
    · rcases List.mem_cons.1 h with h | h
      · exact absurd h.symm e
      · obtain ⟨u, hu⟩ := envGet_mem h
        exact ⟨u, by rw [envGet, if_neg e]; exact hu⟩
theorem CovE.bind {env : Env} {names ws : List ByteArray} {vs : List Vl} (h : CovE env names) (hl : ws.length = vs.length) : CovE (bindE ws vs env) (names ++ ws) := fun s hs => by
  unfold bindE
  rw [envGet_append]
  by_cases hw : s ∈ ws
  · have : s ∈ ((ws.zip vs).reverse).map (·.1) := by
      rw [List.map_reverse, List.mem_reverse, List.map_fst_zip (by omega)]
      exact hw
    obtain ⟨v, hv⟩ := envGet_mem this
    exact ⟨v, by rw [hv]; rfl⟩
  · rcases List.mem_append.1 hs with hs | hs
    · obtain ⟨v, hv⟩ := h s hs
      cases envGet (ws.zip vs).reverse s with
      | none => exact ⟨v, by rw [hv]; rfl⟩
      | some u => exact ⟨u, rfl⟩
    · exact absurd hs hw
theorem bindE_snoc {ws : List ByteArray} {vs : List Vl} {j : Nat} {x : ByteArray} {v : Vl} (hw : ws[j]? = some x) (hv : vs[j]? = some v) (env : Env) : bindE (ws.take (j + 1)) (vs.take (j + 1)) env = (x, v) :: bindE (ws.take j) (vs.take j) env := by
  unfold bindE
  rw [List.take_add_one, List.take_add_one, hw, hv, List.zip_append]
  · simp
  · have h1 := (List.getElem?_eq_some_iff.1 hw).1
    have h2 := (List.getElem?_eq_some_iff.1 hv).1
    simp
    omega
def CFine (C : CallF) : Prop := ∀ (a : ByteArray) (vs : List Vl) (f : Int), (∀ v ∈ vs, v.Fine) → 0 ≤ f → f ≤ 300 → (C a vs f).1.Fine ∧ 0 ≤ (C a vs f).2.1 ∧ (C a vs f).2.1 ≤ 300
theorem evL_len (g : Bool) (C : CallF) (env : Env) : ∀ (xs : List Tm) (fuel : Int), (evL g C xs env fuel).1.length ≤ xs.length ∧ ((evL g C xs env fuel).2.2 = 0 → (evL g C xs env fuel).1.length = xs.length)
  | [], fuel => by simp [evL]
  | x :: r, fuel => by
    rw [evL]
    split
    · rename_i h; exact ⟨by simp, fun e => absurd e h⟩
    · have := evL_len g C env r (evT g C x env fuel).2.1
      simp only [consL, List.length_cons]
      exact ⟨by omega, fun e => by have := this.2 e; omega⟩
theorem evT_fine {g : Bool} {C : CallF} (hC : CFine C) {A : Arity} : ∀ (N : Nat) (t : Tm) (env : Env) (names : List ByteArray) (deep fuel : Int), t.sz < N → t.wrong A names deep = 0 → EnvF env → 0 ≤ fuel → fuel ≤ 300 →
    (evT g C t env fuel).1.Fine ∧ 0 ≤ (evT g C t env fuel).2.1 ∧ (evT g C t env fuel).2.1 ≤ 300 := by
  intro N
  induction N with
  | zero => intro t _ _ _ _ h; omega
  | succ N ih =>
  intro t env names deep fuel hN hw hF hf0 hf1
  obtain ⟨k, n, a, b, vs, xs, cs⟩ := t
  obtain ⟨h1, h2, h3, h4, h5, h6, h7⟩ := wrong_zero hw
  have hx : ∀ (j : Nat) (x : Tm), xs[j]? = some x → x.sz < N ∧ x.wrong A (if k = 6 ∧ 0 + j = 1 then names ++ [a] else names) (deep + 1) = 0 := fun j x hj =>
    ⟨by have := Tm.sz_arg (k := k) (n := n) (a := a) (b := b) (vs := vs) (cs := cs) (List.mem_of_getElem? hj); omega, wrongs_zero h6 j x hj⟩
  have hn6 := many_six h4 fun h => (h7 h).2.1
  rw [evT]
  by_cases k1 : k = 1
  · rw [if_pos k1]
    refine ⟨?_, hf0, hf1⟩
    show (envVal env a).Fine
    unfold envVal
    cases hg : envGet env a with
    | none => exact zeroV_fine
    | some v => exact hF.get hg
  rw [if_neg k1]
  by_cases k2 : k = 2
  · rw [if_pos k2]
    refine ⟨⟨?_, Nat.zero_le _, trivial⟩, hf0, hf1⟩
    unfold headE at h5
    rw [if_neg k1, if_pos k2] at h5
    split at h5
    · cases h5
    · omega
  rw [if_neg k2]
  by_cases k6 : k = 6
  · rw [if_pos k6]
    match xs with
    | [] => simp only [evLet]; exact ⟨zeroV_fine, hf0, hf1⟩
    | x :: r =>
      rw [evLet]
      obtain ⟨a1, a2⟩ := hx 0 x rfl
      obtain ⟨b1, b2, b3⟩ := ih x env _ _ fuel a1 a2 hF hf0 hf1
      split
      · exact ⟨zeroV_fine, b2, b3⟩
      · match r with
        | [] => simp only [evIn]; exact ⟨zeroV_fine, b2, b3⟩
        | y :: r =>
          rw [evIn]
          obtain ⟨c1, c2⟩ := hx 1 y rfl
          exact ih y _ _ _ _ c1 c2 (hF.cons b1 a) b2 b3
  rw [if_neg k6]
  have hL : ∀ (ys : List Tm) (fuel : Int), (∀ y ∈ ys, y ∈ xs) → 0 ≤ fuel → fuel ≤ 300 → (∀ v ∈ (evL g C ys env fuel).1, v.Fine) ∧ 0 ≤ (evL g C ys env fuel).2.1 ∧ (evL g C ys env fuel).2.1 ≤ 300 := by
    intro ys
    induction ys with
    | nil => intro fuel _ h0 h1; simp only [evL]; exact ⟨(fun v hv => by cases hv), h0, h1⟩
    | cons y r ih2 =>
      intro fuel hm h0 h1
      obtain ⟨j, hj⟩ := List.mem_iff_getElem?.1 (hm y (List.mem_cons_self ..))
      obtain ⟨a1, a2⟩ := hx j y hj
      obtain ⟨b1, b2, b3⟩ := ih y env _ _ fuel a1 a2 hF h0 h1
      rw [evL]
      split
      · exact ⟨fun v hv => by rw [List.mem_singleton.1 hv]; exact b1, b2, b3⟩
      · obtain ⟨c1, c2, c3⟩ := ih2 _ (fun z hz => hm z (List.mem_cons_of_mem _ hz)) b2 b3
        refine ⟨fun v hv => ?_, c2, c3⟩
        rcases List.mem_cons.1 hv with rfl | hv
        · exact b1
        · exact c1 v hv
  obtain ⟨l1, l2, l3⟩ := hL xs fuel (fun y hy => hy) hf0 hf1
  have l4 := evL_len g C env xs fuel
  generalize evL g C xs env fuel = o at l1 l2 l3 l4
  obtain ⟨us, f, e⟩ := o
  dsimp only at l1 l2 l3 l4
  have hget : ∀ i, (us.getD i zeroV).Fine := fun i => by
    rw [List.getD_eq_getElem?_getD]
    cases hu : us[i]? with
    | none => exact zeroV_fine
    | some u => exact l1 u (List.mem_of_getElem? hu)
  unfold afterL
  dsimp only
  by_cases k3 : k = 3
  · rw [if_pos k3]
    refine ⟨?_, l2, l3⟩
    dsimp only
    split
    · refine ⟨?_, by omega, Vl.Fines_iff.2 l1⟩
      unfold headE at h5
      rw [if_neg k1, if_neg k2, if_pos k3] at h5
      split at h5
      · cases h5
      · omega
    · exact zeroV_fine
  rw [if_neg k3]
  split
  · exact ⟨zeroV_fine, l2, l3⟩
  split
  · exact hC _ _ _ l1 l2 l3
  split
  · unfold primR
    split
    · exact ⟨zeroV_fine, l2, l3⟩
    split
    · exact ⟨zeroV_fine, l2, l3⟩
    · exact ⟨primV_fine _ _ _, l2, l3⟩
  split
  rotate_left
  · exact ⟨zeroV_fine, l2, l3⟩
  rename_i k4 k5 hcon
  have h7 := h7 (by omega)
  have hv := hget 0
  generalize us.getD 0 zeroV = v at hv
  have hk : ∀ x ∈ v.kids, x.Fine := by
    obtain ⟨c, m, ks⟩ := v
    exact Vl.Fines_iff.1 hv.2.2
  have hC2 : ∀ (ds : List Cs), (∀ d ∈ ds, d ∈ cs) → (evC g C v ds env f).1.Fine ∧ 0 ≤ (evC g C v ds env f).2.1 ∧ (evC g C v ds env f).2.1 ≤ 300 := by
    intro ds
    induction ds with
    | nil => intro _; simp only [evC]; exact ⟨zeroV_fine, l2, l3⟩
    | cons d r ih2 =>
      intro hm
      rw [evC]
      split
      · split
        · obtain ⟨t, ws, y⟩ := d
          rw [evB]
          have hd := hm _ (List.mem_cons_self ..)
          exact ih y _ _ _ f (by have := Tm.sz_case (k := k) (n := n) (a := a) (b := b) (vs := vs) (xs := xs) hd; omega) (cwrongs_zero h7.2.2 hd).2.2.2.2.2 (hF.bind hk ws) l2 l3
        · exact ⟨zeroV_fine, l2, l3⟩
      · exact ih2 fun z hz => hm z (List.mem_cons_of_mem _ hz)
  exact hC2 cs fun d hd => hd
theorem evCall_fine (g : Bool) {l : List Fn} (hr : ∀ x ∈ l, x.Fit (arOf l)) : ∀ n, CFine (evCall g l n) := by
  intro n
  induction n with
  | zero =>
    intro a vs f hv h0 h1
    rw [evCall]
    split
    · exact ⟨zeroV_fine, h0, h1⟩
    · repeat' split
      all_goals exact ⟨zeroV_fine, h0, h1⟩
  | succ n ih =>
    intro a vs f hv h0 h1
    rw [evCall]
    split
    · exact ⟨zeroV_fine, h0, h1⟩
    · rename_i x hx
      split
      · exact ⟨zeroV_fine, h0, h1⟩
      split
      · exact ⟨zeroV_fine, h0, h1⟩
      · have hm := List.mem_of_find?_eq_some hx
        obtain ⟨dp, hdp⟩ := (hr x hm).wrong
        exact evT_fine ih _ x.body _ x.params dp (f - 1) (Nat.lt_succ_self _) hdp (EnvF.bind (fun p hp => by cases hp) hv _) (by omega) (by omega)
end Go.Proofs.YtapiiklnnkkdlaaDoor
