import Derived.Test.YtapiiklnnkkdlaaDoorJoinP
import Derived.Test.YtapiiklnnkkdlaaDoorArP
import Derived.Test.YtapiiklnnkkdlaaDoorNumA
/- What was read, written, and read again, plainly. -/
namespace Go.Proofs.YtapiiklnnkkdlaaDoor
open Go.RowKit
set_option linter.unusedVariables false
set_option linter.unusedSimpArgs false
def tagW (n : Int) : ByteArray := ⟨#[35]⟩ ++ itoaB n
def prW (n : Int) : ByteArray := (⟨#[43, 45, 42, 60, 61]⟩ : ByteArray).extract (n - 1).toNat n.toNat
mutual
def Tm.wl : Tm → List ByteArray
  | .mk k n a b vs xs cs =>
    if k = 1 then [a] else if k = 2 then [itoaB n]
    else if k = 3 then lbr :: tagW n :: (Tm.wls xs ++ [rbr])
    else if k = 4 then lbr :: a :: (Tm.wls xs ++ [rbr])
    else if k = 5 then lbr :: prW n :: (Tm.wls xs ++ [rbr])
    else if k = 6 then lbr :: wLet :: a :: (Tm.wls xs ++ [rbr])
    else lbr :: wMatch :: (Tm.wls xs ++ (Cs.wls cs ++ [rbr]))
def Tm.wls : List Tm → List ByteArray
  | [] => []
  | x :: r => x.wl ++ Tm.wls r
def Cs.wls : List Cs → List ByteArray
  | [] => []
  | c :: r => c.wl ++ Cs.wls r
def Cs.wl : Cs → List ByteArray
  | .mk t ws y => lbr :: tagW t :: lbr :: (ws ++ (rbr :: (y.wl ++ [rbr])))
end
theorem wl1 {n : Int} {a b : ByteArray} {vs : List ByteArray} {xs : List Tm} {cs : List Cs} : (Tm.mk 1 n a b vs xs cs).wl = [a] := by rw [Tm.wl]; rfl
theorem wl2 {n : Int} {a b : ByteArray} {vs : List ByteArray} {xs : List Tm} {cs : List Cs} : (Tm.mk 2 n a b vs xs cs).wl = [itoaB n] := by rw [Tm.wl]; rfl
theorem wl3 {n : Int} {a b : ByteArray} {vs : List ByteArray} {xs : List Tm} {cs : List Cs} : (Tm.mk 3 n a b vs xs cs).wl = lbr :: tagW n :: (Tm.wls xs ++ [rbr]) := by rw [Tm.wl]; rfl
theorem wl4 {n : Int} {a b : ByteArray} {vs : List ByteArray} {xs : List Tm} {cs : List Cs} : (Tm.mk 4 n a b vs xs cs).wl = lbr :: a :: (Tm.wls xs ++ [rbr]) := by rw [Tm.wl]; rfl
theorem wl5 {n : Int} {a b : ByteArray} {vs : List ByteArray} {xs : List Tm} {cs : List Cs} : (Tm.mk 5 n a b vs xs cs).wl = lbr :: prW n :: (Tm.wls xs ++ [rbr]) := by rw [Tm.wl]; rfl
theorem wl6 {n : Int} {a b : ByteArray} {vs : List ByteArray} {xs : List Tm} {cs : List Cs} : (Tm.mk 6 n a b vs xs cs).wl = lbr :: wLet :: a :: (Tm.wls xs ++ [rbr]) := by rw [Tm.wl]; rfl
theorem wl7 {n : Int} {a b : ByteArray} {vs : List ByteArray} {xs : List Tm} {cs : List Cs} : (Tm.mk 7 n a b vs xs cs).wl = lbr :: wMatch :: (Tm.wls xs ++ (Cs.wls cs ++ [rbr])) := by rw [Tm.wl]; rfl
def numOk (n : Int) : Prop := numP (itoaB n) = (n, true)
def Tm.Wp (N : Nat) : Nat → Tm → Prop
  | 0, _ => False
  | d + 1, .mk k n a b vs xs cs => (b = .empty ∧ vs = []) ∧ (
      (k = 1 ∧ n = 0 ∧ nameB a = true ∧ (numP a).2 = false ∧ xs = [] ∧ cs = [])
      ∨ (k = 2 ∧ a = .empty ∧ numOk n ∧ xs = [] ∧ cs = [])
      ∨ (k = 3 ∧ a = .empty ∧ numOk n ∧ (xs.length ≤ N ∧ ∀ x ∈ xs, Tm.Wp N d x) ∧ cs = [])
      ∨ (k = 4 ∧ n = 0 ∧ nameB a = true ∧ a ≠ wLet ∧ a ≠ wMatch ∧ (xs.length ≤ N ∧ ∀ x ∈ xs, Tm.Wp N d x) ∧ cs = [])
      ∨ (k = 5 ∧ a = .empty ∧ (1 ≤ n ∧ n ≤ 5) ∧ (∃ x y, xs = [x, y] ∧ Tm.Wp N d x ∧ Tm.Wp N d y) ∧ cs = [])
      ∨ (k = 6 ∧ n = 0 ∧ nameB a = true ∧ (∃ x y, xs = [x, y] ∧ Tm.Wp N d x ∧ Tm.Wp N d y) ∧ cs = [])
      ∨ (k = 7 ∧ n = 0 ∧ a = .empty ∧ (∃ x, xs = [x] ∧ Tm.Wp N d x) ∧ (cs.length ≤ N ∧ ∀ c ∈ cs, ∃ t ws y, c = .mk t ws y ∧ numOk t ∧ (ws.length ≤ N ∧ ∀ w ∈ ws, nameB w = true) ∧ Tm.Wp N d y)))
structure Fn.Wp (N : Nat) (f : Fn) : Prop where
  name : nameB f.name = true
  params : f.params.length ≤ N ∧ ∀ w ∈ f.params, nameB w = true
  body : Tm.Wp N 25 f.body
theorem nameB_le8 {w : ByteArray} (h : nameB w = true) : w.size ≤ 8 := by
  unfold nameB at h
  simp only [Bool.and_eq_true, List.all_eq_true, decide_eq_true_eq] at h
  omega
theorem Tm.Wp.ok {N : Nat} (hN : N ≤ 1000000) : ∀ {d : Nat} {x : Tm}, x.Wp N d → x.Ok
  | 0, x, h => absurd h id
  | d + 1, x, h => by
    have e0 : (ByteArray.empty : ByteArray).size = 0 := rfl
    obtain ⟨k, n, a, b, vs, xs, cs⟩ := x
    obtain ⟨⟨rfl, rfl⟩, h⟩ := h
    rw [Tm.Ok, Tm.Oks_iff, Cs.Oks_iff, e0]
    rcases h with ⟨rfl, rfl, ha, hna, rfl, rfl⟩ | ⟨rfl, rfl, hn, rfl, rfl⟩ | ⟨rfl, rfl, hn, ⟨hl, hx⟩, rfl⟩ | ⟨rfl, rfl, ha, h1, h2, ⟨hl, hx⟩, rfl⟩ | ⟨rfl, rfl, hn, ⟨x, y, rfl, hx, hy⟩, rfl⟩ | ⟨rfl, rfl, ha, ⟨x, y, rfl, hx, hy⟩, rfl⟩ | ⟨rfl, rfl, rfl, ⟨x, rfl, hx⟩, ⟨hl, hc⟩⟩
    · have := nameB_le8 ha
      exact ⟨⟨by omega, by omega, by simp⟩, ⟨by simp, by simp, by simp⟩, by simp, by simp⟩
    · exact ⟨⟨by omega, by omega, by simp⟩, ⟨by simp, by simp, by simp⟩, by simp, by simp⟩
    · exact ⟨⟨by omega, by omega, by simp⟩, ⟨by simp, by omega, by simp⟩, fun x hm => Tm.Wp.ok hN (hx x hm), by simp⟩
    · have := nameB_le8 ha
      exact ⟨⟨by omega, by omega, by simp⟩, ⟨by simp, by omega, by simp⟩, fun x hm => Tm.Wp.ok hN (hx x hm), by simp⟩
    · exact ⟨⟨by omega, by omega, by simp⟩, ⟨by simp, by simp, by simp⟩, fun z hm => by
        simp only [List.mem_cons, List.not_mem_nil, or_false] at hm
        rcases hm with rfl | rfl
        · exact Tm.Wp.ok hN hx
        · exact Tm.Wp.ok hN hy, by simp⟩
    · have := nameB_le8 ha
      exact ⟨⟨by omega, by omega, by simp⟩, ⟨by simp, by simp, by simp⟩, fun z hm => by
        simp only [List.mem_cons, List.not_mem_nil, or_false] at hm
        rcases hm with rfl | rfl
        · exact Tm.Wp.ok hN hx
        · exact Tm.Wp.ok hN hy, by simp⟩
    · refine ⟨⟨by omega, by omega, by simp⟩, ⟨by simp, by simp, by omega⟩, fun z hm => ?_, fun c hm => ?_⟩
      · simp only [List.mem_cons, List.not_mem_nil, or_false] at hm
        subst hm
        exact Tm.Wp.ok hN hx
      · obtain ⟨t, ws, y, rfl, ht, ⟨hwl, hws⟩, hy⟩ := hc c hm
        exact ⟨fun s hs => by have := nameB_le8 (hws s hs); omega, by omega, Tm.Wp.ok hN hy⟩
theorem Fn.Wp.ok {N : Nat} (hN : N ≤ 1000000) {f : Fn} (h : f.Wp N) : f.Ok := by
  have := nameB_le8 h.name
  have h2 := h.params.1
  exact ⟨by omega, by omega, fun s hs => by have := nameB_le8 (h.params.2 s hs); omega, h.body.ok hN⟩
def Gd {α : Type} (f : TS → α × TS) (P : α → Prop) : Prop := ∀ p, (f p).2.2 = 0 → P (f p).1
theorem Gd.bnd {α β : Type} {f : TS → α × TS} {g : α → TS → β × TS} {P : α → Prop} {Q : β → Prop} (hf : Gd f P) (hs : ∀ a p, (g a p).2.2 = 0 → p.2 = 0) (hg : ∀ a, P a → Gd (g a) Q) : Gd (bnd f g) Q := fun p h0 => by
  have h1 := hs _ _ h0
  exact hg _ (hf p h1) _ h0
theorem Gd.map {α β : Type} {f : TS → α × TS} {k : α → β} {P : α → Prop} {Q : β → Prop} (hf : Gd f P) (hk : ∀ a, P a → Q (k a)) : Gd (mapT k f) Q := fun p h0 => hk _ (hf p h0)
theorem Gd.fin {β : Type} {x : β} {f : TS → TS} {Q : β → Prop} (h : Q x) : Gd (finT x f) Q := fun p h0 => h
theorem Gd.u {f : TS → TS} : Gd (uT f) (fun _ => True) := fun _ _ => trivial
theorem nam_gd : Gd namT (fun w => nameB w = true) := fun p h0 => by
  unfold namT at h0 ⊢
  dsimp only at h0 ⊢
  cases h : nameB (hdT p.1) with
  | true => rfl
  | false => rw [h] at h0; exact absurd h0 (badE_ne (by decide))
theorem num_of {w : ByteArray} (h : (numP w).2 = true) : itoaB (numP w).1 = w := by
  unfold numP at h ⊢
  split at h
  · exact of_decide_eq_true h
  · cases h
  · cases h
theorem numOk_of {w : ByteArray} (h : (numP w).2 = true) : numOk (numP w).1 := by
  unfold numOk
  rw [num_of h]
  exact Prod.ext rfl h
theorem tag_gd : Gd tagT numOk := fun p h0 => by
  unfold tagT at h0 ⊢
  split at h0
  · rename_i h1
    rw [if_pos h1]
    dsimp only at h0 ⊢
    split at h0
    · rename_i h2; exact numOk_of h2
    · exact absurd h0 (badE_ne (by decide))
  · exact absurd h0 (badE_ne (by decide))
theorem many_gd {α : Type} {one : TS → α × TS} {P : α → Prop} (h : Gd one P) (hs : ∀ p, (one p).2.2 = 0 → p.2 = 0) : ∀ n, Gd (manyT one n) (fun l => l.length ≤ n ∧ ∀ x ∈ l, P x)
  | 0, p, h0 => ⟨Nat.le_refl _, fun x hx => by simp [manyT] at hx⟩
  | n + 1, p, h0 => by
    rw [manyT] at h0 ⊢
    split
    · split
      · exact ⟨Nat.zero_le _, fun x hx => by simp at hx⟩
      · rename_i h1 h2
        rw [if_pos h1, if_neg h2] at h0
        dsimp only at h0 ⊢
        obtain ⟨h3, h4⟩ := many_gd h hs n _ h0
        refine ⟨by rw [List.length_cons]; omega, fun x hx => ?_⟩
        rcases List.mem_cons.1 hx with rfl | hx
        · exact h p (many_st hs _ _ h0)
        · exact h4 x hx
    · exact ⟨Nat.zero_le _, fun x hx => by simp at hx⟩
theorem prim_in (w : ByteArray) (h : 0 < primI w primsL 0 0) : 1 ≤ primI w primsL 0 0 ∧ primI w primsL 0 0 ≤ 5 := by
  refine ⟨by omega, ?_⟩
  simp only [primsL, primI]
  repeat' split
  all_goals omega
theorem cas_gd {N d : Nat} {one : TS → Tm × TS} (h : Gd one (Tm.Wp N d)) (hl : Loc N N one one) : Gd (casT N one) (fun c => ∃ t ws y, c = .mk t ws y ∧ numOk t ∧ (ws.length ≤ N ∧ ∀ w ∈ ws, nameB w = true) ∧ Tm.Wp N d y) :=
  Gd.u.bnd (f := uT (wantT lbr)) (g := fun _ => bnd tagT fun t => bnd (uT (wantT lbr)) fun _ => bnd (manyT namT N) fun ws => bnd one fun y => finT (Cs.mk t ws y) (wantT rbr))
    (fun _ => ((tag_loc N N).bnd fun t => (want_loc lbr N N).bnd fun _ => (many_loc (nam_loc N N)).bnd fun ws => hl.bnd fun y => (want_loc rbr N N).fin (Cs.mk t ws y)).st) fun _ _ =>
  tag_gd.bnd (fun t => ((want_loc lbr N N).bnd fun _ => (many_loc (nam_loc N N)).bnd fun ws => hl.bnd fun y => (want_loc rbr N N).fin (Cs.mk t ws y)).st) fun t ht =>
  Gd.u.bnd (fun _ => ((many_loc (nam_loc N N)).bnd fun ws => hl.bnd fun y => (want_loc rbr N N).fin (Cs.mk t ws y)).st) fun _ _ =>
  (many_gd nam_gd (nam_loc N N).st N).bnd (fun ws => (hl.bnd fun y => (want_loc rbr N N).fin (Cs.mk t ws y)).st) fun ws hws =>
  h.bnd (fun y => ((want_loc rbr N N).fin (Cs.mk t ws y)).st) fun y hy => Gd.fin ⟨t, ws, y, rfl, ht, hws, hy⟩
theorem form_gd {N d : Nat} {one : TS → Tm × TS} (h : Gd one (Tm.Wp N d)) (hl : Loc N N one one) : Gd (formT N one) (Tm.Wp N (d + 1)) := by
  intro p
  rw [formT_eq]
  dsimp only
  revert p
  suffices hh : ∀ w p, (formW N one w p).2.2 = 0 → w = hdT p.1 → Tm.Wp N (d + 1) (formW N one w p).1 from fun p h0 => hh _ p h0 rfl
  intro w
  unfold formW
  have hm := many_gd h hl.st N
  split
  · have := tag_gd.bnd (g := fun t => mapT (fun xs => Tm.mk 3 t .empty .empty [] xs []) (manyT one N)) (Q := Tm.Wp N (d + 1)) (fun t => ((many_loc hl).map _).st) fun t ht => hm.map fun xs hxs => ⟨⟨rfl, rfl⟩, .inr (.inr (.inl ⟨rfl, rfl, ht, hxs, rfl⟩))⟩
    exact fun p h0 _ => this p h0
  split
  · have := Gd.u.bnd (f := uT nxT) (g := fun _ => bnd namT fun nm => bnd one fun x => bnd one fun y => finT (Tm.mk 6 0 nm .empty [] [x, y] []) (wantT rbr)) (Q := Tm.Wp N (d + 1))
      (fun _ => ((nam_loc N N).bnd fun nm => hl.bnd fun x => hl.bnd fun y => (want_loc rbr N N).fin _).st) fun _ _ =>
      nam_gd.bnd (fun nm => (hl.bnd fun x => hl.bnd fun y => (want_loc rbr N N).fin _).st) fun nm hnm =>
      h.bnd (fun x => (hl.bnd fun y => (want_loc rbr N N).fin _).st) fun x hx => h.bnd (fun y => ((want_loc rbr N N).fin _).st) fun y hy => Gd.fin ⟨⟨rfl, rfl⟩, .inr (.inr (.inr (.inr (.inr (.inl ⟨rfl, rfl, hnm, ⟨x, y, rfl, hx, hy⟩, rfl⟩)))))⟩
    exact fun p h0 _ => this p h0
  split
  · have := Gd.u.bnd (f := uT nxT) (g := fun _ => bnd one fun x => mapT (fun cs => Tm.mk 7 0 .empty .empty [] [x] cs) (manyT (casT N one) N)) (Q := Tm.Wp N (d + 1))
      (fun _ => (hl.bnd fun x => (many_loc (cas_loc hl)).map _).st) fun _ _ =>
      h.bnd (fun x => ((many_loc (cas_loc hl)).map _).st) fun x hx => (many_gd (cas_gd h hl) (cas_loc hl).st N).map fun cs hcs => ⟨⟨rfl, rfl⟩, .inr (.inr (.inr (.inr (.inr (.inr ⟨rfl, rfl, rfl, ⟨x, rfl, hx⟩, hcs⟩)))))⟩
    exact fun p h0 _ => this p h0
  split
  · rename_i hp
    have := Gd.u.bnd (f := uT nxT) (g := fun _ => bnd one fun x => bnd one fun y => finT (Tm.mk 5 (primI w primsL 0 0) .empty .empty [] [x, y] []) (wantT rbr)) (Q := Tm.Wp N (d + 1))
      (fun _ => (hl.bnd fun x => hl.bnd fun y => (want_loc rbr N N).fin _).st) fun _ _ =>
      h.bnd (fun x => (hl.bnd fun y => (want_loc rbr N N).fin _).st) fun x hx => h.bnd (fun y => ((want_loc rbr N N).fin _).st) fun y hy => Gd.fin ⟨⟨rfl, rfl⟩, .inr (.inr (.inr (.inr (.inl ⟨rfl, rfl, prim_in w hp, ⟨x, y, rfl, hx, hy⟩, rfl⟩))))⟩
    exact fun p h0 _ => this p h0
  · rename_i hl1 hm1 _
    intro p h0 hw
    have hn := nam_gd p ((many_loc hl).st _ h0)
    have hx := hm _ h0
    have he : (namT p).1 = w := by rw [hw]; rfl
    refine ⟨⟨rfl, rfl⟩, .inr (.inr (.inr (.inl ⟨rfl, rfl, hn, by rw [he]; exact hl1, by rw [he]; exact hm1, hx, rfl⟩)))⟩
theorem ts_gd (N : Nat) : ∀ n, Gd (Tm.ts N n) (Tm.Wp N n)
  | 0, p, h0 => absurd h0 (badE_ne (by decide))
  | n + 1, p, h0 => by
    rw [Tm.ts] at h0 ⊢
    split
    · rename_i h1
      rw [if_pos h1] at h0
      exact form_gd (ts_gd N n) (ts_loc N N n) _ h0
    · rename_i h1
      rw [if_neg h1] at h0
      unfold atomT at h0 ⊢
      split
      · rename_i h2
        exact ⟨⟨rfl, rfl⟩, .inr (.inl ⟨rfl, rfl, numOk_of h2, rfl, rfl⟩)⟩
      · rename_i h2
        rw [if_neg h2] at h0
        dsimp only at h0 ⊢
        cases h3 : nameB (hdT p.1) with
        | false => rw [h3] at h0; exact absurd h0 (badE_ne (by decide))
        | true => exact ⟨⟨rfl, rfl⟩, .inl ⟨rfl, rfl, h3, Bool.eq_false_iff.2 h2, rfl, rfl⟩⟩
theorem fn_gd (N : Nat) : Gd (fnT N) (Fn.Wp N) :=
  Gd.u.bnd (f := uT (wantT lbr)) (g := fun _ => bnd (uT (wantT wFn)) fun _ => bnd namT fun nm => bnd (uT (wantT lbr)) fun _ => bnd (manyT namT N) fun ws => bnd (Tm.ts N 25) fun y => finT (Fn.mk nm ws y) (wantT rbr))
    (fun _ => ((want_loc wFn N N).bnd fun _ => (nam_loc N N).bnd fun nm => (want_loc lbr N N).bnd fun _ => (many_loc (nam_loc N N)).bnd fun ws => (ts_loc N N 25).bnd fun y => (want_loc rbr N N).fin (Fn.mk nm ws y)).st) fun _ _ =>
  Gd.u.bnd (fun _ => ((nam_loc N N).bnd fun nm => (want_loc lbr N N).bnd fun _ => (many_loc (nam_loc N N)).bnd fun ws => (ts_loc N N 25).bnd fun y => (want_loc rbr N N).fin (Fn.mk nm ws y)).st) fun _ _ =>
  nam_gd.bnd (fun nm => ((want_loc lbr N N).bnd fun _ => (many_loc (nam_loc N N)).bnd fun ws => (ts_loc N N 25).bnd fun y => (want_loc rbr N N).fin (Fn.mk nm ws y)).st) fun nm hnm =>
  Gd.u.bnd (fun _ => ((many_loc (nam_loc N N)).bnd fun ws => (ts_loc N N 25).bnd fun y => (want_loc rbr N N).fin (Fn.mk nm ws y)).st) fun _ _ =>
  (many_gd nam_gd (nam_loc N N).st N).bnd (fun ws => ((ts_loc N N 25).bnd fun y => (want_loc rbr N N).fin (Fn.mk nm ws y)).st) fun ws hws =>
  (ts_gd N 25).bnd (fun y => ((want_loc rbr N N).fin (Fn.mk nm ws y)).st) fun y hy => Gd.fin ⟨hnm, hws, hy⟩
theorem fns_gd (N : Nat) : ∀ n, Gd (fnsT N n) (fun l => l.length ≤ n ∧ ∀ f ∈ l, f.Wp N)
  | 0, p, h0 => ⟨Nat.le_refl _, fun x hx => by simp [fnsT] at hx⟩
  | n + 1, p, h0 => by
    rw [fnsT] at h0 ⊢
    split
    · split
      · exact ⟨Nat.zero_le _, fun x hx => by simp at hx⟩
      · rename_i h1 h2
        rw [if_pos h1, if_neg h2] at h0
        dsimp only at h0 ⊢
        obtain ⟨h3, h4⟩ := fns_gd N n _ h0
        refine ⟨by rw [List.length_cons]; omega, fun x hx => ?_⟩
        rcases List.mem_cons.1 hx with rfl | hx
        · exact fn_gd N p (fns_st N _ _ h0)
        · exact h4 x hx
    · exact ⟨Nat.zero_le _, fun x hx => by simp at hx⟩
theorem hd_cons (w : ByteArray) (l : List ByteArray) (e : Int) : hdT ((w :: l, e) : TS).1 = w := rfl
def Rd {α : Type} (N : Nat) (one : TS → α × TS) (w : List ByteArray) (x : α) : Prop := ∀ r, w.length + r.length < N → one (w ++ r, 0) = (x, (r, 0))
theorem want_rd (w : ByteArray) (r : List ByteArray) : wantT w (w :: r, 0) = (r, 0) := by
  unfold wantT
  rw [hd_cons, if_pos rfl]; rfl
theorem nam_rd {w : ByteArray} (h : nameB w = true) (r : List ByteArray) : namT (w :: r, 0) = (w, (r, 0)) := by
  unfold namT
  rw [hd_cons, if_pos h]; rfl
theorem itoaB_list (n : Int) : (itoaB n).data.toList = Lib.itoa n := by simp [itoaB]
theorem tagW_list (n : Int) : (tagW n).data.toList = 35 :: Lib.itoa n := by
  unfold tagW
  rw [ByteArray.data_append, Array.toList_append, itoaB_list]; rfl
theorem bsize (b : ByteArray) : b.size = b.data.toList.length := by simp
theorem tag_rd {n : Int} (h : numOk n) (r : List ByteArray) : tagT (tagW n :: r, 0) = (n, (r, 0)) := by
  have h1 : (tagW n).size = 1 + (itoaB n).size := by rw [tagW, ByteArray.size_append]; rfl
  have h2 : (tagW n).extract 1 (tagW n).size = itoaB n := by
    rw [h1]
    unfold tagW
    apply ByteArray.ext
    rw [ByteArray.data_extract, ByteArray.data_append]
    apply Array.toList_inj.1
    rw [Array.toList_extract, Array.toList_append, List.extract_eq_take_drop, bsize]
    simp only [List.cons_append, List.nil_append, List.drop_succ_cons, List.drop_zero, Nat.add_sub_cancel_left]
    exact List.take_of_length_le (Nat.le_refl _)
  have h3 : 0 < (itoaB n).size := by
    rw [bsize, itoaB_list]
    exact List.length_pos_iff.2 (itoa_wd n).1
  have h4 : sharp (tagW n) = true := by
    unfold sharp
    rw [tagW_list]; rfl
  unfold tagT
  rw [hd_cons, h2, if_pos (by rw [h4, h1]; simp; omega)]
  rw [h, if_pos rfl]
  rfl
theorem many_rd {α : Type} {N : Nat} {one : TS → α × TS} {W : α → List ByteArray} : ∀ (xs : List α) (n : Nat) (r : List ByteArray), (∀ x ∈ xs, Rd N one (W x) x ∧ W x ≠ [] ∧ hdT (W x) ≠ rbr) → (xs.flatMap W).length + 1 + r.length < N → (xs.flatMap W).length < n →
    manyT one n (xs.flatMap W ++ rbr :: r, 0) = (xs, (r, 0))
  | [], 0, r, _, _, hn => by simp at hn
  | [], n + 1, r, _, _, _ => by
    rw [List.flatMap_nil, List.nil_append, manyT, if_pos rfl, hd_cons, if_pos rfl, want_rd]
  | x :: xs, 0, r, _, _, hn => by omega
  | x :: xs, n + 1, r, h, hN, hn => by
    obtain ⟨h1, h2, h3⟩ := h x (by simp)
    rw [List.flatMap_cons, List.length_append] at hN hn
    have h4 := List.length_pos_iff.2 h2
    rw [List.flatMap_cons, List.append_assoc, manyT, if_pos rfl, hdT_app h2, if_neg h3]
    rw [h1 (xs.flatMap W ++ rbr :: r) (by rw [List.length_append, List.length_cons]; omega)]
    dsimp only
    rw [many_rd xs n r (fun y hy => h y (by simp [hy])) (by omega) (by omega)]
theorem wls_eq (xs : List Tm) : Tm.wls xs = xs.flatMap Tm.wl := by
  induction xs with
  | nil => rfl
  | cons x r ih => rw [Tm.wls, ih, List.flatMap_cons]
theorem cwls_eq (xs : List Cs) : Cs.wls xs = xs.flatMap Cs.wl := by
  induction xs with
  | nil => rfl
  | cons x r ih => rw [Cs.wls, ih, List.flatMap_cons]
theorem names_rd {N : Nat} (ws : List ByteArray) (h : ∀ w ∈ ws, nameB w = true) (r : List ByteArray) (hl : ws.length + 1 + r.length < N) : manyT namT N (ws ++ rbr :: r, 0) = (ws, (r, 0)) := by
  have := many_rd (N := N) (one := namT) (W := fun w => [w]) ws N r (fun w hw => ⟨fun r _ => nam_rd (h w hw) r, by simp, fun e => by
    have h1 := h w hw
    have e : w = rbr := e
    rw [e] at h1
    exact absurd h1 (by decide)⟩)
  rw [List.flatMap_singleton'] at this
  exact this hl (by omega)
theorem wd_ne {w : ByteArray} (h : Wd w.data.toList) : w ≠ lbr ∧ w ≠ rbr := by
  refine ⟨fun e => ?_, fun e => ?_⟩
  · rw [e] at h
    exact absurd (h.2 40 (by decide)) (by decide)
  · rw [e] at h
    exact absurd (h.2 41 (by decide)) (by decide)
theorem sharp_name {w : ByteArray} (h : nameB w = true) : sharp w = false := by
  unfold sharp
  cases hw : w.data.toList with
  | nil => rfl
  | cons c r =>
    have h0 : w[0]? = some c := by
      have hz : 0 < w.size := by rw [bsize, hw]; simp
      rw [getElem?_pos w 0 hz]
      congr 1
      have : w.data.toList[0]'(by rw [hw]; simp) = c := by simp [hw]
      exact this
    unfold nameB at h
    simp only [Bool.and_eq_true, List.all_eq_true, decide_eq_true_eq] at h
    have h4 := h.1 0 (List.mem_range.2 (by omega))
    rw [h0] at h4
    dsimp only at h4 ⊢
    unfold chOk at h4
    generalize c.toNat = n at h4 ⊢
    simp at h4 ⊢
    omega
theorem prim_name {w : ByteArray} (h : nameB w = true) : primI w primsL 0 0 = 0 := by
  have hne : ∀ x ∈ primsL, ¬ w = x := fun x hx e => by
    subst e
    revert h
    simp only [primsL, List.mem_cons, List.not_mem_nil, or_false] at hx
    rcases hx with rfl | rfl | rfl | rfl | rfl <;> decide
  have : ∀ (l : List ByteArray) (i : Int), (∀ x ∈ l, ¬ w = x) → primI w l i 0 = 0 := by
    intro l
    induction l with
    | nil => intro i _; rfl
    | cons x l ih =>
      intro i hl
      rw [primI, if_neg (hl x (by simp)), ih _ fun y hy => hl y (by simp [hy])]
  exact this _ _ hne
theorem wl_hd {N d : Nat} : ∀ {x : Tm}, x.Wp N d → x.wl ≠ [] ∧ hdT x.wl ≠ rbr := by
  intro x h
  cases d with
  | zero => exact absurd h id
  | succ d =>
    obtain ⟨k, n, a, b, vs, xs, cs⟩ := x
    obtain ⟨-, h⟩ := h
    rcases h with ⟨rfl, h⟩ | ⟨rfl, h⟩ | ⟨rfl, h⟩ | ⟨rfl, h⟩ | ⟨rfl, h⟩ | ⟨rfl, h⟩ | ⟨rfl, h⟩
    · refine ⟨by simp [Tm.wl], ?_⟩
      have h1 : hdT (Tm.mk 1 n a b vs xs cs).wl = a := by rw [Tm.wl]; rfl
      rw [h1]
      exact (wd_ne (nameB_wd h.2.1)).2
    · refine ⟨by simp [Tm.wl], ?_⟩
      have h1 : hdT (Tm.mk 2 n a b vs xs cs).wl = itoaB n := by rw [Tm.wl]; rfl
      rw [h1]
      exact (wd_ne (by rw [itoaB_list]; exact itoa_wd n)).2
    all_goals
      rw [Tm.wl]
      simp [hdT]
      try decide
theorem ts_rd (N : Nat) {M : Nat} : ∀ (d : Nat) (x : Tm), x.Wp M d → Rd N (Tm.ts N d) x.wl x
  | 0, x, h => absurd h id
  | d + 1, x, h => by
    have ih := ts_rd N (M := M) d
    have ihm : ∀ (xs : List Tm) (r : List ByteArray), (∀ x ∈ xs, x.Wp M d) → (Tm.wls xs).length + 1 + r.length < N → manyT (Tm.ts N d) N (Tm.wls xs ++ rbr :: r, 0) = (xs, (r, 0)) := fun xs r hx hl => by
      rw [wls_eq] at hl ⊢
      exact many_rd xs N r (fun x hm => ⟨ih x (hx x hm), wl_hd (hx x hm)⟩) hl (by omega)
    obtain ⟨k, n, a, b, vs, xs, cs⟩ := x
    obtain ⟨⟨rfl, rfl⟩, h⟩ := h
    intro r hl
    rw [Tm.ts]
    rcases h with ⟨rfl, rfl, ha, hna, rfl, rfl⟩ | ⟨rfl, rfl, hn, rfl, rfl⟩ | ⟨rfl, rfl, hn, ⟨-, hx⟩, rfl⟩ | ⟨rfl, rfl, ha, h1, h2, ⟨-, hx⟩, rfl⟩ | ⟨rfl, rfl, hn, ⟨x, y, rfl, hx, hy⟩, rfl⟩ | ⟨rfl, rfl, ha, ⟨x, y, rfl, hx, hy⟩, rfl⟩ | ⟨rfl, rfl, rfl, ⟨x, rfl, hx⟩, ⟨-, hc⟩⟩
    · rw [wl1, List.singleton_append]
      rw [hd_cons _ _ 0]
      rw [if_neg (wd_ne (nameB_wd ha)).1]
      unfold atomT
      rw [hd_cons _ _ 0]
      rw [if_neg (by rw [hna]; simp), if_pos ha]; rfl
    · rw [wl2, List.singleton_append]
      rw [hd_cons _ _ 0]
      rw [if_neg (wd_ne (by rw [itoaB_list]; exact itoa_wd n)).1]
      unfold atomT
      rw [hd_cons _ _ 0]
      rw [hn]
      rfl
    · rw [wl3] at hl ⊢
      simp only [List.length_cons, List.length_append, List.length_nil] at hl
      simp only [List.cons_append, List.append_assoc, List.singleton_append, List.nil_append]
      rw [hd_cons _ _ 0]
      rw [if_pos rfl]
      have e : nxT (lbr :: tagW n :: (Tm.wls xs ++ rbr :: r), 0) = (tagW n :: (Tm.wls xs ++ rbr :: r), 0) := rfl
      have hs : sharp (tagW n) = true := by unfold sharp; rw [tagW_list]; rfl
      rw [e]
      unfold formT
      rw [hd_cons _ _ 0]
      rw [if_pos hs, tag_rd hn]
      dsimp only
      rw [ihm xs r hx (by omega)]
    · rw [wl4] at hl ⊢
      simp only [List.length_cons, List.length_append, List.length_nil] at hl
      simp only [List.cons_append, List.append_assoc, List.singleton_append, List.nil_append]
      rw [hd_cons _ _ 0]
      rw [if_pos rfl]
      have e : nxT (lbr :: a :: (Tm.wls xs ++ rbr :: r), 0) = (a :: (Tm.wls xs ++ rbr :: r), 0) := rfl
      rw [e]
      unfold formT
      rw [hd_cons _ _ 0]
      rw [if_neg (by rw [sharp_name ha]; simp), if_neg h1, if_neg h2, if_neg (by rw [prim_name ha]; omega), nam_rd ha]
      dsimp only
      rw [ihm xs r hx (by omega)]
    · rw [wl5] at hl ⊢
      simp only [Tm.wls, List.append_nil, List.length_cons, List.length_append, List.length_nil] at hl
      simp only [Tm.wls, List.append_nil, List.cons_append, List.append_assoc, List.singleton_append, List.nil_append]
      rw [hd_cons _ _ 0]
      rw [if_pos rfl]
      have e : nxT (lbr :: prW n :: (x.wl ++ (y.wl ++ rbr :: r)), 0) = (prW n :: (x.wl ++ (y.wl ++ rbr :: r)), 0) := rfl
      rw [e]
      have hp : sharp (prW n) = false ∧ prW n ≠ wLet ∧ prW n ≠ wMatch ∧ primI (prW n) primsL 0 0 = n := by
        have : n = 1 ∨ n = 2 ∨ n = 3 ∨ n = 4 ∨ n = 5 := by omega
        rcases this with rfl | rfl | rfl | rfl | rfl <;> decide
      unfold formT
      rw [hd_cons _ _ 0]
      rw [if_neg (by rw [hp.1]; simp), if_neg hp.2.1, if_neg hp.2.2.1, hp.2.2.2, if_pos (by omega)]
      have e2 : nxT (prW n :: (x.wl ++ (y.wl ++ rbr :: r)), 0) = (x.wl ++ (y.wl ++ rbr :: r), 0) := rfl
      rw [e2, ih x hx _ (by simp; omega)]
      dsimp only
      rw [ih y hy _ (by simp; omega)]
      dsimp only
      rw [want_rd]
    · rw [wl6] at hl ⊢
      simp only [Tm.wls, List.append_nil, List.length_cons, List.length_append, List.length_nil] at hl
      simp only [Tm.wls, List.append_nil, List.cons_append, List.append_assoc, List.singleton_append, List.nil_append]
      rw [hd_cons _ _ 0]
      rw [if_pos rfl]
      have e : nxT (lbr :: wLet :: a :: (x.wl ++ (y.wl ++ rbr :: r)), 0) = (wLet :: a :: (x.wl ++ (y.wl ++ rbr :: r)), 0) := rfl
      rw [e]
      unfold formT
      rw [hd_cons _ _ 0]
      rw [if_neg (by decide), if_pos rfl]
      have e2 : nxT (wLet :: a :: (x.wl ++ (y.wl ++ rbr :: r)), 0) = (a :: (x.wl ++ (y.wl ++ rbr :: r)), 0) := rfl
      rw [e2, nam_rd ha]
      dsimp only
      rw [ih x hx _ (by simp; omega)]
      dsimp only
      rw [ih y hy _ (by simp; omega)]
      dsimp only
      rw [want_rd]
    · rw [wl7] at hl ⊢
      simp only [Tm.wls, List.append_nil, List.length_cons, List.length_append, List.length_nil] at hl
      simp only [Tm.wls, List.append_nil, List.cons_append, List.append_assoc, List.singleton_append, List.nil_append]
      rw [hd_cons _ _ 0]
      rw [if_pos rfl]
      have e : nxT (lbr :: wMatch :: (x.wl ++ (Cs.wls cs ++ rbr :: r)), 0) = (wMatch :: (x.wl ++ (Cs.wls cs ++ rbr :: r)), 0) := rfl
      rw [e]
      unfold formT
      rw [hd_cons _ _ 0]
      rw [if_neg (by decide), if_neg (by decide), if_pos rfl]
      have e2 : nxT (wMatch :: (x.wl ++ (Cs.wls cs ++ rbr :: r)), 0) = (x.wl ++ (Cs.wls cs ++ rbr :: r), 0) := rfl
      rw [e2, ih x hx _ (by simp; omega)]
      dsimp only
      have hcs : manyT (casT N (Tm.ts N d)) N (Cs.wls cs ++ rbr :: r, 0) = (cs, (r, 0)) := by
        rw [cwls_eq] at hl ⊢
        refine many_rd (N := N) cs N r (fun c hm => ?_) (by omega) (by omega)
        obtain ⟨t, ws, y, rfl, ht, ⟨-, hws⟩, hy⟩ := hc c hm
        refine ⟨fun q hq => ?_, by simp [Cs.wl], by simp [Cs.wl, hdT]⟩
        rw [Cs.wl] at hq ⊢
        simp only [List.length_cons, List.length_append, List.length_nil] at hq
        simp only [List.cons_append, List.append_assoc, List.singleton_append, List.nil_append]
        unfold casT
        rw [want_rd, tag_rd ht]
        dsimp only
        rw [want_rd, names_rd ws hws _ (by simp; omega)]
        dsimp only
        rw [ih y hy _ (by simp; omega)]
        dsimp only
        rw [want_rd]
      rw [hcs]
def Fn.wl (f : Fn) : List ByteArray := lbr :: wFn :: f.name :: lbr :: (f.params ++ (rbr :: (f.body.wl ++ [rbr])))
theorem fn_rd (N : Nat) {M : Nat} {f : Fn} (h : f.Wp M) : Rd N (fnT N) f.wl f := by
  obtain ⟨nm, ws, y⟩ := f
  obtain ⟨h1, ⟨-, h2⟩, h3⟩ := h
  intro r hl
  unfold Fn.wl at hl ⊢
  simp only [List.length_cons, List.length_append, List.length_nil] at hl
  simp only [List.cons_append, List.append_assoc, List.singleton_append, List.nil_append]
  unfold fnT
  rw [want_rd, want_rd, nam_rd h1]
  dsimp only
  rw [want_rd, names_rd ws h2 _ (by simp; omega)]
  dsimp only
  rw [ts_rd N 25 y h3 _ (by simp; omega)]
  dsimp only
  rw [want_rd]
theorem fns_rd (N : Nat) {M : Nat} : ∀ (l : List Fn) (n : Nat), (∀ f ∈ l, f.Wp M) → (l.flatMap Fn.wl).length < N → (l.flatMap Fn.wl).length < n → fnsT N n (l.flatMap Fn.wl, 0) = (l, ([], 0))
  | [], n, _, _, _ => fns_nil N n
  | f :: l, 0, _, _, hn => by omega
  | f :: l, n + 1, h, hN, hn => by
    rw [List.flatMap_cons, List.length_append] at hN hn
    have h4 : 0 < f.wl.length := by simp [Fn.wl]
    rw [List.flatMap_cons, fnsT, if_pos rfl, if_neg (by intro e; have := congrArg List.length e; simp at this; simp [Fn.wl] at this)]
    rw [fn_rd N (h f (by simp)) _ (by omega)]
    dsimp only
    rw [fns_rd N l n (fun g hg => h g (by simp [hg])) (by omega) (by omega)]

def lexB (l : List UInt8) : List ByteArray := (lex l).map bW
theorem lexB_l (r : List UInt8) : lexB (40 :: r) = lbr :: lexB r := by unfold lexB; rw [lex_br rfl]; rfl
theorem lexB_r (r : List UInt8) : lexB (41 :: r) = rbr :: lexB r := by unfold lexB; rw [lex_br rfl]; rfl
theorem lexB_b (r : List UInt8) : lexB (32 :: r) = lexB r := by unfold lexB; rw [lex_bl rfl]
theorem lexB_n (r : List UInt8) : lexB (10 :: r) = lexB r := by unfold lexB; rw [lex_bl rfl]
theorem lexB_word {w : ByteArray} (h : Wd w.data.toList) {r : List UInt8} (hr : sepH r = true) : lexB (w.data.toList ++ r) = w :: lexB r := by
  unfold lexB
  rw [lex_word _ _ h hr, List.map_cons, bW_list]
def LexAs (l : List UInt8) (W : List ByteArray) : Prop := ∀ r, sepH r = true → lexB (l ++ r) = W ++ lexB r
theorem lexAs_word {w : ByteArray} (h : Wd w.data.toList) : LexAs w.data.toList [w] := fun r hr => lexB_word h hr
def spl {α : Type} (f : α → ByteArray) (xs : List α) : List UInt8 := xs.flatMap fun x => 32 :: (f x).data.toList
theorem flat_lex {α : Type} (f : α → ByteArray) (W : α → List ByteArray) : ∀ (xs : List α) (r : List UInt8), (∀ x ∈ xs, LexAs (f x).data.toList (W x)) → sepH r = true → lexB (spl f xs ++ r) = xs.flatMap W ++ lexB r ∧ sepH (spl f xs ++ r) = true
  | [], r, _, hr => ⟨rfl, hr⟩
  | x :: xs, r, h, hr => by
    obtain ⟨h1, h2⟩ := flat_lex f W xs r (fun y hy => h y (by simp [hy])) hr
    have e : spl f (x :: xs) ++ r = 32 :: ((f x).data.toList ++ (spl f xs ++ r)) := by simp [spl]
    rw [e, lexB_b, h x (by simp) _ h2, h1, List.flatMap_cons, List.append_assoc]
    exact ⟨rfl, rfl⟩
theorem joinB_list : ∀ (ws : List ByteArray) (i : Nat) (o : ByteArray), 0 < i → (joinB i ws o).data.toList = o.data.toList ++ spl id ws
  | [], i, o, _ => by rw [joinB]; simp [spl]
  | w :: ws, i, o, h => by
    rw [joinB, if_pos h, joinB_list ws (i + 1) _ (by omega), ByteArray.data_append, ByteArray.data_append, Array.toList_append, Array.toList_append]
    simp [spl]
theorem join0_list (ws : List ByteArray) (o : ByteArray) (hw : ∀ w ∈ ws, Wd w.data.toList) : ∃ l, (joinB 0 ws o).data.toList = o.data.toList ++ l ∧ LexAs l ws := by
  cases ws with
  | nil => exact ⟨[], by rw [joinB, List.append_nil], fun r _ => rfl⟩
  | cons w ws =>
    refine ⟨w.data.toList ++ spl id ws, ?_, fun r hr => ?_⟩
    · rw [joinB, if_neg (by omega), joinB_list ws _ _ (by omega), ByteArray.data_append, Array.toList_append, List.append_assoc]
    · obtain ⟨h1, h2⟩ := flat_lex id (fun w => [w]) ws r (fun x hx => lexAs_word (hw x (by simp [hx]))) hr
      rw [List.append_assoc, lexB_word (hw w (by simp)) h2, h1, List.flatMap_singleton', List.cons_append]
theorem spl_map {α : Type} (f : α → ByteArray) (xs : List α) : spl id (xs.map f) = spl f xs := by
  induction xs with
  | nil => rfl
  | cons x r ih =>
    have e1 : spl id (List.map f (x :: r)) = 32 :: ((f x).data.toList ++ spl id (r.map f)) := by simp [spl]
    have e2 : spl f (x :: r) = 32 :: ((f x).data.toList ++ spl f r) := by simp [spl]
    rw [e1, e2, ih]
theorem shL_list (xs : List Tm) (o : ByteArray) : (Tm.shL xs o).data.toList = o.data.toList ++ spl Tm.sh xs := by
  rw [← joinB_sh xs 1 o (by omega), joinB_list _ _ _ (by omega), spl_map]
theorem cshL_list (cs : List Cs) (o : ByteArray) : (Cs.shL cs o).data.toList = o.data.toList ++ spl Cs.wd cs := by
  rw [← joinB_wd cs 1 o (by omega), joinB_list _ _ _ (by omega), spl_map]
theorem tagW_wd (n : Int) : Wd (tagW n).data.toList := by
  rw [tagW_list]
  obtain ⟨h1, h2⟩ := itoa_wd n
  refine ⟨by simp, fun c hc => ?_⟩
  rcases List.mem_cons.1 hc with rfl | hc
  · rfl
  · exact h2 c hc
theorem sep_r (r : List UInt8) : sepH (41 :: r) = true := rfl
theorem sh_lex {N : Nat} : ∀ (d : Nat) (x : Tm), x.Wp N d → LexAs x.sh.data.toList x.wl
  | 0, x, h => absurd h id
  | d + 1, x, h => by
    have ih := sh_lex (N := N) d
    have ihm : ∀ (xs : List Tm) (r : List UInt8), (∀ x ∈ xs, x.Wp N d) → sepH r = true → lexB (spl Tm.sh xs ++ r) = Tm.wls xs ++ lexB r ∧ sepH (spl Tm.sh xs ++ r) = true := fun xs r hx hr => by
      rw [wls_eq]
      exact flat_lex Tm.sh Tm.wl xs r (fun x hm => ih x (hx x hm)) hr
    obtain ⟨k, n, a, b, vs, xs, cs⟩ := x
    obtain ⟨⟨rfl, rfl⟩, h⟩ := h
    intro r hr
    have hpl : (Tm.shL xs ⟨#[]⟩).data.toList = spl Tm.sh xs := by rw [shL_list]; rfl
    rcases h with ⟨rfl, rfl, ha, hna, rfl, rfl⟩ | ⟨rfl, rfl, hn, rfl, rfl⟩ | ⟨rfl, rfl, hn, ⟨-, hx⟩, rfl⟩ | ⟨rfl, rfl, ha, h1, h2, ⟨-, hx⟩, rfl⟩ | ⟨rfl, rfl, hn, hxy, rfl⟩ | ⟨rfl, rfl, ha, hxy, rfl⟩ | ⟨rfl, rfl, rfl, hx1, ⟨-, hc⟩⟩
    · have e : (Tm.mk 1 0 a .empty [] [] []).sh = a := by rw [Tm.sh]; rfl
      rw [wl1, e]
      exact lexB_word (nameB_wd ha) hr
    · have e : (Tm.mk 2 n .empty .empty [] [] []).sh = itoaB n := by rw [Tm.sh]; rfl
      rw [wl2, e]
      exact lexB_word (by rw [itoaB_list]; exact itoa_wd n) hr
    · have e : (Tm.mk 3 n .empty .empty [] xs []).sh = ((⟨#[40]⟩ ++ (⟨#[35]⟩ ++ itoaB n)) ++ Tm.shL xs ⟨#[]⟩) ++ ⟨#[41]⟩ := by rw [Tm.sh]; rfl
      have e2 : (Tm.mk 3 n .empty .empty [] xs []).sh.data.toList ++ r = 40 :: ((tagW n).data.toList ++ (spl Tm.sh xs ++ 41 :: r)) := by
        rw [e]
        simp only [ByteArray.data_append, Array.toList_append, hpl, tagW]
        simp
      obtain ⟨h1, h2⟩ := ihm xs (41 :: r) hx (sep_r r)
      rw [wl3, e2, lexB_l, lexB_word (tagW_wd n) h2, h1, lexB_r]
      simp
    · have e : (Tm.mk 4 0 a .empty [] xs []).sh = ((⟨#[40]⟩ ++ a) ++ Tm.shL xs ⟨#[]⟩) ++ ⟨#[41]⟩ := by rw [Tm.sh]; rfl
      have e2 : (Tm.mk 4 0 a .empty [] xs []).sh.data.toList ++ r = 40 :: (a.data.toList ++ (spl Tm.sh xs ++ 41 :: r)) := by
        rw [e]
        simp only [ByteArray.data_append, Array.toList_append, hpl]
        simp
      obtain ⟨h3, h4⟩ := ihm xs (41 :: r) hx (sep_r r)
      rw [wl4, e2, lexB_l, lexB_word (nameB_wd ha) h4, h3, lexB_r]
      simp
    · obtain ⟨x, y, hxs, hx, hy⟩ := hxy
      have hx : ∀ z ∈ xs, z.Wp N d := fun z hz => by
        rw [hxs] at hz
        simp only [List.mem_cons, List.not_mem_nil, or_false] at hz
        rcases hz with rfl | rfl <;> assumption
      have e : (Tm.mk 5 n .empty .empty [] xs []).sh = ((⟨#[40]⟩ ++ prW n) ++ Tm.shL xs ⟨#[]⟩) ++ ⟨#[41]⟩ := by
        rw [Tm.sh, shK, if_neg (by omega), if_neg (by omega), if_neg (by omega), if_neg (by omega), if_pos rfl, if_pos (by omega)]; rfl
      have e2 : (Tm.mk 5 n .empty .empty [] xs []).sh.data.toList ++ r = 40 :: ((prW n).data.toList ++ (spl Tm.sh xs ++ 41 :: r)) := by
        rw [e]
        simp only [ByteArray.data_append, Array.toList_append, hpl]
        simp
      have hw : Wd (prW n).data.toList := by
        have : n = 1 ∨ n = 2 ∨ n = 3 ∨ n = 4 ∨ n = 5 := by omega
        unfold Wd
        rcases this with rfl | rfl | rfl | rfl | rfl <;> decide
      obtain ⟨h3, h4⟩ := ihm xs (41 :: r) hx (sep_r r)
      rw [wl5, e2, lexB_l, lexB_word hw h4, h3, lexB_r]
      simp
    · obtain ⟨x, y, hxs, hx, hy⟩ := hxy
      have hx : ∀ z ∈ xs, z.Wp N d := fun z hz => by
        rw [hxs] at hz
        simp only [List.mem_cons, List.not_mem_nil, or_false] at hz
        rcases hz with rfl | rfl <;> assumption
      have e : (Tm.mk 6 0 a .empty [] xs []).sh = ((⟨#[40, 108, 101, 116, 32]⟩ ++ a) ++ Tm.shL xs ⟨#[]⟩) ++ ⟨#[41]⟩ := by rw [Tm.sh]; rfl
      have e2 : (Tm.mk 6 0 a .empty [] xs []).sh.data.toList ++ r = 40 :: (wLet.data.toList ++ (32 :: (a.data.toList ++ (spl Tm.sh xs ++ 41 :: r)))) := by
        rw [e]
        simp only [ByteArray.data_append, Array.toList_append, hpl]
        simp
      have hw : Wd wLet.data.toList := by unfold Wd; decide
      obtain ⟨h3, h4⟩ := ihm xs (41 :: r) hx (sep_r r)
      rw [wl6, e2, lexB_l, lexB_word hw rfl, lexB_b, lexB_word (nameB_wd ha) h4, h3, lexB_r]
      simp
    · obtain ⟨x, hxs, hx⟩ := hx1
      have hx : ∀ z ∈ xs, z.Wp N d := fun z hz => by
        rw [hxs] at hz
        simp only [List.mem_cons, List.not_mem_nil, or_false] at hz
        subst hz
        assumption
      have e : (Tm.mk 7 0 .empty .empty [] xs cs).sh = Cs.shL cs (⟨#[40, 109, 97, 116, 99, 104]⟩ ++ Tm.shL xs ⟨#[]⟩) ++ ⟨#[41]⟩ := by rw [Tm.sh]; rfl
      have e2 : (Tm.mk 7 0 .empty .empty [] xs cs).sh.data.toList ++ r = 40 :: (wMatch.data.toList ++ (spl Tm.sh xs ++ (spl Cs.wd cs ++ 41 :: r))) := by
        rw [e]
        rw [ByteArray.data_append, Array.toList_append, cshL_list]
        simp only [ByteArray.data_append, Array.toList_append, hpl]
        simp
      have hw : Wd wMatch.data.toList := by unfold Wd; decide
      obtain ⟨h5, h6⟩ := flat_lex Cs.wd Cs.wl cs (41 :: r) (fun c hm => by
        obtain ⟨t, ws, y, rfl, ht, ⟨-, hws⟩, hy⟩ := hc c hm
        obtain ⟨l, hl1, hl2⟩ := join0_list ws ⟨#[]⟩ fun w hw => nameB_wd (hws w hw)
        intro q hq
        have e3 : (Cs.mk t ws y).wd.data.toList ++ q = 40 :: ((tagW t).data.toList ++ (32 :: (40 :: (l ++ (41 :: (32 :: (y.sh.data.toList ++ (41 :: q)))))))) := by
          rw [Cs.wd]
          simp only [ByteArray.data_append, Array.toList_append, hl1, tagW]
          simp
        rw [e3, lexB_l, lexB_word (tagW_wd t) rfl, lexB_b, lexB_l, hl2 _ (sep_r _), lexB_r, lexB_b, ih y hy _ (sep_r _), lexB_r, Cs.wl]
        simp) (sep_r r)
      obtain ⟨h3, h4⟩ := ihm xs _ hx h6
      rw [wl7, e2, lexB_l, lexB_word hw h4, h3, h5, lexB_r, cwls_eq]
      simp
theorem fshL_list : ∀ (l : List Fn) (o : ByteArray), (Fn.shL l o).data.toList = o.data.toList ++ l.flatMap fun f => f.tx.data.toList
  | [], o => by rw [Fn.shL]; simp
  | f :: l, o => by
    rw [fsh_step, fshL_list l, ByteArray.data_append, Array.toList_append, List.append_assoc, List.flatMap_cons]
theorem fn_lex {N : Nat} {f : Fn} (h : f.Wp N) (r : List UInt8) : lexB (f.tx.data.toList ++ r) = f.wl ++ lexB r := by
  obtain ⟨nm, ws, y⟩ := f
  obtain ⟨h1, ⟨-, h2⟩, h3⟩ := h
  obtain ⟨l, hl1, hl2⟩ := join0_list ws ⟨#[]⟩ fun w hw => nameB_wd (h2 w hw)
  have hw : Wd wFn.data.toList := by unfold Wd; decide
  have e3 : (Fn.mk nm ws y).tx.data.toList ++ r = 40 :: (wFn.data.toList ++ (32 :: (nm.data.toList ++ (32 :: (40 :: (l ++ (41 :: (32 :: (y.sh.data.toList ++ (41 :: (10 :: r))))))))))) := by
    rw [Fn.tx]
    simp only [ByteArray.data_append, Array.toList_append, hl1]
    simp
  rw [e3, lexB_l, lexB_word hw rfl, lexB_b, lexB_word (nameB_wd h1) rfl, lexB_b, lexB_l, hl2 _ (sep_r _), lexB_r, lexB_b, sh_lex 25 y h3 _ (sep_r _), lexB_r, lexB_n, Fn.wl]
  simp
theorem fns_lex {N : Nat} : ∀ (l : List Fn), (∀ f ∈ l, f.Wp N) → lexB (l.flatMap fun f => f.tx.data.toList) = l.flatMap Fn.wl
  | [], _ => rfl
  | f :: l, h => by
    rw [List.flatMap_cons, fn_lex (h f (by simp)), fns_lex l (fun g hg => h g (by simp [hg])), List.flatMap_cons]
theorem parse_wp {s : ByteArray} {a : List Fn} (h : parseT s = (a, 0)) : s.size ≤ 1500 ∧ a.length ≤ s.size + 2 ∧ ∀ f ∈ a, f.Wp (s.size + 2) := by
  unfold parseT at h
  split at h
  · exact absurd (Prod.ext_iff.1 h).2 (by simp)
  · split at h
    · rename_i hs h0
      have := (Prod.ext_iff.1 h).1
      dsimp only at this
      rw [← this]
      exact ⟨by omega, fns_gd _ _ _ h0⟩
    · rename_i h0; exact absurd (Prod.ext_iff.1 h).2 h0
theorem parse_fnsOk {s : ByteArray} {a : List Fn} (h : parseT s = (a, 0)) : FnsOk a := by
  obtain ⟨h1, h2, h3⟩ := parse_wp h
  exact ⟨by omega, fun f hf => (h3 f hf).ok (by omega)⟩
theorem parse_turn {s : ByteArray} {a : List Fn} (h : parseT s = (a, 0)) (hp : ¬ 1500 < (Fn.shL a ⟨#[]⟩).size) : parseT (Fn.shL a ⟨#[]⟩) = (a, 0) := by
  have hg := (parse_wp h).2.2
  have hw : wds (Fn.shL a ⟨#[]⟩) 0 = a.flatMap Fn.wl := by
    rw [wds_lex, fshL_list]
    exact fns_lex a hg
  have hl := wds_length (Fn.shL a ⟨#[]⟩)
  rw [hw] at hl
  have hr := fns_rd ((Fn.shL a ⟨#[]⟩).size + 2) a ((Fn.shL a ⟨#[]⟩).size + 2) hg hl hl
  unfold parseT
  rw [if_neg hp, hw, hr, if_pos rfl]

def Sp {α : Type} (f : TS → α × TS) (w : α → Nat) : Prop := ∀ p, (f p).2.2 = 0 → w (f p).1 + 100 * (f p).2.1.length ≤ 100 * p.1.length
theorem Sp.bnd {α β : Type} {f : TS → α × TS} {g : α → TS → β × TS} {wf : α → Nat} {w : β → Nat} (hf : Sp f wf) (hs : ∀ a p, (g a p).2.2 = 0 → p.2 = 0) (hg : ∀ a, Sp (g a) (fun b => w b - wf a)) : Sp (bnd f g) w := fun p h0 => by
  have h1 := hf p (hs _ _ h0)
  have h2 := hg _ _ h0
  unfold Go.Proofs.YtapiiklnnkkdlaaDoor.bnd
  dsimp only at h2
  omega
theorem Sp.fin {β : Type} {x : β} {f : TS → TS} {w : β → Nat} (hf : Sp (uT f) (fun _ => 100)) (h : w x ≤ 100) : Sp (finT x f) w := fun p h0 => by
  have := hf p h0
  unfold finT
  unfold uT at this
  dsimp only at this ⊢
  omega
theorem Sp.map {α β : Type} {f : TS → α × TS} {k : α → β} {wf : α → Nat} {w : β → Nat} (hf : Sp f wf) (h : ∀ a, w (k a) ≤ wf a) : Sp (mapT k f) w := fun p h0 => by
  have := hf p h0
  have h2 := h (f p).1
  unfold mapT
  dsimp only
  omega
theorem nx_sp : Sp (uT nxT) (fun _ => 100) := fun p h0 => by
  obtain ⟨l, e⟩ := p
  cases l with
  | nil => exact absurd h0 (badE_ne (by decide))
  | cons w l => simp [uT, nxT]; omega
theorem want_sp (w : ByteArray) : Sp (uT (wantT w)) (fun _ => 100) := fun p h0 => by
  unfold uT wantT at h0 ⊢
  dsimp only at h0 ⊢
  split at h0
  · rename_i h; rw [if_pos h]; exact nx_sp p h0
  · exact absurd h0 (badE_ne (by decide))
theorem nam_sp : Sp namT (fun w => w.size + 90) := fun p h0 => by
  have hn := nam_gd p h0
  have h8 := nameB_le8 hn
  unfold namT at h0 h8 ⊢
  dsimp only at h0 h8 ⊢
  split at h0
  · rename_i h
    rw [if_pos h]
    have := nx_sp p h0
    unfold uT at this
    dsimp only at this
    omega
  · exact absurd h0 (badE_ne (by decide))
theorem tag_sp : Sp tagT (fun _ => 100) := fun p h0 => by
  unfold tagT at h0 ⊢
  split at h0
  · rename_i h1
    rw [if_pos h1]
    dsimp only at h0 ⊢
    split at h0
    · rename_i h2
      rw [if_pos h2]
      exact nx_sp p h0
    · exact absurd h0 (badE_ne (by decide))
  · exact absurd h0 (badE_ne (by decide))
theorem many_sp {α : Type} {one : TS → α × TS} {w : α → Nat} {W : List α → Nat} (hs : ∀ p, (one p).2.2 = 0 → p.2 = 0) (h : Sp one w) (h0 : W [] = 0) (hc : ∀ x r, W (x :: r) ≤ w x + W r) : ∀ n, Sp (manyT one n) W
  | 0, p, _ => by rw [manyT]; dsimp only; omega
  | n + 1, p, he => by
    rw [manyT] at he ⊢
    split
    · rename_i h1
      rw [if_pos h1] at he
      split
      · rename_i h2
        rw [if_pos h2] at he
        have := want_sp rbr p he
        unfold uT at this
        dsimp only at this ⊢
        omega
      · rename_i h2
        rw [if_neg h2] at he
        dsimp only at he ⊢
        have g1 := many_sp hs h h0 hc n _ he
        have g2 := h p (many_st hs _ _ he)
        have g3 := hc (one p).1 (manyT one n (one p).2).1
        omega
    · rename_i h1
      rw [if_neg h1] at he
      have := want_sp rbr p he
      unfold uT at this
      dsimp only at this ⊢
      omega
theorem names_sp (N : Nat) : Sp (manyT namT N) strW := many_sp (nam_loc N N).st nam_sp rfl (fun x r => by rw [strW]; omega) N
theorem terms_sp {one : TS → Tm × TS} (hs : ∀ p, (one p).2.2 = 0 → p.2 = 0) (h : Sp one (fun x => x.wt + 1)) (N : Nat) : Sp (manyT one N) Tm.wtL := many_sp hs h rfl (fun x r => by rw [Tm.wtL]; omega) N
theorem cas_sp {N : Nat} {one : TS → Tm × TS} (hl : Loc N N one one) (h : Sp one (fun x => x.wt + 1)) : Sp (casT N one) Cs.wt :=
  (want_sp lbr).bnd (f := uT (wantT lbr)) (g := fun _ => bnd tagT fun t => bnd (uT (wantT lbr)) fun _ => bnd (manyT namT N) fun ws => bnd one fun y => finT (Cs.mk t ws y) (wantT rbr))
    (fun _ => ((tag_loc N N).bnd fun t => (want_loc lbr N N).bnd fun _ => (many_loc (nam_loc N N)).bnd fun ws => hl.bnd fun y => (want_loc rbr N N).fin (Cs.mk t ws y)).st) fun _ =>
  tag_sp.bnd (fun t => ((want_loc lbr N N).bnd fun _ => (many_loc (nam_loc N N)).bnd fun ws => hl.bnd fun y => (want_loc rbr N N).fin (Cs.mk t ws y)).st) fun t =>
  (want_sp lbr).bnd (fun _ => ((many_loc (nam_loc N N)).bnd fun ws => hl.bnd fun y => (want_loc rbr N N).fin (Cs.mk t ws y)).st) fun _ =>
  (names_sp N).bnd (fun ws => (hl.bnd fun y => (want_loc rbr N N).fin (Cs.mk t ws y)).st) fun ws =>
  h.bnd (fun y => ((want_loc rbr N N).fin (Cs.mk t ws y)).st) fun y => (want_sp rbr).fin (by rw [Cs.wt]; omega)
theorem form_sp {N : Nat} {one : TS → Tm × TS} (hl : Loc N N one one) (h : Sp one (fun x => x.wt + 1)) : ∀ p, (formT N one p).2.2 = 0 → (formT N one p).1.wt + 1 + 100 * (formT N one p).2.1.length ≤ 100 * p.1.length + 100 := by
  have hm := terms_sp hl.st h N
  have hz : ∀ {f : TS → Tm × TS}, Sp f (fun x => x.wt + 1 - 100) → ∀ p, (f p).2.2 = 0 → (f p).1.wt + 1 + 100 * (f p).2.1.length ≤ 100 * p.1.length + 100 := fun hf p h0 => by
    have := hf p h0
    dsimp only at this
    omega
  have e0 : (ByteArray.empty : ByteArray).size = 0 := rfl
  intro p
  rw [formT_eq]
  dsimp only
  suffices hh : ∀ w, Sp (formW N one w) (fun x => x.wt + 1 - 100) from hz (hh _) p
  intro w
  unfold formW
  split
  · exact tag_sp.bnd (fun t => ((many_loc hl).map _).st) fun t => hm.map fun xs => by simp only [Tm.wt, e0, strW, Cs.wtL]; omega
  split
  · exact nx_sp.bnd (f := uT nxT) (g := fun _ => bnd namT fun nm => bnd one fun x => bnd one fun y => finT (Tm.mk 6 0 nm .empty [] [x, y] []) (wantT rbr))
      (fun _ => ((nam_loc N N).bnd fun nm => hl.bnd fun x => hl.bnd fun y => (want_loc rbr N N).fin _).st) fun _ =>
      nam_sp.bnd (fun nm => (hl.bnd fun x => hl.bnd fun y => (want_loc rbr N N).fin _).st) fun nm =>
      h.bnd (fun x => (hl.bnd fun y => (want_loc rbr N N).fin _).st) fun x => h.bnd (fun y => ((want_loc rbr N N).fin _).st) fun y => (want_sp rbr).fin (by simp only [Tm.wt, e0, strW, Cs.wtL, Tm.wtL]; omega)
  split
  · exact nx_sp.bnd (f := uT nxT) (g := fun _ => bnd one fun x => mapT (fun cs => Tm.mk 7 0 .empty .empty [] [x] cs) (manyT (casT N one) N))
      (fun _ => (hl.bnd fun x => (many_loc (cas_loc hl)).map _).st) fun _ =>
      h.bnd (fun x => ((many_loc (cas_loc hl)).map _).st) fun x => (many_sp (W := Cs.wtL) (cas_loc hl).st (cas_sp hl h) rfl (fun x r => by rw [Cs.wtL]; omega) N).map fun cs => by simp only [Tm.wt, e0, strW, Tm.wtL]; omega
  split
  · exact nx_sp.bnd (f := uT nxT) (g := fun _ => bnd one fun x => bnd one fun y => finT (Tm.mk 5 (primI w primsL 0 0) .empty .empty [] [x, y] []) (wantT rbr))
      (fun _ => (hl.bnd fun x => hl.bnd fun y => (want_loc rbr N N).fin _).st) fun _ =>
      h.bnd (fun x => (hl.bnd fun y => (want_loc rbr N N).fin _).st) fun x => h.bnd (fun y => ((want_loc rbr N N).fin _).st) fun y => (want_sp rbr).fin (by simp only [Tm.wt, e0, strW, Cs.wtL, Tm.wtL]; omega)
  · exact nam_sp.bnd (fun nm => ((many_loc hl).map _).st) fun nm => hm.map fun xs => by simp only [Tm.wt, e0, strW, Cs.wtL]; omega
theorem ts_sp (N : Nat) : ∀ n, Sp (Tm.ts N n) (fun x => x.wt + 1)
  | 0, p, h0 => absurd h0 (badE_ne (by decide))
  | n + 1, p, h0 => by
    have e0 : (ByteArray.empty : ByteArray).size = 0 := rfl
    rw [Tm.ts] at h0 ⊢
    split
    · rename_i h1
      rw [if_pos h1] at h0
      have h2 := form_sp (ts_loc N N n) (ts_sp N n) _ h0
      have h3 := nx_sp p ((form_loc (ts_loc N N n)).st _ h0)
      unfold uT at h3
      dsimp only at h3 ⊢
      omega
    · rename_i h1
      rw [if_neg h1] at h0
      unfold atomT at h0 ⊢
      split
      · rename_i h2
        rw [if_pos h2] at h0
        have h3 := nx_sp p h0
        unfold uT at h3
        simp only [Tm.wt, e0, strW, Cs.wtL, Tm.wtL] at h3 ⊢
        omega
      · rename_i h2
        rw [if_neg h2] at h0
        dsimp only at h0 ⊢
        cases h3 : nameB (hdT p.1) with
        | false => rw [h3] at h0; exact absurd h0 (badE_ne (by decide))
        | true =>
          rw [h3, if_pos rfl] at h0
          have h4 := nx_sp p h0
          have h5 := nameB_le8 h3
          unfold uT at h4
          rw [if_pos rfl]
          simp only [Tm.wt, e0, strW, Cs.wtL, Tm.wtL] at h4 ⊢
          omega
theorem fn_sp (N : Nat) : Sp (fnT N) (fun f => 20 + f.name.size + strW f.params + f.body.wt) :=
  (want_sp lbr).bnd (f := uT (wantT lbr)) (g := fun _ => bnd (uT (wantT wFn)) fun _ => bnd namT fun nm => bnd (uT (wantT lbr)) fun _ => bnd (manyT namT N) fun ws => bnd (Tm.ts N 25) fun y => finT (Fn.mk nm ws y) (wantT rbr))
    (fun _ => ((want_loc wFn N N).bnd fun _ => (nam_loc N N).bnd fun nm => (want_loc lbr N N).bnd fun _ => (many_loc (nam_loc N N)).bnd fun ws => (ts_loc N N 25).bnd fun y => (want_loc rbr N N).fin (Fn.mk nm ws y)).st) fun _ =>
  (want_sp wFn).bnd (fun _ => ((nam_loc N N).bnd fun nm => (want_loc lbr N N).bnd fun _ => (many_loc (nam_loc N N)).bnd fun ws => (ts_loc N N 25).bnd fun y => (want_loc rbr N N).fin (Fn.mk nm ws y)).st) fun _ =>
  nam_sp.bnd (fun nm => ((want_loc lbr N N).bnd fun _ => (many_loc (nam_loc N N)).bnd fun ws => (ts_loc N N 25).bnd fun y => (want_loc rbr N N).fin (Fn.mk nm ws y)).st) fun nm =>
  (want_sp lbr).bnd (fun _ => ((many_loc (nam_loc N N)).bnd fun ws => (ts_loc N N 25).bnd fun y => (want_loc rbr N N).fin (Fn.mk nm ws y)).st) fun _ =>
  (names_sp N).bnd (fun ws => ((ts_loc N N 25).bnd fun y => (want_loc rbr N N).fin (Fn.mk nm ws y)).st) fun ws =>
  (ts_sp N 25).bnd (fun y => ((want_loc rbr N N).fin (Fn.mk nm ws y)).st) fun y => (want_sp rbr).fin (by dsimp only; omega)
theorem fns_sp (N : Nat) : ∀ n, Sp (fnsT N n) Fn.wtL
  | 0, p, _ => by rw [fnsT]; dsimp only; rw [Fn.wtL]; omega
  | n + 1, p, h0 => by
    rw [fnsT] at h0 ⊢
    split
    · split
      · dsimp only; rw [Fn.wtL]; omega
      · rename_i h1 h2
        rw [if_pos h1, if_neg h2] at h0
        dsimp only at h0 ⊢
        have g1 := fns_sp N n _ h0
        have g2 := fn_sp N p (fns_st N _ _ h0)
        rw [Fn.wtL]
        dsimp only at g2
        omega
    · dsimp only; rw [Fn.wtL]; omega
theorem parse_wt {s : ByteArray} {a : List Fn} (h : parseT s = (a, 0)) : Fn.wtL a ≤ 1000000 := by
  unfold parseT at h
  split at h
  · exact absurd (Prod.ext_iff.1 h).2 (by simp)
  · split at h
    · rename_i hs h0
      have h1 := (Prod.ext_iff.1 h).1
      dsimp only at h1
      rw [← h1]
      have h2 := fns_sp _ _ _ h0
      have h3 := wds_length s
      dsimp only at h2
      omega
    · rename_i h0; exact absurd (Prod.ext_iff.1 h).2 h0
theorem parseT_err {s : ByteArray} (h : (parseT s).2 ≠ 0) : (parseT s).1 = [] := by
  unfold parseT at h ⊢
  split
  · rfl
  · rename_i h1
    rw [if_neg h1] at h
    split
    · rename_i h2; rw [if_pos h2] at h; exact absurd rfl h
    · rfl
theorem parse_fnsOk1 (s : ByteArray) : FnsOk (parseT s).1 := by
  by_cases h : (parseT s).2 = 0
  · exact parse_fnsOk (Prod.ext rfl h)
  · rw [parseT_err h]
    exact ⟨Nat.zero_le _, fun f hf => by simp at hf⟩
theorem fshL_size : ∀ (l : List Fn) (o : ByteArray), (∀ f ∈ l, f.body.In) → (Fn.shL l o).size ≤ o.size + Fn.wtL l
  | [], o, _ => Nat.le_refl _
  | f :: l, o, h => by
    have g1 := fshL_size l (o ++ f.tx) fun g hg => h g (by simp [hg])
    have g2 := Tm.sh_size f.body (h f (by simp))
    have g3 := joinB_size f.params 0 ⟨#[]⟩
    have e0 : (⟨#[]⟩ : ByteArray).size = 0 := rfl
    have e4 : (⟨#[40, 102, 110, 32]⟩ : ByteArray).size = 4 := rfl
    have g5 : f.tx.size ≤ 20 + f.name.size + strW f.params + f.body.wt := by
      rw [Fn.tx]
      simp only [ByteArray.size_append, e4, zl5, zl6, zl7]
      omega
    rw [fsh_step, Fn.wtL]
    rw [ByteArray.size_append] at g1
    omega

theorem numOk_in {n : Int} (h : numOk n) : inI n := by
  have := numP_in (itoaB n)
  unfold numOk at h
  rwa [h] at this
theorem Tm.Wp.in_ {N : Nat} : ∀ {d : Nat} {x : Tm}, x.Wp N d → x.In
  | 0, x, h => absurd h id
  | d + 1, x, h => by
    obtain ⟨k, n, a, b, vs, xs, cs⟩ := x
    obtain ⟨⟨rfl, rfl⟩, h⟩ := h
    rw [Tm.In, Tm.InL_iff, Cs.InL_iff]
    have i0 : inI 0 := by unfold inI; omega
    rcases h with ⟨rfl, rfl, ha, hna, rfl, rfl⟩ | ⟨rfl, rfl, hn, rfl, rfl⟩ | ⟨rfl, rfl, hn, ⟨hl, hx⟩, rfl⟩ | ⟨rfl, rfl, ha, h1, h2, ⟨hl, hx⟩, rfl⟩ | ⟨rfl, rfl, hn, ⟨x, y, rfl, hx, hy⟩, rfl⟩ | ⟨rfl, rfl, ha, ⟨x, y, rfl, hx, hy⟩, rfl⟩ | ⟨rfl, rfl, rfl, ⟨x, rfl, hx⟩, ⟨hl, hc⟩⟩
    · exact ⟨i0, by simp, by simp⟩
    · exact ⟨numOk_in hn, by simp, by simp⟩
    · exact ⟨numOk_in hn, fun x hm => Tm.Wp.in_ (hx x hm), by simp⟩
    · exact ⟨i0, fun x hm => Tm.Wp.in_ (hx x hm), by simp⟩
    · refine ⟨by unfold inI; omega, fun z hm => ?_, by simp⟩
      simp only [List.mem_cons, List.not_mem_nil, or_false] at hm
      rcases hm with rfl | rfl
      · exact Tm.Wp.in_ hx
      · exact Tm.Wp.in_ hy
    · refine ⟨i0, fun z hm => ?_, by simp⟩
      simp only [List.mem_cons, List.not_mem_nil, or_false] at hm
      rcases hm with rfl | rfl
      · exact Tm.Wp.in_ hx
      · exact Tm.Wp.in_ hy
    · refine ⟨i0, fun z hm => ?_, fun c hm => ?_⟩
      · simp only [List.mem_cons, List.not_mem_nil, or_false] at hm
        subst hm
        exact Tm.Wp.in_ hx
      · obtain ⟨t, ws, y, rfl, ht, hws, hy⟩ := hc c hm
        exact ⟨numOk_in ht, Tm.Wp.in_ hy⟩
theorem parse_in {s : ByteArray} {a : List Fn} (h : parseT s = (a, 0)) : ∀ f ∈ a, f.body.In := fun f hf => ((parse_wp h).2.2 f hf).body.in_

mutual
def D.nums : D → Prop
  | .int n => inI n
  | .sl rows => D.numsL rows
  | .ptr row => D.numsR row
  | _ => True
def D.numsR : List D → Prop
  | [] => True
  | d :: r => d.nums ∧ D.numsR r
def D.numsL : List (List D) → Prop
  | [] => True
  | r :: l => D.numsR r ∧ D.numsL l
end
theorem D.numsL_iff : ∀ {l : List (List D)}, D.numsL l ↔ ∀ r ∈ l, D.numsR r
  | [] => by simp [D.numsL]
  | r :: l => by simp [D.numsL, D.numsL_iff (l := l)]
theorem D.numsR_app : ∀ {a b : List D}, D.numsR (a ++ b) ↔ D.numsR a ∧ D.numsR b
  | [], b => by simp [D.numsR]
  | d :: a, b => by simp [D.numsR, D.numsR_app (a := a), and_assoc]
theorem RT.nums {P : Program} {t : TypeId} {ds : List D} (h : RT P t ds) : D.numsR ds := by
  induction h with
  | int n h lo hi => exact ⟨⟨lo, hi⟩, trivial⟩
  | bool b h => exact ⟨trivial, trivial⟩
  | str s h hs => exact ⟨trivial, trivial⟩
  | sl rows h hl hr ih => exact ⟨D.numsL_iff.2 ih, trivial⟩
  | struct parts h hl hf ih =>
    rename_i fs
    have key : ∀ (ps : List (List D)), (∀ p ∈ ps, D.numsR p) → D.numsR ps.flatten := by
      intro ps
      induction ps with
      | nil => intro _; trivial
      | cons p ps ih2 => intro h2; rw [List.flatten_cons, D.numsR_app]; exact ⟨h2 p (by simp), ih2 fun q hq => h2 q (by simp [hq])⟩
    refine key parts fun p hp => ?_
    obtain ⟨i, hi⟩ := List.mem_iff_getElem?.1 hp
    have hlt : i < fs.size := by
      have := (List.getElem?_eq_some_iff.1 hi).1
      omega
    exact ih i fs[i] p (by rw [getElem?_pos fs i hlt]) hi
mutual
theorem Tm.in_nums : ∀ x : Tm, D.numsR x.row → x.In
  | .mk k n a b vs xs cs, h => by
    simp only [Tm.row, D.numsR, D.nums, and_true, true_and] at h
    exact ⟨h.2.1, Tm.inL_nums xs h.2.2.2.1, Cs.inL_nums cs h.2.2.2.2⟩
theorem Tm.inL_nums : ∀ l : List Tm, D.numsL (Tm.rows l) → Tm.InL l
  | [], _ => trivial
  | x :: r, h => ⟨Tm.in_nums x h.1, Tm.inL_nums r h.2⟩
theorem Cs.inL_nums : ∀ l : List Cs, D.numsL (Cs.rows l) → Cs.InL l
  | [], _ => trivial
  | c :: r, h => ⟨Cs.in_nums c h.1, Cs.inL_nums r h.2⟩
theorem Cs.in_nums : ∀ c : Cs, D.numsR c.row → c.In
  | .mk t ws y, h => by
    simp only [Cs.row, D.numsR, D.nums] at h
    exact ⟨h.1, Tm.in_nums y h.2.2⟩
end
theorem strW_bulk : ∀ vs : List ByteArray, strW vs = D.bulkRows (vs.map strR)
  | [] => rfl
  | s :: r => by
    have h := strW_bulk r
    simp only [strW, List.map_cons, D.bulkRows, D.bulkRow, D.bulk, strR, h]
    try omega
mutual
theorem Tm.wt_bulk : ∀ x : Tm, x.wt + 1 ≤ 60 * D.bulkRow x.row
  | .mk k n a b vs xs cs => by
    have h1 := Tm.wtL_bulk xs
    have h2 := Cs.wtL_bulk cs
    have h3 := strW_bulk vs
    simp only [Tm.wt, Tm.row, D.bulkRow, D.bulk, strsD]
    omega
theorem Tm.wtL_bulk : ∀ l : List Tm, Tm.wtL l ≤ 60 * D.bulkRows (Tm.rows l)
  | [] => Nat.zero_le _
  | x :: r => by
    have h1 := Tm.wt_bulk x
    have h2 := Tm.wtL_bulk r
    simp only [Tm.wtL, Tm.rows, D.bulkRows]
    omega
theorem Cs.wtL_bulk : ∀ l : List Cs, Cs.wtL l ≤ 60 * D.bulkRows (Cs.rows l)
  | [] => Nat.zero_le _
  | c :: r => by
    have h1 := Cs.wt_bulk c
    have h2 := Cs.wtL_bulk r
    simp only [Cs.wtL, Cs.rows, D.bulkRows]
    omega
theorem Cs.wt_bulk : ∀ c : Cs, c.wt ≤ 60 * D.bulkRow c.row
  | .mk t ws y => by
    have h1 := Tm.wt_bulk y
    have h3 := strW_bulk ws
    simp only [Cs.wt, Cs.row, D.bulkRow, D.bulk, strsD]
    omega
end
theorem Fn.wtL_bulk : ∀ l : List Fn, Fn.wtL l ≤ 60 * D.bulkRows (l.map Fn.row)
  | [] => Nat.zero_le _
  | f :: r => by
    have h1 := Tm.wt_bulk f.body
    have h2 := Fn.wtL_bulk r
    have h3 := strW_bulk f.params
    simp only [Fn.wtL, List.map_cons, D.bulkRows, Fn.row, D.bulkRow, D.bulk, strsD]
    omega
theorem fns_in {l : List Fn} (h : D.numsL (l.map Fn.row)) : ∀ f ∈ l, f.body.In := fun f hf => by
  have h1 := D.numsL_iff.1 h _ (List.mem_map.2 ⟨f, hf, rfl⟩)
  simp only [Fn.row, D.numsR] at h1
  exact Tm.in_nums _ h1.2.2
end Go.Proofs.YtapiiklnnkkdlaaDoor
