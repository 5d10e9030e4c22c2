import Derived.Test.YtapiiklnnkkdlaaDoorNameH
import Derived.Test.YtapiiklnnkkdlaaDoorFreeD
import Derived.Test.YtapiiklnnkkdlaaDoorNameB
import Derived.Lib.AtoiAll
import Derived.Lib.AtoiAllCases
import Derived.Lib.AtoiErrMem
/- More calls are no less: plainly. -/
namespace Go.Proofs.YtapiiklnnkkdlaaDoor
open Go.RowKit
set_option linter.unusedVariables false
set_option linter.unusedSimpArgs false
def Fmo {α : Type} (F : Int → α × Int × Int) : Prop := ∀ f, 0 ≤ f → 0 ≤ (F f).2.1 ∧ ∀ k, 0 ≤ k → (F f).2.2 ≠ 12 → F (f + k) = ((F f).1, (F f).2.1 + k, (F f).2.2)
theorem Fmo.const {α : Type} (v : α) (e : Int) : Fmo fun f => (v, f, e) := fun f hf => ⟨hf, fun k _ _ => rfl⟩
theorem Fmo.map {α β : Type} {F : Int → α × Int × Int} (h : Fmo F) (g : α → Int → β) : Fmo fun f => (g (F f).1 (F f).2.2, (F f).2.1, (F f).2.2) := fun f hf => by
  obtain ⟨h1, h2⟩ := h f hf
  refine ⟨h1, fun k hk he => ?_⟩
  dsimp only at he ⊢
  rw [h2 k hk he]
theorem Fmo.bind {α β : Type} {F : Int → α × Int × Int} (h : Fmo F) (z : α → β) {G : α → Int → β × Int × Int} (hG : ∀ v, Fmo (G v)) :
    Fmo fun f => if (F f).2.2 ≠ 0 then (z (F f).1, (F f).2.1, (F f).2.2) else G (F f).1 (F f).2.1 := fun f hf => by
  obtain ⟨h1, h2⟩ := h f hf
  dsimp only
  by_cases he : (F f).2.2 ≠ 0
  · rw [if_pos he]
    refine ⟨h1, fun k hk h3 => ?_⟩
    dsimp only at h3
    rw [h2 k hk h3]
    dsimp only
    rw [if_pos he]
  · rw [if_neg he]
    obtain ⟨g1, g2⟩ := hG (F f).1 (F f).2.1 h1
    refine ⟨g1, fun k hk h3 => ?_⟩
    have h4 : (F f).2.2 ≠ 12 := fun e => he (by rw [e]; omega)
    rw [h2 k hk h4]
    dsimp only
    rw [if_neg he, g2 k hk h3]
theorem Fmo.congr {α : Type} {F G : Int → α × Int × Int} (h : Fmo F) (e : ∀ f, G f = F f) : Fmo G := by
  have : G = F := funext e
  rw [this]; exact h

abbrev PS := Nat × Int
def isBl (c : UInt8) : Bool := c.toNat == 32 || (c.toNat == 9 || c.toNat == 10)
def isBr (c : UInt8) : Bool := c.toNat == 40 || c.toNat == 41
def nBl : List UInt8 → Nat
  | [] => 0
  | c :: r => if isBl c then nBl r + 1 else 0
def nWd : List UInt8 → Nat
  | [] => 0
  | c :: r => if isBl c || isBr c then 0 else nWd r + 1
def nPk : List UInt8 → Nat
  | [] => 0
  | c :: r => if isBr c then 1 else nWd (c :: r)
def pkA (s : ByteArray) (a : Nat) : Nat := a + nBl (s.data.toList.drop a)
def pkE (s : ByteArray) (a : Nat) : Nat := a + nPk (s.data.toList.drop a)
def pkW (s : ByteArray) (a : Nat) : ByteArray := s.extract (pkA s a) (pkE s (pkA s a))
def badE (e x : Int) : Int := if e = 0 then x else e
def nxS (s : ByteArray) (p : PS) : PS := (pkE s (pkA s p.1), if (pkW s p.1).size = 0 then badE p.2 8 else p.2)
def wantS (s w : ByteArray) (p : PS) : PS := if pkW s p.1 = w then nxS s p else ((nxS s p).1, badE (nxS s p).2 2)
def namP (s : ByteArray) (p : PS) : ByteArray × PS := (pkW s p.1, if nameB (pkW s p.1) then nxS s p else ((nxS s p).1, badE (nxS s p).2 7))
def numP (w : ByteArray) : Int × Bool := match Lib.atoiAll w.data.toList with
  | .ok v => (v, decide (itoaB v = w))
  | .range => (Lib.atoiSat w.data.toList, false)
  | _ => (0, false)
def sharp (w : ByteArray) : Bool := match w.data.toList with
  | c :: _ => c.toNat == 35
  | [] => false
def tagP (g : Bool) (s : ByteArray) (p : PS) : Int × PS :=
  if decide (1 < (pkW s p.1).size) && sharp (pkW s p.1) && (numP ((pkW s p.1).extract 1 (pkW s p.1).size)).2 then ((numP ((pkW s p.1).extract 1 (pkW s p.1).size)).1, nxS s p)
  else (if g && (decide (1 < (pkW s p.1).size) && sharp (pkW s p.1)) then (numP ((pkW s p.1).extract 1 (pkW s p.1).size)).1 else 0, ((nxS s p).1, badE (nxS s p).2 2))
theorem tagP_ref (s : ByteArray) (p : PS) : tagP false s p = if decide (1 < (pkW s p.1).size) && sharp (pkW s p.1) && (numP ((pkW s p.1).extract 1 (pkW s p.1).size)).2 then ((numP ((pkW s p.1).extract 1 (pkW s p.1).size)).1, nxS s p)
  else (0, ((nxS s p).1, badE (nxS s p).2 2)) := by
  unfold tagP
  rw [Bool.false_and]
  rfl
abbrev rbr : ByteArray := ⟨#[41]⟩
abbrev lbr : ByteArray := ⟨#[40]⟩
def manyP {α : Type} (s : ByteArray) (one : PS → α × PS) : Nat → PS → List α × PS
  | 0, p => ([], p)
  | n + 1, p =>
    if p.2 = 0 then
      if pkW s p.1 = rbr then ([], wantS s rbr (pkA s p.1, p.2))
      else ((one (pkA s p.1, p.2)).1 :: (manyP s one n (one (pkA s p.1, p.2)).2).1, (manyP s one n (one (pkA s p.1, p.2)).2).2)
    else ([], wantS s rbr p)
def primsL : List ByteArray := [⟨#[43]⟩, ⟨#[45]⟩, ⟨#[42]⟩, ⟨#[60]⟩, ⟨#[61]⟩]
def primI (w : ByteArray) : List ByteArray → Int → Int → Int
  | [], _, r => r
  | x :: l, i, r => primI w l (i + 1) (if w = x then i + 1 else r)
abbrev wLet : ByteArray := ⟨#[108, 101, 116]⟩
abbrev wMatch : ByteArray := ⟨#[109, 97, 116, 99, 104]⟩
def casP (g : Bool) (s : ByteArray) (one : PS → Tm × PS) (p : PS) : Cs × PS :=
  let t := tagP g s (wantS s lbr p)
  let ws := manyP s (namP s) (s.size + 2) (wantS s lbr t.2)
  let y := one ws.2
  (.mk t.1 ws.1 y.1, wantS s rbr y.2)
def atomP (s : ByteArray) (p : PS) : Tm × PS :=
  if (numP (pkW s p.1)).2 then (.mk 2 (numP (pkW s p.1)).1 .empty .empty [] [] [], nxS s p)
  else (.mk 1 0 (pkW s p.1) .empty [] [] [], if nameB (pkW s p.1) then nxS s p else ((nxS s p).1, badE (nxS s p).2 7))
def formP (g : Bool) (s : ByteArray) (one : PS → Tm × PS) (w : ByteArray) (p : PS) : Tm × PS :=
  if sharp w then
    let t := tagP g s p
    let xs := manyP s one (s.size + 2) t.2
    (.mk 3 t.1 .empty .empty [] xs.1 [], xs.2)
  else if w = wLet then
    let nm := namP s (nxS s p)
    let x := one nm.2
    let y := one x.2
    (.mk 6 0 nm.1 .empty [] [x.1, y.1] [], wantS s rbr y.2)
  else if w = wMatch then
    let x := one (nxS s p)
    let cs := manyP s (casP g s one) (s.size + 2) x.2
    (.mk 7 0 .empty .empty [] [x.1] cs.1, cs.2)
  else if 0 < primI w primsL 0 0 then
    let x := one (nxS s p)
    let y := one x.2
    (.mk 5 (primI w primsL 0 0) .empty .empty [] [x.1, y.1] [], wantS s rbr y.2)
  else
    let nm := namP s p
    let xs := manyP s one (s.size + 2) nm.2
    (.mk 4 0 nm.1 .empty [] xs.1 [], xs.2)
def Tm.ps (g : Bool) (s : ByteArray) : Nat → PS → Tm × PS
  | 0, p => (.mk 0 0 .empty .empty [] [] [], (p.1, badE p.2 9))
  | n + 1, p =>
    if pkW s p.1 = lbr then formP g s (Tm.ps g s n) (pkW s (nxS s p).1) (pkA s (nxS s p).1, (nxS s p).2)
    else atomP s (pkA s p.1, p.2)
abbrev wFn : ByteArray := ⟨#[102, 110]⟩
def fnP (g : Bool) (s : ByteArray) (p : PS) : Fn × PS :=
  let nm := namP s (wantS s wFn (wantS s lbr p))
  let ws := manyP s (namP s) (s.size + 2) (wantS s lbr nm.2)
  let y := Tm.ps g s 25 ws.2
  (⟨nm.1, ws.1, y.1⟩, wantS s rbr y.2)
def fnsP (g : Bool) (s : ByteArray) : Nat → PS → List Fn × PS
  | 0, p => ([], p)
  | n + 1, p =>
    if p.2 = 0 then
      if (pkW s p.1).size = 0 then ([], (pkA s p.1, p.2))
      else ((fnP g s (pkA s p.1, p.2)).1 :: (fnsP g s n (fnP g s (pkA s p.1, p.2)).2).1, (fnsP g s n (fnP g s (pkA s p.1, p.2)).2).2)
    else ([], p)
def parseP (g : Bool) (s : ByteArray) : List Fn × Int :=
  if 1500 < s.size then ([], 4)
  else if (fnsP g s (s.size + 2) (0, 0)).2.2 = 0 then ((fnsP g s (s.size + 2) (0, 0)).1, 0) else ([], (fnsP g s (s.size + 2) (0, 0)).2.2)
structure Stp (s : ByteArray) (p q : PS) : Prop where
  le : p.1 ≤ q.1
  sz : q.1 ≤ s.size
  er : p.2 ≠ 0 → q.2 = p.2
structure Adv (s : ByteArray) (p q : PS) : Prop extends Stp s p q where
  on : q.2 ≠ 0 ∨ p.1 < q.1
theorem Stp.trans {s : ByteArray} {p q r : PS} (h : Stp s p q) (h2 : Stp s q r) : Stp s p r := ⟨Nat.le_trans h.le h2.le, h2.sz, fun e => by have h3 := h.er e; rw [h2.er (by rw [h3]; exact e), h3]⟩
theorem Adv.trans {s : ByteArray} {p q r : PS} (h : Stp s p q) (h2 : Adv s q r) : Adv s p r := ⟨h.trans h2.toStp, h2.on.imp id fun h3 => Nat.lt_of_le_of_lt h.le h3⟩
theorem Adv.then {s : ByteArray} {p q r : PS} (h : Adv s p q) (h2 : Stp s q r) : Adv s p r := ⟨h.toStp.trans h2, by
  rcases h.on with h3 | h3
  · exact .inl (by rw [h2.er h3]; exact h3)
  · exact .inr (Nat.lt_of_lt_of_le h3 h2.le)⟩
theorem nBl_le : ∀ l : List UInt8, nBl l ≤ l.length
  | [] => Nat.le_refl _
  | c :: r => by
    have := nBl_le r
    rw [nBl]; split <;> simp <;> omega
theorem nWd_le : ∀ l : List UInt8, nWd l ≤ l.length
  | [] => Nat.le_refl _
  | c :: r => by
    have := nWd_le r
    rw [nWd]; split <;> simp <;> omega
theorem nPk_le : ∀ l : List UInt8, nPk l ≤ l.length
  | [] => Nat.le_refl _
  | c :: r => by
    have := nWd_le (c :: r)
    rw [nPk]; split
    · simp
    · exact this
theorem toList_size (s : ByteArray) : s.data.toList.length = s.size := Array.length_toList
theorem pkA_le {s : ByteArray} {a : Nat} (h : a ≤ s.size) : a ≤ pkA s a ∧ pkA s a ≤ s.size := by
  have := nBl_le (s.data.toList.drop a)
  rw [List.length_drop, toList_size] at this
  unfold pkA; omega
theorem pkE_le {s : ByteArray} {a : Nat} (h : a ≤ s.size) : a ≤ pkE s a ∧ pkE s a ≤ s.size := by
  have := nPk_le (s.data.toList.drop a)
  rw [List.length_drop, toList_size] at this
  unfold pkE; omega
theorem pkW_size {s : ByteArray} {a : Nat} (h : a ≤ s.size) : (pkW s a).size = pkE s (pkA s a) - pkA s a := by
  have h1 := pkA_le h
  have h2 := pkE_le h1.2
  unfold pkW
  rw [ByteArray.size_extract]; omega
theorem badE_ne {e x : Int} (hx : x ≠ 0) : badE e x ≠ 0 := by
  unfold badE; split <;> assumption
theorem badE_er {e x : Int} (h : e ≠ 0) : badE e x = e := if_neg h
theorem Stp.pk {s : ByteArray} {p : PS} (h : p.1 ≤ s.size) : Stp s p (pkA s p.1, p.2) := ⟨(pkA_le h).1, (pkA_le h).2, fun _ => rfl⟩
theorem Stp.bad {s : ByteArray} {p q : PS} {x : Int} (h : Stp s p q) : Stp s p (q.1, badE q.2 x) := ⟨h.le, h.sz, fun e => by
  have h2 := h.er e
  dsimp only
  rw [badE_er (by rw [h2]; exact e), h2]⟩
theorem Adv.bad {s : ByteArray} {p q : PS} {x : Int} (h : Adv s p q) : Adv s p (q.1, badE q.2 x) := ⟨h.toStp.bad, by
  rcases h.on with h3 | h3
  · exact .inl (by dsimp only; rw [badE_er h3]; exact h3)
  · exact .inr h3⟩
theorem nxS_adv {s : ByteArray} {p : PS} (h : p.1 ≤ s.size) : Adv s p (nxS s p) := by
  have h1 := pkA_le h
  have h2 := pkE_le h1.2
  have h3 := pkW_size h
  unfold nxS
  refine ⟨⟨Nat.le_trans h1.1 h2.1, h2.2, fun e => ?_⟩, ?_⟩
  · dsimp only
    split
    · exact badE_er e
    · rfl
  · dsimp only
    split
    · exact .inl (badE_ne (by decide))
    · exact .inr (by omega)
theorem wantS_adv {s w : ByteArray} {p : PS} (h : p.1 ≤ s.size) : Adv s p (wantS s w p) := by
  unfold wantS
  split
  · exact nxS_adv h
  · exact (nxS_adv h).bad
theorem namP_adv {s : ByteArray} {p : PS} (h : p.1 ≤ s.size) : Adv s p (namP s p).2 := by
  unfold namP
  dsimp only
  split
  · exact nxS_adv h
  · exact (nxS_adv h).bad
theorem tagP_adv {g : Bool} {s : ByteArray} {p : PS} (h : p.1 ≤ s.size) : Adv s p (tagP g s p).2 := by
  unfold tagP
  split
  · exact nxS_adv h
  · exact (nxS_adv h).bad
theorem manyP_adv {α : Type} {s : ByteArray} {one : PS → α × PS} (ho : ∀ p : PS, p.1 ≤ s.size → Adv s p (one p).2) : ∀ (n : Nat) (p : PS), p.1 ≤ s.size → Stp s p (manyP s one n p).2 ∧ (n ≠ 0 → Adv s p (manyP s one n p).2) ∧ (manyP s one n p).1.length ≤ n
  | 0, p, h => ⟨⟨Nat.le_refl _, h, fun _ => rfl⟩, fun h => absurd rfl h, Nat.le_refl _⟩
  | n + 1, p, h => by
    have key : Adv s p (manyP s one (n + 1) p).2 ∧ (manyP s one (n + 1) p).1.length ≤ n + 1 := by
      rw [manyP]
      split
      · split
        · exact ⟨Adv.trans (Stp.pk h) (wantS_adv (pkA_le h).2), Nat.zero_le _⟩
        · have h1 := ho (pkA s p.1, p.2) (pkA_le h).2
          obtain ⟨h2, _, h3⟩ := manyP_adv ho n (one (pkA s p.1, p.2)).2 h1.sz
          exact ⟨Adv.trans (Stp.pk h) (h1.then h2), by simpa using h3⟩
      · exact ⟨wantS_adv h, Nat.zero_le _⟩
    exact ⟨key.1.toStp, fun _ => key.1, key.2⟩
theorem casP_adv {g : Bool} {s : ByteArray} {one : PS → Tm × PS} (ho : ∀ p : PS, p.1 ≤ s.size → Adv s p (one p).2) {p : PS} (h : p.1 ≤ s.size) : Adv s p (casP g s one p).2 := by
  unfold casP
  dsimp only
  have h1 := wantS_adv (w := lbr) h
  have h2 := tagP_adv (g := g) h1.sz
  have h3 := wantS_adv (w := lbr) h2.sz
  have h4 := (manyP_adv (fun p h => namP_adv h) (s.size + 2) _ h3.sz).1
  have h5 := ho _ h4.sz
  exact (h1.then h2.toStp).then ((h3.toStp.trans h4).trans (h5.toStp.trans (wantS_adv h5.sz).toStp))
theorem formP_adv {g : Bool} {s w : ByteArray} {one : PS → Tm × PS} (ho : ∀ p : PS, p.1 ≤ s.size → Adv s p (one p).2) {p : PS} (h : p.1 ≤ s.size) : Adv s p (formP g s one w p).2 := by
  unfold formP
  split
  · have h1 := tagP_adv (g := g) h
    exact h1.then (manyP_adv ho _ _ h1.sz).1
  split
  · have h1 := nxS_adv h
    have h2 := namP_adv h1.sz
    have h3 := ho _ h2.sz
    have h4 := ho _ h3.sz
    exact (h1.then h2.toStp).then (h3.toStp.trans (h4.toStp.trans (wantS_adv h4.sz).toStp))
  split
  · have h1 := nxS_adv h
    have h3 := ho _ h1.sz
    exact h1.then (h3.toStp.trans (manyP_adv (fun p h => casP_adv ho h) _ _ h3.sz).1)
  split
  · have h1 := nxS_adv h
    have h3 := ho _ h1.sz
    have h4 := ho _ h3.sz
    exact h1.then (h3.toStp.trans (h4.toStp.trans (wantS_adv h4.sz).toStp))
  · have h1 := namP_adv h
    exact h1.then (manyP_adv ho _ _ h1.sz).1
theorem ps_adv {g : Bool} {s : ByteArray} : ∀ (n : Nat) (p : PS), p.1 ≤ s.size → Adv s p (Tm.ps g s n p).2
  | 0, p, h => ⟨⟨Nat.le_refl _, h, fun e => badE_er e⟩, .inl (badE_ne (by decide))⟩
  | n + 1, p, h => by
    rw [Tm.ps]
    split
    · have h1 := nxS_adv h
      exact h1.then ((Stp.pk h1.sz).trans (formP_adv (ps_adv n) (pkA_le h1.sz).2).toStp)
    · refine Adv.trans (Stp.pk h) ?_
      have h1 := nxS_adv (s := s) (p := (pkA s p.1, p.2)) (pkA_le h).2
      unfold atomP
      split
      · exact h1
      · dsimp only
        split
        · exact h1
        · exact h1.bad
theorem fnP_adv {g : Bool} {s : ByteArray} {p : PS} (h : p.1 ≤ s.size) : Adv s p (fnP g s p).2 := by
  unfold fnP
  dsimp only
  have h1 := wantS_adv (w := lbr) h
  have h2 := wantS_adv (w := wFn) h1.sz
  have h3 := namP_adv h2.sz
  have h4 := wantS_adv (w := lbr) h3.sz
  have h5 := (manyP_adv (fun p h => namP_adv h) (s.size + 2) _ h4.sz).1
  have h6 := ps_adv (g := g) 25 _ h5.sz
  exact (h1.then h2.toStp).then ((h3.toStp.trans h4.toStp).trans (h5.trans (h6.toStp.trans (wantS_adv h6.sz).toStp)))

theorem numP_in (s : ByteArray) : inI (numP s).1 := by
  unfold numP
  rcases h : Lib.atoiAll s.data.toList with v | _ | _
  · exact Lib.atoiAll_bounds h
  · exact ⟨by dsimp only; decide, by dsimp only; decide⟩
  · exact Lib.atoiSat_bounds _
set_option maxRecDepth 100000 in
set_option maxHeartbeats 4000000 in
theorem number_calls (s : ByteArray) (hs : s.size ≤ 281474976710656) (w : World) (hg : GI w) : Calls Tryd.prog 137 #[.string s] w fun e w' => e = .returned (.tuple #[.int .i64 (numP s).1, .bool (numP s).2]) ∧ Below w.heap.size w w' := by
  have gi : ∀ w' : World, Below w.heap.size w w' → GI w' := fun w' hB => hg.keep fun b hb => hB.block b (hg.lt hb)
  unfold numP
  rcases h : Lib.atoiAll s.data.toList with v | _ | _
  · have hv := Lib.atoiAll_bounds h
    go_enter Tryd.func137, Tryd.ntmps137
    go_wp2_with (first
      | (go_at_call 167; refine (Tryd.strconv_Atoi_ok s (by omega) v h _).mono ?_; rintro e w1 ⟨rfl, hw⟩; have hB : Below w.heap.size w w1 := by
          rcases hw with rfl | ⟨t, rfl⟩
          · exact Below.refl _ _
          · exact Lib.bytesWorld_below _ _ _
         clear hw; have hG := (gi _ hB).pow)
      | (go_at_call 97; refine (Tryd.strconv_Itoa v hv.1 hv.2 _ (by assumption)).mono ?_; rintro e w2 ⟨rfl, k, os, rfl⟩))
    go_ret2
    refine ⟨?_, hB.trans ⟨rfl, rfl, rfl, by simp [Go.Sort.grow, World.drewN], fun b hb => ?_⟩⟩
    · have e1 : (Lib.itoa v == s.toList) = decide ((⟨(Lib.itoa v).toArray⟩ : ByteArray) = s) := by
        have h2 := ByteArray.beq_toList (⟨(Lib.itoa v).toArray⟩ : ByteArray) s
        rwa [ByteArray.toList_eq (⟨(Lib.itoa v).toArray⟩ : ByteArray)] at h2
      show _ = Ending.returned (Value.tuple #[Value.int IntKind.i64 v, Value.bool (decide ((⟨(Lib.itoa v).toArray⟩ : ByteArray) = s))])
      rw [← e1]
      rfl
    simp only [Go.Sort.grow, World.drewN]
    rw [Array.getElem?_append_left (Nat.lt_of_lt_of_le hb hB.size)]
  · obtain ⟨tp, p, hvar⟩ := hg.syn
    go_enter Tryd.func137, Tryd.ntmps137
    go_wp2_with (go_at_call 167; refine (Tryd.strconv_Atoi_syntax_var s hs h tp p _ hvar).mono ?_; rintro e w' ⟨N, rfl, _, _, hB⟩)
    go_ret2
    exact ⟨rfl, hB⟩
  · obtain ⟨tp, p, hvar⟩ := hg.rng
    go_enter Tryd.func137, Tryd.ntmps137
    go_wp2_with (go_at_call 167; refine (Tryd.strconv_Atoi_range_var s hs h tp p _ hvar).mono ?_; rintro e w' ⟨N, rfl, _, _, hB⟩)
    go_ret2
    exact ⟨rfl, hB⟩
theorem sp_Number (s : ByteArray) (hs : s.size ≤ 281474976710656) : PSpec Tryd.prog 137 [.d (.str s)] (fun _ => .tuple [.d (.int (numP s).1), .d (.bool (numP s).2)]) none := by
  refine ⟨⟨_, Tryd.func137, rfl, rfl⟩, fun d => rfl, fun _ d => rfl, by simp, fun d w ok vals hgi hok hl hv => ?_⟩
  match vals, hl with
  | ⟨[v]⟩, _ =>
  obtain ⟨rfl, _⟩ := (hv 0 _ v rfl rfl).d_inv.str_inv
  refine (number_calls s hs w hgi).mono ?_
  rintro e w' ⟨rfl, hB⟩
  obtain ⟨h1, h2⟩ := numP_in s
  exact ⟨_, ok, noG, rfl, hB, fun b h => h, fun b h => .inl h, .tuple _ _ rfl (fun i c v hc hv => by
    rcases i with _ | _ | i <;> simp at hc hv <;> subst hc hv
    · exact .d _ _ (.int _ h1 h2)
    · exact .d _ _ (.bool _)), by simp⟩
end Go.Proofs.YtapiiklnnkkdlaaDoor

namespace Go.Proofs.YtapiiklnnkkdlaaDoor
open Go.RowKit
attribute [local simp] runD mkRc ldOf stOf stOk ldArg noAny dstOk guardOk opEff opEff0 effOp pureOp callOp zEff evA constAV scalAV Value.oneCell' frGet memGet startAS frOf isGoCall idIn AS.after nextR opnIds objIds AV.ids idsL AObj.ids frNo memNo opnAny isAny mkVal rdCells wrCells fldAddr idxAddr srcRows litRows toD1 toDs setAt sliceAV optI partAV bldAV fillAV binAV binI AV.cells callEff calleeOf frKill memKill AV.kill AObj.kill AV.has AV.hasL Op.operands Call.operands keepF keepM viewIds cChk renOf moGet moWs moQ cEff moLike moHave AV.ren renL AObj.ren AObj.like kept startC moMem AV.frz frz1 frzL frSub memSub frzs AS.frz frFrz memFrz AObj.frz takeMap takeLen bleF Nat.ble_eq memAny objAny mapOp D.keyOk rowAV valRow extOp wrapOp phO
set_option linter.unusedVariables false
set_option linter.unusedSimpArgs false
@[simp] theorem tyE_str : tyElem Tryd.prog 9 = none := by kernel_rfl
theorem drop_of {s : ByteArray} {a : Nat} {c : UInt8} (h : s[a]? = some c) : s.data.toList.drop a = c :: s.data.toList.drop (a + 1) := by
  have h1 : s.data.toList[a]? = some c := by
    rw [Array.getElem?_toList]
    exact h
  obtain ⟨h2, h3⟩ := List.getElem?_eq_some_iff.1 h1
  rw [List.drop_eq_getElem_cons h2, h3]
theorem drop_end {s : ByteArray} {a : Nat} (h : s.size ≤ a) : s.data.toList.drop a = [] := List.drop_of_length_le (by rw [toList_size]; exact h)
theorem pkA_on {s : ByteArray} {a : Nat} {c : UInt8} (h : s[a]? = some c) (hb : isBl c = true) : pkA s (a + 1) = pkA s a := by
  unfold pkA
  rw [drop_of h, nBl, if_pos hb]; omega
theorem pkA_stop {s : ByteArray} {a : Nat} {c : UInt8} (h : s[a]? = some c) (hb : isBl c = false) : pkA s a = a := by
  unfold pkA
  rw [drop_of h, nBl, if_neg (by rw [hb]; decide)]; omega
theorem pkA_end {s : ByteArray} {a : Nat} (h : s.size ≤ a) : pkA s a = a := by
  unfold pkA
  rw [drop_end h, nBl]; omega
def pkV (s : ByteArray) (a : Nat) : Nat := a + nWd (s.data.toList.drop a)
theorem pkE_end {s : ByteArray} {a : Nat} (h : s.size ≤ a) : pkE s a = a := by
  unfold pkE
  rw [drop_end h, nPk]; omega
theorem pkE_br {s : ByteArray} {a : Nat} {c : UInt8} (h : s[a]? = some c) (hb : isBr c = true) : pkE s a = a + 1 := by
  unfold pkE
  rw [drop_of h, nPk, if_pos hb]
theorem pkE_wd {s : ByteArray} {a : Nat} {c : UInt8} (h : s[a]? = some c) (hb : isBr c = false) : pkE s a = pkV s a := by
  unfold pkE pkV
  rw [drop_of h, nPk, if_neg (by rw [hb]; decide)]
theorem pkV_end {s : ByteArray} {a : Nat} (h : s.size ≤ a) : pkV s a = a := by
  unfold pkV
  rw [drop_end h, nWd]; omega
theorem pkV_on {s : ByteArray} {a : Nat} {c : UInt8} (h : s[a]? = some c) (h1 : isBl c = false) (hb : isBr c = false) : pkV s (a + 1) = pkV s a := by
  unfold pkV
  rw [drop_of h, nWd, if_neg (by rw [h1, hb]; decide)]; omega
theorem pkV_stop {s : ByteArray} {a : Nat} {c : UInt8} (h : s[a]? = some c) (hb : (isBl c || isBr c) = true) : pkV s a = a := by
  unfold pkV
  rw [drop_of h, nWd, if_pos hb]; omega
theorem isBr_of {c : UInt8} : isBr c = (decide ((c.toNat : Int) = 40) || decide ((c.toNat : Int) = 41)) := by
  unfold isBr
  rw [Bool.eq_iff_iff]
  simp only [Bool.or_eq_true, beq_iff_eq, decide_eq_true_eq]
  omega
set_option maxRecDepth 20000 in
set_option maxHeartbeats 4000000 in
theorem sp_blank (c : UInt8) : PSpec Tryd.prog 134 [.d (.num .u8 c.toNat)] (fun _ => .d (.bool (isBl c))) none := by
  have hc : isBl c = (decide ((c.toNat : Int) = 32) || (decide ((c.toNat : Int) = 9) || decide ((c.toNat : Int) = 10))) := by
    unfold isBl
    rw [Bool.eq_iff_iff]
    simp only [Bool.or_eq_true, beq_iff_eq, decide_eq_true_eq]
    omega
  have h0 : 0 ≤ (c.toNat : Int) := by omega
  have h1 : (c.toNat : Int) ≤ 255 := by have := c.toNat_lt; omega
  rw [hc]
  clear hc
  generalize (c.toNat : Int) = n at *
  by_cases q1 : n = 32
  · subst q1
    refine PSpec.of Tryd.func134 rfl rfl rfl (Nat.le_of_ble_eq_true rfl) ?_
    show AWp _ _ (endQ _ Tryd.f134 _ _ _) (startAS 13 _)
    repeat (first | refine AWp.seq ?_ | refine AWp.block ?_)
    apply AWp.reg [] []
    · conv => lhs; simp
    · trivial
    refine AWp.rg [] [] ?_
    refine AWp.ret ?_
    try dsimp only [thenQ, blockQ]
    apply endQ.ret
    · rfl
    · conv => lhs; simp [resAV, Tryd.results134]
    rfl
  by_cases q2 : n = 9
  · subst q2
    refine PSpec.of Tryd.func134 rfl rfl rfl (Nat.le_of_ble_eq_true rfl) ?_
    show AWp _ _ (endQ _ Tryd.f134 _ _ _) (startAS 13 _)
    repeat (first | refine AWp.seq ?_ | refine AWp.block ?_)
    apply AWp.reg [] []
    · conv => lhs; simp
    · trivial
    refine AWp.rg [] [] ?_
    refine AWp.ret ?_
    try dsimp only [thenQ, blockQ]
    apply endQ.ret
    · rfl
    · conv => lhs; simp [resAV, Tryd.results134]
    rfl
  by_cases q3 : n = 10
  · subst q3
    refine PSpec.of Tryd.func134 rfl rfl rfl (Nat.le_of_ble_eq_true rfl) ?_
    show AWp _ _ (endQ _ Tryd.f134 _ _ _) (startAS 13 _)
    repeat (first | refine AWp.seq ?_ | refine AWp.block ?_)
    apply AWp.reg [] []
    · conv => lhs; simp
    · trivial
    refine AWp.rg [] [] ?_
    refine AWp.ret ?_
    try dsimp only [thenQ, blockQ]
    apply endQ.ret
    · rfl
    · conv => lhs; simp [resAV, Tryd.results134]
    rfl
  rw [show (decide (n = 32) || (decide (n = 9) || decide (n = 10))) = false from by simp [q1, q2, q3]]
  refine PSpec.of Tryd.func134 rfl rfl rfl (Nat.le_of_ble_eq_true rfl) ?_
  show AWp _ _ (endQ _ Tryd.f134 _ _ _) (startAS 13 _)
  repeat (first | refine AWp.seq ?_ | refine AWp.block ?_)
  apply AWp.reg [] []
  · conv => lhs; simp
  · trivial
  refine AWp.rg [] [] ?_ (hr := by conv => lhs; simp [q1, q2, q3])
  refine AWp.ret ?_
  try dsimp only [thenQ, blockQ]
  apply endQ.ret
  · rfl
  · conv => lhs; simp [resAV, Tryd.results134]
  rfl
abbrev pO (s : ByteArray) (a e : Int) : AObj := .blk 102 [.d (.str s), .d (.int a), .d (.int e)]
set_option maxRecDepth 20000 in
set_option maxHeartbeats 16000000 in
theorem cs_bad (s : ByteArray) (a e x : Int) : CSpec Tryd.prog 136 [.ptr 1000 0, .d (.int x)] [(1000, pO s a e)] (.tuple []) [(1000, pO s a (badE e x))] := by
  unfold pO
  by_cases he : e = 0
  · subst he
    rw [show badE 0 x = x from rfl]
    refine CSpec.of Tryd.func136 rfl rfl (Nat.le_of_ble_eq_true rfl) ?_
    show AWp _ _ (endC _ Tryd.f136 _ _) (startC 13 _ _)
    refine AWp.rg [] [] ?_
    refine AWp.cy ?_
    refine AWp.rg [] [] ?_
    try dsimp only [thenQ, blockQ]
    apply endC.normal
    · rfl
    · conv => lhs; simp [resAV, Tryd.results136]
    · rfl
    · simp [moEnd, memGet]
  rw [show badE e x = e from if_neg he]
  refine CSpec.of Tryd.func136 rfl rfl (Nat.le_of_ble_eq_true rfl) ?_
  show AWp _ _ (endC _ Tryd.f136 _ _) (startC 13 _ _)
  refine AWp.rg [] [] ?_ (hr := by conv => lhs; simp [he])
  refine AWp.cn ?_
  refine AWp.skip ?_
  try dsimp only [thenQ, blockQ]
  apply endC.normal
  · rfl
  · conv => lhs; simp [resAV, Tryd.results136]
  · rfl
  · simp [moEnd, memGet]
set_option maxRecDepth 20000 in
set_option maxHeartbeats 16000000 in
theorem cs_Peek (s : ByteArray) (a : Nat) (e : Int) (ha : a ≤ s.size) (hs : s.size ≤ 1500) : CSpec Tryd.prog 90 [.ptr 1000 0] [(1000, pO s a e)] (.d (.str (pkW s a))) [(1000, pO s (pkA s a) e)] := by
  unfold pO
  obtain ⟨N, hN⟩ : ∃ N : Int, (s.size : Int) = N := ⟨_, rfl⟩
  obtain ⟨W, hW⟩ : ∃ W, W = pkW s a := ⟨_, rfl⟩
  rw [← hW]
  unfold pkW at hW
  obtain ⟨A, hA⟩ : ∃ A, A = pkA s a := ⟨_, rfl⟩
  rw [← hA] at hW ⊢
  refine CSpec.of Tryd.func90 rfl rfl (Nat.le_of_ble_eq_true rfl) ?_
  show AWp _ _ (endC _ Tryd.f90 _ _) (startC 117 _ _)
  refine AWp.rg [] [] ?_ (hr := by conv => lhs; simp [hN])
  repeat (first | refine AWp.seq ?_ | refine AWp.block ?_)
  refine AWp.loop (σ := fun u : {u : Nat // (pkA s u = pkA s a ∧ u ≤ s.size)} => ⟨117, [(0, .ptr 1000 0)], [(1000, some (.blk 102 [.d (.str s), .d (.int (u.1 : Int)), .d (.int e)]))]⟩)
    (μ := fun u => s.size - u.1) ⟨a, ⟨rfl, ha⟩⟩ (Le.sub (by simp) (by simp)) (fun ⟨j, hw⟩ => ?_)
  dsimp only
  obtain ⟨hpk, hjl⟩ := hw
  by_cases hj : (j : Int) < N
  · have hj1 : j < s.size := by omega
    have h1c : s[j]? = some s[j] := by rw [getElem?_pos]
    generalize s[j] = c at h1c
    obtain ⟨cn, hcn⟩ : ∃ n : Int, (c.toNat : Int) = n := ⟨_, rfl⟩
    have hbl := sp_blank c
    obtain ⟨q, hq⟩ : ∃ q, isBl c = q := ⟨_, rfl⟩
    rw [hq, hcn] at hbl
    cases q with
    | true =>
      refine AWp.dw [] [.p (fun _ => .d (.bool true)) none] mixed ?_ (hr := by conv => lhs; simp [hN, h1c, hcn, hj])
      refine AWp.cy ?_
      refine AWp.skip ?_
      refine AWp.rg [] [] ?_ (hr := by conv => lhs; simp [hN, h1c, hcn, hj])
      refine ⟨⟨j + 1, ⟨by rw [pkA_on h1c hq]; exact hpk, by omega⟩⟩, by dsimp only; omega, ?_⟩
      dsimp only
      exact Le.sub (by simp [hN]) (by simp [hN])
    | false =>
      refine AWp.dw [] [.p (fun _ => .d (.bool false)) none] mixed ?_ (hr := by conv => lhs; simp [hN, h1c, hcn, hj])
      refine AWp.cn ?_
      refine AWp.exit ?_
      rw [pkA_stop h1c hq] at hpk
      clear hq hbl h1c hcn hj hj1
      obtain rfl : A = j := hA.trans hpk.symm
      clear hpk
      refine AWp.rg [] [] ?_ (hr := by conv => lhs; simp [hN])
      by_cases hj : (A : Int) < N
      · have hj1 : A < s.size := by omega
        have h1d : s[A]? = some s[A] := by rw [getElem?_pos]
        generalize s[A] = d at h1d
        obtain ⟨dn, hdn⟩ : ∃ n : Int, (d.toNat : Int) = n := ⟨_, rfl⟩
        by_cases q1 : dn = 40
        · refine AWp.rg [] [] ?_ (hr := by conv => lhs; simp [hN, h1d, hdn, hj, q1])
          refine AWp.cy ?_
          have hbr : isBr d = true := by rw [isBr_of, Bool.or_eq_true, decide_eq_true_eq, decide_eq_true_eq]; omega
          rw [pkE_br h1d hbr] at hW
          rw [hW]
          refine AWp.rg [] [] ?_ (hr := by conv => lhs; simp [hN, h1d, hdn, hj, q1])
          refine AWp.ret ?_
          try dsimp only [thenQ, blockQ]
          apply endC.ret
          · rfl
          · conv => lhs; simp [resAV, Tryd.results90]
          · first | rfl | simp
          · simp [moEnd, memGet]
        by_cases q2 : dn = 41
        · refine AWp.rg [] [] ?_ (hr := by conv => lhs; simp [hN, h1d, hdn, hj, q1, q2])
          refine AWp.cy ?_
          have hbr : isBr d = true := by rw [isBr_of, Bool.or_eq_true, decide_eq_true_eq, decide_eq_true_eq]; omega
          rw [pkE_br h1d hbr] at hW
          rw [hW]
          refine AWp.rg [] [] ?_ (hr := by conv => lhs; simp [hN, h1d, hdn, hj, q1, q2])
          refine AWp.ret ?_
          try dsimp only [thenQ, blockQ]
          apply endC.ret
          · rfl
          · conv => lhs; simp [resAV, Tryd.results90]
          · first | rfl | simp
          · simp [moEnd, memGet]
        refine AWp.rg [] [] ?_ (hr := by conv => lhs; simp [hN, h1d, hdn, hj, q1, q2])
        refine AWp.cn ?_
        refine AWp.skip ?_
        repeat (first | refine AWp.seq ?_ | refine AWp.block ?_)
        refine AWp.loop (σ := fun u : {u : Nat // (pkV s u = pkV s A ∧ A ≤ u ∧ u ≤ s.size)} => ⟨117, [(0, .ptr 1000 0), (3, .d (.int (u.1 : Int)))], [(1000, some (.blk 102 [.d (.str s), .d (.int (A : Int)), .d (.int e)]))]⟩)
          (μ := fun u => s.size - u.1) ⟨A, ⟨rfl, Nat.le_refl _, hjl⟩⟩ (Le.sub (by simp) (by simp)) (fun ⟨k, hw⟩ => ?_)
        dsimp only
        obtain ⟨hpk, hk0, hkl⟩ := hw
        by_cases hj : (k : Int) < N
        · have hj1 : k < s.size := by omega
          have h1c : s[k]? = some s[k] := by rw [getElem?_pos]
          generalize s[k] = c at h1c
          obtain ⟨cn, hcn⟩ : ∃ n : Int, (c.toNat : Int) = n := ⟨_, rfl⟩
          have hbl := sp_blank c
          obtain ⟨q, hq⟩ : ∃ q, isBl c = q := ⟨_, rfl⟩
          rw [hq, hcn] at hbl
          cases q with
          | true =>
            refine AWp.rg [] [.p (fun _ => .d (.bool true)) none] ?_ (hr := by conv => lhs; simp [hN, h1d, hdn, h1c, hcn, hj, q1, q2])
            refine AWp.cn ?_
            refine AWp.exit ?_
            have hst := pkV_stop h1c (by rw [hq]; rfl)
            have hbr : isBr d = false := by rw [isBr_of, Bool.or_eq_false_iff, decide_eq_false_iff_not, decide_eq_false_iff_not]; omega
            rw [pkE_wd h1d hbr] at hW
            rw [hst] at hpk
            rw [← hpk] at hW
            rw [hW]
            refine AWp.dw [] [] mixed ?_ (hr := by conv => lhs; simp [hN, h1d, hdn, h1c, hcn, hj, q1, q2])
            refine AWp.ret ?_
            try dsimp only [thenQ, blockQ]
            apply endC.ret
            · rfl
            · conv => lhs; simp [resAV, Tryd.results90]
            · first | rfl | simp
            · simp [moEnd, memGet]
          | false =>
            by_cases q3 : cn = 40
            · have q3t := eq_true q3
              refine AWp.rg [] [.p (fun _ => .d (.bool false)) none] ?_ (hr := by conv => lhs; simp [hN, h1d, hdn, h1c, hcn, hj, q1, q2, q3t])
              refine AWp.cn ?_
              refine AWp.exit ?_
              have hst := pkV_stop h1c (by rw [Bool.or_eq_true, isBr_of, Bool.or_eq_true, decide_eq_true_eq, decide_eq_true_eq]; omega)
              have hbr : isBr d = false := by rw [isBr_of, Bool.or_eq_false_iff, decide_eq_false_iff_not, decide_eq_false_iff_not]; omega
              rw [pkE_wd h1d hbr] at hW
              rw [hst] at hpk
              rw [← hpk] at hW
              rw [hW]
              refine AWp.dw [] [] mixed ?_ (hr := by conv => lhs; simp [hN, h1d, hdn, h1c, hcn, hj, q1, q2, q3t])
              refine AWp.ret ?_
              try dsimp only [thenQ, blockQ]
              apply endC.ret
              · rfl
              · conv => lhs; simp [resAV, Tryd.results90]
              · first | rfl | simp
              · simp [moEnd, memGet]
            by_cases q4 : cn = 41
            · have q4t := eq_true q4
              refine AWp.rg [] [.p (fun _ => .d (.bool false)) none] ?_ (hr := by conv => lhs; simp [hN, h1d, hdn, h1c, hcn, hj, q1, q2, q3, q4t])
              refine AWp.cn ?_
              refine AWp.exit ?_
              have hst := pkV_stop h1c (by rw [Bool.or_eq_true, isBr_of, Bool.or_eq_true, decide_eq_true_eq, decide_eq_true_eq]; omega)
              have hbr : isBr d = false := by rw [isBr_of, Bool.or_eq_false_iff, decide_eq_false_iff_not, decide_eq_false_iff_not]; omega
              rw [pkE_wd h1d hbr] at hW
              rw [hst] at hpk
              rw [← hpk] at hW
              rw [hW]
              refine AWp.dw [] [] mixed ?_ (hr := by conv => lhs; simp [hN, h1d, hdn, h1c, hcn, hj, q1, q2, q3, q4t])
              refine AWp.ret ?_
              try dsimp only [thenQ, blockQ]
              apply endC.ret
              · rfl
              · conv => lhs; simp [resAV, Tryd.results90]
              · first | rfl | simp
              · simp [moEnd, memGet]
            refine AWp.rg [] [.p (fun _ => .d (.bool false)) none] ?_ (hr := by conv => lhs; simp [hN, h1d, hdn, h1c, hcn, hj, q1, q2, q3, q4])
            refine AWp.cy ?_
            refine AWp.skip ?_
            refine AWp.rg [] [] ?_ (hr := by conv => lhs; simp [hN, h1d, hdn, h1c, hcn, hj, q1, q2, q3, q4])
            refine ⟨⟨k + 1, ⟨by rw [pkV_on h1c hq (by rw [isBr_of, Bool.or_eq_false_iff, decide_eq_false_iff_not, decide_eq_false_iff_not]; omega)]; exact hpk, by omega, by omega⟩⟩, by dsimp only; omega, ?_⟩
            dsimp only
            exact Le.sub (by simp [hN]) (by simp [hN])
        have hj1 : s.size ≤ k := by omega
        refine AWp.rg [] [] ?_ (hr := by conv => lhs; simp [hN, h1d, hdn, hj, q1, q2])
        refine AWp.cn ?_
        refine AWp.exit ?_
        have hst := pkV_end hj1
        have hbr : isBr d = false := by rw [isBr_of, Bool.or_eq_false_iff, decide_eq_false_iff_not, decide_eq_false_iff_not]; omega
        rw [pkE_wd h1d hbr] at hW
        rw [hst] at hpk
        rw [← hpk] at hW
        rw [hW]
        refine AWp.dw [] [] mixed ?_ (hr := by conv => lhs; simp [hN, h1d, hdn, hj, q1, q2])
        refine AWp.ret ?_
        try dsimp only [thenQ, blockQ]
        apply endC.ret
        · rfl
        · conv => lhs; simp [resAV, Tryd.results90]
        · first | rfl | simp
        · simp [moEnd, memGet]
      have hj1 : s.size ≤ A := by omega
      have hA1 := hj1
      refine AWp.rg [] [] ?_ (hr := by conv => lhs; simp [hN, hj])
      refine AWp.cn ?_
      refine AWp.skip ?_
      repeat (first | refine AWp.seq ?_ | refine AWp.block ?_)
      refine AWp.loop (σ := fun u : {u : Nat // (pkV s u = pkV s A ∧ A ≤ u ∧ u ≤ s.size)} => ⟨117, [(0, .ptr 1000 0), (3, .d (.int (u.1 : Int)))], [(1000, some (.blk 102 [.d (.str s), .d (.int (A : Int)), .d (.int e)]))]⟩)
        (μ := fun u => s.size - u.1) ⟨A, ⟨rfl, Nat.le_refl _, hjl⟩⟩ (Le.sub (by simp) (by simp)) (fun ⟨k, hw⟩ => ?_)
      dsimp only
      obtain ⟨hpk, hk0, hkl⟩ := hw
      by_cases hj : (k : Int) < N
      · have hj1 : k < s.size := by omega
        have h1c : s[k]? = some s[k] := by rw [getElem?_pos]
        generalize s[k] = c at h1c
        obtain ⟨cn, hcn⟩ : ∃ n : Int, (c.toNat : Int) = n := ⟨_, rfl⟩
        have hbl := sp_blank c
        obtain ⟨q, hq⟩ : ∃ q, isBl c = q := ⟨_, rfl⟩
        rw [hq, hcn] at hbl
        cases q with
        | true =>
          refine AWp.rg [] [.p (fun _ => .d (.bool true)) none] ?_ (hr := by conv => lhs; simp [hN, h1c, hcn, hj])
          refine AWp.cn ?_
          refine AWp.exit ?_
          have hst := pkV_stop h1c (by rw [hq]; rfl)
          rw [show pkE s A = pkV s A from by rw [pkE_end hA1, pkV_end hA1]] at hW
          rw [hst] at hpk
          rw [← hpk] at hW
          rw [hW]
          refine AWp.dw [] [] mixed ?_ (hr := by conv => lhs; simp [hN, h1c, hcn, hj])
          refine AWp.ret ?_
          try dsimp only [thenQ, blockQ]
          apply endC.ret
          · rfl
          · conv => lhs; simp [resAV, Tryd.results90]
          · first | rfl | simp
          · simp [moEnd, memGet]
        | false =>
          by_cases q5 : cn = 40
          · have q5t := eq_true q5
            refine AWp.rg [] [.p (fun _ => .d (.bool false)) none] ?_ (hr := by conv => lhs; simp [hN, h1c, hcn, hj, q5t])
            refine AWp.cn ?_
            refine AWp.exit ?_
            have hst := pkV_stop h1c (by rw [Bool.or_eq_true, isBr_of, Bool.or_eq_true, decide_eq_true_eq, decide_eq_true_eq]; omega)
            rw [show pkE s A = pkV s A from by rw [pkE_end hA1, pkV_end hA1]] at hW
            rw [hst] at hpk
            rw [← hpk] at hW
            rw [hW]
            refine AWp.dw [] [] mixed ?_ (hr := by conv => lhs; simp [hN, h1c, hcn, hj, q5t])
            refine AWp.ret ?_
            try dsimp only [thenQ, blockQ]
            apply endC.ret
            · rfl
            · conv => lhs; simp [resAV, Tryd.results90]
            · first | rfl | simp
            · simp [moEnd, memGet]
          by_cases q6 : cn = 41
          · have q6t := eq_true q6
            refine AWp.rg [] [.p (fun _ => .d (.bool false)) none] ?_ (hr := by conv => lhs; simp [hN, h1c, hcn, hj, q5, q6t])
            refine AWp.cn ?_
            refine AWp.exit ?_
            have hst := pkV_stop h1c (by rw [Bool.or_eq_true, isBr_of, Bool.or_eq_true, decide_eq_true_eq, decide_eq_true_eq]; omega)
            rw [show pkE s A = pkV s A from by rw [pkE_end hA1, pkV_end hA1]] at hW
            rw [hst] at hpk
            rw [← hpk] at hW
            rw [hW]
            refine AWp.dw [] [] mixed ?_ (hr := by conv => lhs; simp [hN, h1c, hcn, hj, q5, q6t])
            refine AWp.ret ?_
            try dsimp only [thenQ, blockQ]
            apply endC.ret
            · rfl
            · conv => lhs; simp [resAV, Tryd.results90]
            · first | rfl | simp
            · simp [moEnd, memGet]
          refine AWp.rg [] [.p (fun _ => .d (.bool false)) none] ?_ (hr := by conv => lhs; simp [hN, h1c, hcn, hj, q5, q6])
          refine AWp.cy ?_
          refine AWp.skip ?_
          refine AWp.rg [] [] ?_ (hr := by conv => lhs; simp [hN, h1c, hcn, hj, q5, q6])
          refine ⟨⟨k + 1, ⟨by rw [pkV_on h1c hq (by rw [isBr_of, Bool.or_eq_false_iff, decide_eq_false_iff_not, decide_eq_false_iff_not]; omega)]; exact hpk, by omega, by omega⟩⟩, by dsimp only; omega, ?_⟩
          dsimp only
          exact Le.sub (by simp [hN]) (by simp [hN])
      have hj1 : s.size ≤ k := by omega
      refine AWp.rg [] [] ?_ (hr := by conv => lhs; simp [hN, hj])
      refine AWp.cn ?_
      refine AWp.exit ?_
      have hst := pkV_end hj1
      rw [show pkE s A = pkV s A from by rw [pkE_end hA1, pkV_end hA1]] at hW
      rw [hst] at hpk
      rw [← hpk] at hW
      rw [hW]
      refine AWp.dw [] [] mixed ?_ (hr := by conv => lhs; simp [hN, hj])
      refine AWp.ret ?_
      try dsimp only [thenQ, blockQ]
      apply endC.ret
      · rfl
      · conv => lhs; simp [resAV, Tryd.results90]
      · first | rfl | simp
      · simp [moEnd, memGet]
  have hj1 : s.size ≤ j := by omega
  refine AWp.dw [] [] mixed ?_ (hr := by conv => lhs; simp [hN, hj])
  refine AWp.cn ?_
  refine AWp.exit ?_
  rw [pkA_end hj1] at hpk
  clear hj hj1
  obtain rfl : A = j := hA.trans hpk.symm
  clear hpk
  refine AWp.rg [] [] ?_ (hr := by conv => lhs; simp [hN])
  by_cases hj : (A : Int) < N
  · have hj1 : A < s.size := by omega
    have h1d : s[A]? = some s[A] := by rw [getElem?_pos]
    generalize s[A] = d at h1d
    obtain ⟨dn, hdn⟩ : ∃ n : Int, (d.toNat : Int) = n := ⟨_, rfl⟩
    by_cases q7 : dn = 40
    · refine AWp.rg [] [] ?_ (hr := by conv => lhs; simp [hN, h1d, hdn, hj, q7])
      refine AWp.cy ?_
      have hbr : isBr d = true := by rw [isBr_of, Bool.or_eq_true, decide_eq_true_eq, decide_eq_true_eq]; omega
      rw [pkE_br h1d hbr] at hW
      rw [hW]
      refine AWp.rg [] [] ?_ (hr := by conv => lhs; simp [hN, h1d, hdn, hj, q7])
      refine AWp.ret ?_
      try dsimp only [thenQ, blockQ]
      apply endC.ret
      · rfl
      · conv => lhs; simp [resAV, Tryd.results90]
      · first | rfl | simp
      · simp [moEnd, memGet]
    by_cases q8 : dn = 41
    · refine AWp.rg [] [] ?_ (hr := by conv => lhs; simp [hN, h1d, hdn, hj, q7, q8])
      refine AWp.cy ?_
      have hbr : isBr d = true := by rw [isBr_of, Bool.or_eq_true, decide_eq_true_eq, decide_eq_true_eq]; omega
      rw [pkE_br h1d hbr] at hW
      rw [hW]
      refine AWp.rg [] [] ?_ (hr := by conv => lhs; simp [hN, h1d, hdn, hj, q7, q8])
      refine AWp.ret ?_
      try dsimp only [thenQ, blockQ]
      apply endC.ret
      · rfl
      · conv => lhs; simp [resAV, Tryd.results90]
      · first | rfl | simp
      · simp [moEnd, memGet]
    refine AWp.rg [] [] ?_ (hr := by conv => lhs; simp [hN, h1d, hdn, hj, q7, q8])
    refine AWp.cn ?_
    refine AWp.skip ?_
    repeat (first | refine AWp.seq ?_ | refine AWp.block ?_)
    refine AWp.loop (σ := fun u : {u : Nat // (pkV s u = pkV s A ∧ A ≤ u ∧ u ≤ s.size)} => ⟨117, [(0, .ptr 1000 0), (3, .d (.int (u.1 : Int)))], [(1000, some (.blk 102 [.d (.str s), .d (.int (A : Int)), .d (.int e)]))]⟩)
      (μ := fun u => s.size - u.1) ⟨A, ⟨rfl, Nat.le_refl _, hjl⟩⟩ (Le.sub (by simp) (by simp)) (fun ⟨k, hw⟩ => ?_)
    dsimp only
    obtain ⟨hpk, hk0, hkl⟩ := hw
    by_cases hj : (k : Int) < N
    · have hj1 : k < s.size := by omega
      have h1c : s[k]? = some s[k] := by rw [getElem?_pos]
      generalize s[k] = c at h1c
      obtain ⟨cn, hcn⟩ : ∃ n : Int, (c.toNat : Int) = n := ⟨_, rfl⟩
      have hbl := sp_blank c
      obtain ⟨q, hq⟩ : ∃ q, isBl c = q := ⟨_, rfl⟩
      rw [hq, hcn] at hbl
      cases q with
      | true =>
        refine AWp.rg [] [.p (fun _ => .d (.bool true)) none] ?_ (hr := by conv => lhs; simp [hN, h1d, hdn, h1c, hcn, hj, q7, q8])
        refine AWp.cn ?_
        refine AWp.exit ?_
        have hst := pkV_stop h1c (by rw [hq]; rfl)
        have hbr : isBr d = false := by rw [isBr_of, Bool.or_eq_false_iff, decide_eq_false_iff_not, decide_eq_false_iff_not]; omega
        rw [pkE_wd h1d hbr] at hW
        rw [hst] at hpk
        rw [← hpk] at hW
        rw [hW]
        refine AWp.dw [] [] mixed ?_ (hr := by conv => lhs; simp [hN, h1d, hdn, h1c, hcn, hj, q7, q8])
        refine AWp.ret ?_
        try dsimp only [thenQ, blockQ]
        apply endC.ret
        · rfl
        · conv => lhs; simp [resAV, Tryd.results90]
        · first | rfl | simp
        · simp [moEnd, memGet]
      | false =>
        by_cases q9 : cn = 40
        · have q9t := eq_true q9
          refine AWp.rg [] [.p (fun _ => .d (.bool false)) none] ?_ (hr := by conv => lhs; simp [hN, h1d, hdn, h1c, hcn, hj, q7, q8, q9t])
          refine AWp.cn ?_
          refine AWp.exit ?_
          have hst := pkV_stop h1c (by rw [Bool.or_eq_true, isBr_of, Bool.or_eq_true, decide_eq_true_eq, decide_eq_true_eq]; omega)
          have hbr : isBr d = false := by rw [isBr_of, Bool.or_eq_false_iff, decide_eq_false_iff_not, decide_eq_false_iff_not]; omega
          rw [pkE_wd h1d hbr] at hW
          rw [hst] at hpk
          rw [← hpk] at hW
          rw [hW]
          refine AWp.dw [] [] mixed ?_ (hr := by conv => lhs; simp [hN, h1d, hdn, h1c, hcn, hj, q7, q8, q9t])
          refine AWp.ret ?_
          try dsimp only [thenQ, blockQ]
          apply endC.ret
          · rfl
          · conv => lhs; simp [resAV, Tryd.results90]
          · first | rfl | simp
          · simp [moEnd, memGet]
        by_cases q10 : cn = 41
        · have q10t := eq_true q10
          refine AWp.rg [] [.p (fun _ => .d (.bool false)) none] ?_ (hr := by conv => lhs; simp [hN, h1d, hdn, h1c, hcn, hj, q7, q8, q9, q10t])
          refine AWp.cn ?_
          refine AWp.exit ?_
          have hst := pkV_stop h1c (by rw [Bool.or_eq_true, isBr_of, Bool.or_eq_true, decide_eq_true_eq, decide_eq_true_eq]; omega)
          have hbr : isBr d = false := by rw [isBr_of, Bool.or_eq_false_iff, decide_eq_false_iff_not, decide_eq_false_iff_not]; omega
          rw [pkE_wd h1d hbr] at hW
          rw [hst] at hpk
          rw [← hpk] at hW
          rw [hW]
          refine AWp.dw [] [] mixed ?_ (hr := by conv => lhs; simp [hN, h1d, hdn, h1c, hcn, hj, q7, q8, q9, q10t])
          refine AWp.ret ?_
          try dsimp only [thenQ, blockQ]
          apply endC.ret
          · rfl
          · conv => lhs; simp [resAV, Tryd.results90]
          · first | rfl | simp
          · simp [moEnd, memGet]
        refine AWp.rg [] [.p (fun _ => .d (.bool false)) none] ?_ (hr := by conv => lhs; simp [hN, h1d, hdn, h1c, hcn, hj, q7, q8, q9, q10])
        refine AWp.cy ?_
        refine AWp.skip ?_
        refine AWp.rg [] [] ?_ (hr := by conv => lhs; simp [hN, h1d, hdn, h1c, hcn, hj, q7, q8, q9, q10])
        refine ⟨⟨k + 1, ⟨by rw [pkV_on h1c hq (by rw [isBr_of, Bool.or_eq_false_iff, decide_eq_false_iff_not, decide_eq_false_iff_not]; omega)]; exact hpk, by omega, by omega⟩⟩, by dsimp only; omega, ?_⟩
        dsimp only
        exact Le.sub (by simp [hN]) (by simp [hN])
    have hj1 : s.size ≤ k := by omega
    refine AWp.rg [] [] ?_ (hr := by conv => lhs; simp [hN, h1d, hdn, hj, q7, q8])
    refine AWp.cn ?_
    refine AWp.exit ?_
    have hst := pkV_end hj1
    have hbr : isBr d = false := by rw [isBr_of, Bool.or_eq_false_iff, decide_eq_false_iff_not, decide_eq_false_iff_not]; omega
    rw [pkE_wd h1d hbr] at hW
    rw [hst] at hpk
    rw [← hpk] at hW
    rw [hW]
    refine AWp.dw [] [] mixed ?_ (hr := by conv => lhs; simp [hN, h1d, hdn, hj, q7, q8])
    refine AWp.ret ?_
    try dsimp only [thenQ, blockQ]
    apply endC.ret
    · rfl
    · conv => lhs; simp [resAV, Tryd.results90]
    · first | rfl | simp
    · simp [moEnd, memGet]
  have hj1 : s.size ≤ A := by omega
  have hA1 := hj1
  refine AWp.rg [] [] ?_ (hr := by conv => lhs; simp [hN, hj])
  refine AWp.cn ?_
  refine AWp.skip ?_
  repeat (first | refine AWp.seq ?_ | refine AWp.block ?_)
  refine AWp.loop (σ := fun u : {u : Nat // (pkV s u = pkV s A ∧ A ≤ u ∧ u ≤ s.size)} => ⟨117, [(0, .ptr 1000 0), (3, .d (.int (u.1 : Int)))], [(1000, some (.blk 102 [.d (.str s), .d (.int (A : Int)), .d (.int e)]))]⟩)
    (μ := fun u => s.size - u.1) ⟨A, ⟨rfl, Nat.le_refl _, hjl⟩⟩ (Le.sub (by simp) (by simp)) (fun ⟨k, hw⟩ => ?_)
  dsimp only
  obtain ⟨hpk, hk0, hkl⟩ := hw
  by_cases hj : (k : Int) < N
  · have hj1 : k < s.size := by omega
    have h1c : s[k]? = some s[k] := by rw [getElem?_pos]
    generalize s[k] = c at h1c
    obtain ⟨cn, hcn⟩ : ∃ n : Int, (c.toNat : Int) = n := ⟨_, rfl⟩
    have hbl := sp_blank c
    obtain ⟨q, hq⟩ : ∃ q, isBl c = q := ⟨_, rfl⟩
    rw [hq, hcn] at hbl
    cases q with
    | true =>
      refine AWp.rg [] [.p (fun _ => .d (.bool true)) none] ?_ (hr := by conv => lhs; simp [hN, h1c, hcn, hj])
      refine AWp.cn ?_
      refine AWp.exit ?_
      have hst := pkV_stop h1c (by rw [hq]; rfl)
      rw [show pkE s A = pkV s A from by rw [pkE_end hA1, pkV_end hA1]] at hW
      rw [hst] at hpk
      rw [← hpk] at hW
      rw [hW]
      refine AWp.dw [] [] mixed ?_ (hr := by conv => lhs; simp [hN, h1c, hcn, hj])
      refine AWp.ret ?_
      try dsimp only [thenQ, blockQ]
      apply endC.ret
      · rfl
      · conv => lhs; simp [resAV, Tryd.results90]
      · first | rfl | simp
      · simp [moEnd, memGet]
    | false =>
      by_cases q11 : cn = 40
      · have q11t := eq_true q11
        refine AWp.rg [] [.p (fun _ => .d (.bool false)) none] ?_ (hr := by conv => lhs; simp [hN, h1c, hcn, hj, q11t])
        refine AWp.cn ?_
        refine AWp.exit ?_
        have hst := pkV_stop h1c (by rw [Bool.or_eq_true, isBr_of, Bool.or_eq_true, decide_eq_true_eq, decide_eq_true_eq]; omega)
        rw [show pkE s A = pkV s A from by rw [pkE_end hA1, pkV_end hA1]] at hW
        rw [hst] at hpk
        rw [← hpk] at hW
        rw [hW]
        refine AWp.dw [] [] mixed ?_ (hr := by conv => lhs; simp [hN, h1c, hcn, hj, q11t])
        refine AWp.ret ?_
        try dsimp only [thenQ, blockQ]
        apply endC.ret
        · rfl
        · conv => lhs; simp [resAV, Tryd.results90]
        · first | rfl | simp
        · simp [moEnd, memGet]
      by_cases q12 : cn = 41
      · have q12t := eq_true q12
        refine AWp.rg [] [.p (fun _ => .d (.bool false)) none] ?_ (hr := by conv => lhs; simp [hN, h1c, hcn, hj, q11, q12t])
        refine AWp.cn ?_
        refine AWp.exit ?_
        have hst := pkV_stop h1c (by rw [Bool.or_eq_true, isBr_of, Bool.or_eq_true, decide_eq_true_eq, decide_eq_true_eq]; omega)
        rw [show pkE s A = pkV s A from by rw [pkE_end hA1, pkV_end hA1]] at hW
        rw [hst] at hpk
        rw [← hpk] at hW
        rw [hW]
        refine AWp.dw [] [] mixed ?_ (hr := by conv => lhs; simp [hN, h1c, hcn, hj, q11, q12t])
        refine AWp.ret ?_
        try dsimp only [thenQ, blockQ]
        apply endC.ret
        · rfl
        · conv => lhs; simp [resAV, Tryd.results90]
        · first | rfl | simp
        · simp [moEnd, memGet]
      refine AWp.rg [] [.p (fun _ => .d (.bool false)) none] ?_ (hr := by conv => lhs; simp [hN, h1c, hcn, hj, q11, q12])
      refine AWp.cy ?_
      refine AWp.skip ?_
      refine AWp.rg [] [] ?_ (hr := by conv => lhs; simp [hN, h1c, hcn, hj, q11, q12])
      refine ⟨⟨k + 1, ⟨by rw [pkV_on h1c hq (by rw [isBr_of, Bool.or_eq_false_iff, decide_eq_false_iff_not, decide_eq_false_iff_not]; omega)]; exact hpk, by omega, by omega⟩⟩, by dsimp only; omega, ?_⟩
      dsimp only
      exact Le.sub (by simp [hN]) (by simp [hN])
  have hj1 : s.size ≤ k := by omega
  refine AWp.rg [] [] ?_ (hr := by conv => lhs; simp [hN, hj])
  refine AWp.cn ?_
  refine AWp.exit ?_
  have hst := pkV_end hj1
  rw [show pkE s A = pkV s A from by rw [pkE_end hA1, pkV_end hA1]] at hW
  rw [hst] at hpk
  rw [← hpk] at hW
  rw [hW]
  refine AWp.dw [] [] mixed ?_ (hr := by conv => lhs; simp [hN, hj])
  refine AWp.ret ?_
  try dsimp only [thenQ, blockQ]
  apply endC.ret
  · rfl
  · conv => lhs; simp [resAV, Tryd.results90]
  · first | rfl | simp
  · simp [moEnd, memGet]
end Go.Proofs.YtapiiklnnkkdlaaDoor
