/- Terms step by step, plainly. -/
import Derived.Test.YtialccgjbanmcaaDoorNameI
namespace Go.Proofs.YtialccgjbanmcaaDoor
open Go.RowKit
set_option linter.unusedVariables false
set_option linter.unusedSimpArgs false

/-- A step's name. -/
def wNm (c : Int) : ByteArray := ⟨#[119]⟩ ++ itoaB c
theorem lit119 : ((⟨#[119]⟩ : ByteArray).size ≤ maxLen) = True := eq_true (by show 1 ≤ 9223372036854775807; omega)
theorem wsz (e : Int) (h : inI e) : (wNm e).size ≤ 22 := by
  have := itoaB_size h
  show (⟨#[119]⟩ ++ itoaB e : ByteArray).size ≤ 22
  rw [ByteArray.size_append]
  have h1 : (⟨#[119]⟩ : ByteArray).size = 1 := rfl
  omega
theorem wNm_le (c : Int) : (wNm (wr c)).size ≤ 140737488355328 := by
  have := wsz (wr c) (wr_in c)
  omega

abbrev Bs := List (ByteArray × Tm)
def Tm.tk : Tm → Int
  | .mk k _ _ _ _ _ _ => k
def varT (s : ByteArray) : Tm := .mk 1 0 s .empty [] [] []
/-- Around a term what it needs, the first one outside. -/
def around : Bs → Tm → Tm
  | [], t => t
  | b :: r, t => .mk 6 0 b.1 .empty [] [b.2, around r t] []
theorem around_append : ∀ (x y : Bs) (t : Tm), around (x ++ y) t = around x (around y t)
  | [], _, _ => rfl
  | b :: r, y, t => by simp only [List.cons_append, around, around_append r y t]

mutual
def Tm.pl : Tm → Int → Tm × Int
  | .mk k n a b vs xs cs, c =>
    if k = 3 ∨ k = 4 ∨ k = 5 then (around (Tm.ats xs c).2.1 (.mk k n a .empty [] (Tm.ats xs c).1 []), (Tm.ats xs c).2.2)
    else if k = 6 then (.mk 6 0 a .empty [] (Tm.plL xs c).1 [], (Tm.plL xs c).2)
    else if k = 7 then (around (Tm.ats xs c).2.1 (.mk 7 0 .empty .empty [] (Tm.ats xs c).1 (Cs.plL cs (Tm.ats xs c).2.2).1), (Cs.plL cs (Tm.ats xs c).2.2).2)
    else (.mk k n a b vs xs cs, c)
/-- Names of terms; what they are; in turn. -/
def Tm.ats : List Tm → Int → List Tm × Bs × Int
  | [], c => ([], [], c)
  | x :: r, c => if x.tk = 1 then (x :: (Tm.ats r c).1, (Tm.ats r c).2.1, (Tm.ats r c).2.2)
    else (varT (wNm (wr (c + 1))) :: (Tm.ats r (x.pl (wr (c + 1))).2).1, (wNm (wr (c + 1)), (x.pl (wr (c + 1))).1) :: (Tm.ats r (x.pl (wr (c + 1))).2).2.1, (Tm.ats r (x.pl (wr (c + 1))).2).2.2)
def Tm.plL : List Tm → Int → List Tm × Int
  | [], c => ([], c)
  | x :: r, c => ((x.pl c).1 :: (Tm.plL r (x.pl c).2).1, (Tm.plL r (x.pl c).2).2)
def Cs.plL : List Cs → Int → List Cs × Int
  | [], c => ([], c)
  | d :: r, c => ((d.pl c).1 :: (Cs.plL r (d.pl c).2).1, (Cs.plL r (d.pl c).2).2)
def Cs.pl : Cs → Int → Cs × Int
  | .mk t ws y, c => (.mk t ws (y.pl c).1, (y.pl c).2)
end
theorem ats_len : ∀ (l : List Tm) (c : Int), (Tm.ats l c).1.length = l.length
  | [], _ => rfl
  | x :: r, c => by
    rw [Tm.ats]
    split <;> simp [ats_len r]
/-- A function, step by step. -/
def Fn.pl (f : Fn) : Fn := ⟨f.rn.name, f.rn.params, (f.rn.body.pl 0).1⟩

/-! ### The shape stays right, for terms of right programs -/
theorem rn_rt : ∀ (d : Nat) (t : Tm) (ps : Ps) (c : Int), t.Rt d → (t.rn ps c).1.Rt d := by
  intro d
  induction d with
  | zero => intro t _ _ h; exact h.elim
  | succ d ih =>
  intro t ps c hR
  obtain ⟨k, n, a, b, vs, xs, cs⟩ := t
  obtain ⟨h1, h2, h3, hx, hc⟩ := hR
  have hL : ∀ (ys : List Tm) (i : Nat) (nm : ByteArray) (c : Int), (∀ y ∈ ys, y ∈ xs) → (∀ y ∈ (Tm.rns k a ps i ys nm c).1, y.Rt d) ∧ (Tm.rns k a ps i ys nm c).1.length = ys.length := by
    intro ys
    induction ys with
    | nil => intro i nm c _; exact ⟨fun y h => by simp [Tm.rns] at h, rfl⟩
    | cons y r ih2 =>
      intro i nm c hm
      have hy := hm y (List.mem_cons_self ..)
      rw [Tm.rns]
      split
      · obtain ⟨h2, h4⟩ := ih2 (i + 1) (vNm (wr (c + 1))) (y.rn (ps ++ [(a, vNm (wr (c + 1)))]) (wr (c + 1))).2 (fun z hz => hm z (List.mem_cons_of_mem _ hz))
        exact ⟨fun z hz => (List.mem_cons.1 hz).elim (fun e => e ▸ ih y _ _ (hx y hy)) (h2 z), by simp [h4]⟩
      · obtain ⟨h2, h4⟩ := ih2 (i + 1) nm (y.rn ps c).2 (fun z hz => hm z (List.mem_cons_of_mem _ hz))
        exact ⟨fun z hz => (List.mem_cons.1 hz).elim (fun e => e ▸ ih y _ _ (hx y hy)) (h2 z), by simp [h4]⟩
  have hC : ∀ (ys : List Cs) (c : Int), (∀ y ∈ ys, y ∈ cs) → (∀ y ∈ (Cs.rnL ys ps c).1, y.2.length ≤ 6 ∧ y.3.Rt d) ∧ (Cs.rnL ys ps c).1.length = ys.length := by
    intro ys
    induction ys with
    | nil => intro c _; exact ⟨fun y h => by simp [Cs.rnL] at h, rfl⟩
    | cons y r ih2 =>
      intro c hm
      have hy := hc y (hm y (List.mem_cons_self ..))
      rw [Cs.rnL]
      obtain ⟨h2, h4⟩ := ih2 (y.rn ps c).2 (fun z hz => hm z (List.mem_cons_of_mem _ hz))
      obtain ⟨t, ws, z⟩ := y
      refine ⟨fun z hz => (List.mem_cons.1 hz).elim (fun e => ?_) (h2 z), by simp [h4]⟩
      rw [e, Cs.rn]
      exact ⟨by dsimp only; rw [freshL_len]; exact hy.1, ih _ _ _ hy.2⟩
  rw [Tm.rn]
  split
  · rename_i hk
    subst hk
    have h2' := h2
    unfold manyB at h2'
    simp at h2'
    obtain ⟨e1, e2⟩ := h2'
    subst e1 e2
    have h0 : Tm.Rt (d + 1) (.mk 1 n (nowP ps a) b vs [] []) := by
      rw [Tm.Rt]
      exact ⟨h1, h2, h3, by simp, by simp⟩
    exact h0
  · obtain ⟨q1, q2⟩ := hL xs 0 a c (fun _ h => h)
    obtain ⟨q3, q4⟩ := hC cs (Tm.rns k a ps 0 xs a c).2.2 (fun _ h => h)
    refine ⟨h1, ?_, ?_, q1, q3⟩
    · rw [q2, q4]; exact h2
    · rw [q2, q4]; exact h3
end Go.Proofs.YtialccgjbanmcaaDoor
