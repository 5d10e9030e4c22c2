/- Other names, plainly. -/
import Derived.Test.YtialccgjbanmcaaDoorItoa
import Derived.Test.YtialccgjbanmcaaDoorCheckP
namespace Go.Proofs.YtialccgjbanmcaaDoor
open Go.RowKit
set_option linter.unusedVariables false
set_option linter.unusedSimpArgs false

/-! ### Terms of right programs: their shape, so deep at most -/
def Tm.Rt : Nat → Tm → Prop
  | 0, _ => False
  | d + 1, .mk k n a b vs xs cs => (1 ≤ k ∧ k ≤ 7) ∧ manyB k xs.length cs.length = false ∧ xs.length + cs.length ≤ 6 ∧ (∀ x ∈ xs, Tm.Rt d x) ∧ (∀ c ∈ cs, c.2.length ≤ 6 ∧ Tm.Rt d c.3)
theorem wrong_rt (A : Arity) : ∀ (d : Nat) (t : Tm) (names : List ByteArray) (deep : Int), deep = 25 - (d : Int) → t.wrong A names deep = 0 → t.Rt d := by
  intro d
  induction d with
  | zero =>
    intro t names deep hd hw
    obtain ⟨k, n, a, b, vs, xs, cs⟩ := t
    obtain ⟨h1, _⟩ := wrong_zero hw
    omega
  | succ d ih =>
  intro t names deep hd hw
  obtain ⟨k, n, a, b, vs, xs, cs⟩ := t
  obtain ⟨h1, h2, h3, h4, h5, h6, h7⟩ := wrong_zero hw
  have hn6 := many_six h4 fun h => (h7 h).2.1
  refine ⟨⟨h2, h3⟩, h4, hn6, fun x hx => ?_, fun c hc => ?_⟩
  · obtain ⟨j, hj⟩ := List.mem_iff_getElem?.1 hx
    exact ih x _ (deep + 1) (by omega) (wrongs_zero h6 j x hj)
  · obtain ⟨t, ws, y⟩ := c
    by_cases h8 : k = 7
    · have h9 := cwrongs_zero (h7 h8).2.2 hc
      exact ⟨h9.2.2.2.2.1, ih y _ (deep + 1) (by omega) h9.2.2.2.2.2⟩
    · exfalso
      have h4' := h4
      unfold manyB at h4'
      simp only [Bool.or_eq_false_iff, Bool.and_eq_false_iff, decide_eq_false_iff_not] at h4'
      have := List.length_pos_of_mem hc
      omega

/-! ### Names -/
abbrev Ps := List (ByteArray × ByteArray)
def psR (p : ByteArray × ByteArray) : List D := [.str p.1, .str p.2]
abbrev psAV (ps : Ps) : AV := .d (.sl (ps.map psR))
/-- A new name. -/
def vNm (c : Int) : ByteArray := ⟨#[118]⟩ ++ itoaB c
theorem lit118 : ((⟨#[118]⟩ : ByteArray).size ≤ maxLen) = True := eq_true (by show 1 ≤ 9223372036854775807; omega)
/-- As many new names as there are names; the count is of 64 bits, and may run over. -/
def freshL : List ByteArray → Int → List ByteArray
  | [], _ => []
  | _ :: r, c => vNm (wr (c + 1)) :: freshL r (wr (c + 1))
def freshC : List ByteArray → Int → Int
  | [], c => c
  | _ :: r, c => freshC r (wr (c + 1))
theorem freshL_len : ∀ (l : List ByteArray) (c : Int), (freshL l c).length = l.length
  | [], _ => rfl
  | _ :: r, c => by simp [freshL, freshL_len r]
/-- What a name is called now: the last pair counts. -/
def nowP (ps : Ps) (s : ByteArray) : ByteArray := ps.foldl (fun o p => if p.1 = s then p.2 else o) s

mutual
def Tm.rn : Tm → Ps → Int → Tm × Int
  | .mk k n a b vs xs cs, ps, c => if k = 1 then (.mk k n (nowP ps a) b vs [] [], c)
    else (.mk k n (Tm.rns k a ps 0 xs a c).2.1 b vs (Tm.rns k a ps 0 xs a c).1 (Cs.rnL cs ps (Tm.rns k a ps 0 xs a c).2.2).1, (Cs.rnL cs ps (Tm.rns k a ps 0 xs a c).2.2).2)
def Tm.rns (k : Int) (a : ByteArray) (ps : Ps) : Nat → List Tm → ByteArray → Int → List Tm × ByteArray × Int
  | _, [], nm, c => ([], nm, c)
  | i, x :: r, nm, c => if k = 6 ∧ i = 1 then
      ((x.rn (ps ++ [(a, vNm (wr (c + 1)))]) (wr (c + 1))).1 :: (Tm.rns k a ps (i + 1) r (vNm (wr (c + 1))) (x.rn (ps ++ [(a, vNm (wr (c + 1)))]) (wr (c + 1))).2).1, (Tm.rns k a ps (i + 1) r (vNm (wr (c + 1))) (x.rn (ps ++ [(a, vNm (wr (c + 1)))]) (wr (c + 1))).2).2)
    else ((x.rn ps c).1 :: (Tm.rns k a ps (i + 1) r nm (x.rn ps c).2).1, (Tm.rns k a ps (i + 1) r nm (x.rn ps c).2).2)
def Cs.rnL : List Cs → Ps → Int → List Cs × Int
  | [], _, c => ([], c)
  | d :: r, ps, c => ((d.rn ps c).1 :: (Cs.rnL r ps (d.rn ps c).2).1, (Cs.rnL r ps (d.rn ps c).2).2)
def Cs.rn : Cs → Ps → Int → Cs × Int
  | .mk t ws y, ps, c => (.mk t (freshL ws c) (y.rn (ps ++ ws.zip (freshL ws c)) (freshC ws c)).1, (y.rn (ps ++ ws.zip (freshL ws c)) (freshC ws c)).2)
end
end Go.Proofs.YtialccgjbanmcaaDoor
