/- What is wrong with a term: plainly. -/
import Derived.Test.YtialccgjbanmcaaDoorCheckC
namespace Go.Proofs.YtialccgjbanmcaaDoor
open Go.RowKit
set_option linter.unusedVariables false
set_option linter.unusedSimpArgs false

/-- Several ways into one state, behind two or three statements. -/
theorem AWp.seqJ2 {P : Program} {Q : Exit → AS → Prop} {s : AS} {x y z : Code} (s0 : AS) (h2 : AWp P z Q s0) (h1 : ∀ W : AS → Prop, (∀ s', Le s' s0 → W s') → AWp P x (thenQ (AWp P y (thenQ W Q)) Q) s) : AWp P (.seq x (.seq y z)) Q s := by
  refine AWp.seq (AWp.mono (h1 (AWp P z Q) fun s' hl => AWp.le hl h2) ?_)
  intro e s' h
  cases e <;> first | exact h | exact AWp.seq h
theorem AWp.seqJ3 {P : Program} {Q : Exit → AS → Prop} {s : AS} {x y z u : Code} (s0 : AS) (h2 : AWp P u Q s0) (h1 : ∀ W : AS → Prop, (∀ s', Le s' s0 → W s') → AWp P x (thenQ (AWp P y (thenQ (AWp P z (thenQ W Q)) Q)) Q) s) : AWp P (.seq x (.seq y (.seq z u))) Q s := by
  refine AWp.seq (AWp.mono (h1 (AWp P u Q) fun s' hl => AWp.le hl h2) ?_)
  intro e s' h
  cases e <;> first | exact h | (refine AWp.seq (AWp.mono h ?_); intro e s' h; cases e <;> first | exact h | exact AWp.seq h)

/-- Several ways into one state, with what is known on all of them. -/
theorem AWp.seqJP1 {P : Program} {Q : Exit → AS → Prop} {s : AS} {x y : Code} (φ : Prop) (s0 : AS) (h2 : φ → AWp P y Q s0) (h1 : ∀ W : AS → Prop, (φ → ∀ s', Le s' s0 → W s') → AWp P x (thenQ W Q) s) : AWp P (.seq x y) Q s :=
  AWp.seq (h1 _ fun hφ s' hl => AWp.le hl (h2 hφ))
theorem AWp.seqJP2 {P : Program} {Q : Exit → AS → Prop} {s : AS} {x y z : Code} (φ : Prop) (s0 : AS) (h2 : φ → AWp P z Q s0) (h1 : ∀ W : AS → Prop, (φ → ∀ s', Le s' s0 → W s') → AWp P x (thenQ (AWp P y (thenQ W Q)) Q) s) : AWp P (.seq x (.seq y z)) Q s := by
  refine AWp.seq (AWp.mono (h1 (AWp P z Q) fun hφ s' hl => AWp.le hl (h2 hφ)) ?_)
  intro e s' h
  cases e <;> first | exact h | exact AWp.seq h
theorem AWp.seqJP3 {P : Program} {Q : Exit → AS → Prop} {s : AS} {x y z u : Code} (φ : Prop) (s0 : AS) (h2 : φ → AWp P u Q s0) (h1 : ∀ W : AS → Prop, (φ → ∀ s', Le s' s0 → W s') → AWp P x (thenQ (AWp P y (thenQ (AWp P z (thenQ W Q)) Q)) Q) s) : AWp P (.seq x (.seq y (.seq z u))) Q s := by
  refine AWp.seq (AWp.mono (h1 (AWp P u Q) fun hφ s' hl => AWp.le hl (h2 hφ)) ?_)
  intro e s' h
  cases e <;> first | exact h | (refine AWp.seq (AWp.mono h ?_); intro e s' h; cases e <;> first | exact h | exact AWp.seq h)
theorem AWp.seqJP4 {P : Program} {Q : Exit → AS → Prop} {s : AS} {x y z u v : Code} (φ : Prop) (s0 : AS) (h2 : φ → AWp P v Q s0) (h1 : ∀ W : AS → Prop, (φ → ∀ s', Le s' s0 → W s') → AWp P x (thenQ (AWp P y (thenQ (AWp P z (thenQ (AWp P u (thenQ W Q)) Q)) Q)) Q) s) : AWp P (.seq x (.seq y (.seq z (.seq u v)))) Q s := by
  refine AWp.seq (AWp.mono (h1 (AWp P v Q) fun hφ s' hl => AWp.le hl (h2 hφ)) ?_)
  intro e s' h
  cases e <;> first | exact h | (refine AWp.seq (AWp.mono h ?_); intro e s' h; cases e <;> first | exact h | (refine AWp.seq (AWp.mono h ?_); intro e s' h; cases e <;> first | exact h | exact AWp.seq h))

/-- Some slots and objects, and no more. -/
theorem AWp.keep {P : Program} {c : Code} {Q : Exit → AS → Prop} {s : AS} (lf lm : List Nat) {fr : List (Nat × AV)} {mem : List (Nat × Option AObj)} (hf : keepF s.fr lf = fr) (hm : keepM s.mem lm = mem) (h : AWp P c Q ⟨s.n, fr, mem⟩) : AWp P c Q s :=
  AWp.le (by have := Le.keep s lf lm; rw [hf, hm] at this; exact this) h

/-- How many parameters functions have: names, and their numbers. -/
abbrev Arity := List (ByteArray × Nat)
def Arity.get (f : Arity) (s : ByteArray) : Option Nat := (f.find? fun x => decide (x.1 = s)).map (·.2)
/-- What is wrong with a term's own words. -/
def headE (f : Arity) (k n : Int) (a : ByteArray) (names : List ByteArray) (na : Nat) : Int :=
  if k = 1 then (if hasB names a then 0 else 6)
  else if k = 2 then (if n < -2147483648 ∨ 2147483647 < n then 3 else 0)
  else if k = 3 then (if n < 0 ∨ 9 < n then 3 else 0)
  else if k = 5 then (if n < 1 ∨ 5 < n then 1 else 0)
  else if k = 6 then (if nameB a then 0 else 7)
  else if k = 4 then (match f.get a with | none => 6 | some m => if m = na then 0 else 5)
  else 0
/-- Are there too many, or too few? -/
def manyB (k : Int) (na nc : Nat) : Bool :=
  (if k = 3 ∨ k = 4 then decide (6 < na) else if k = 7 then decide (na ≠ 1) else if k = 5 ∨ k = 6 then decide (na ≠ 2) else decide (na ≠ 0)) || (decide (k ≠ 7) && decide (0 < nc))

mutual
def Tm.wrong (f : Arity) : Tm → List ByteArray → Int → Int
  | .mk k n a _ _ xs cs, names, deep =>
    if 24 < deep then 9 else if k < 1 ∨ 7 < k then 1 else if manyB k xs.length cs.length then 5
    else if headE f k n a names xs.length ≠ 0 then headE f k n a names xs.length
    else if Tm.wrongs f k a names deep 0 xs ≠ 0 then Tm.wrongs f k a names deep 0 xs
    else if k ≠ 7 then 0 else if cs.length = 0 ∨ 5 < cs.length then 5 else Cs.wrongs f names deep [] cs
def Tm.wrongs (f : Arity) (k : Int) (a : ByteArray) (names : List ByteArray) (deep : Int) : Nat → List Tm → Int
  | _, [] => 0
  | i, x :: r => if x.wrong f (if k = 6 ∧ i = 1 then names ++ [a] else names) (deep + 1) ≠ 0 then x.wrong f (if k = 6 ∧ i = 1 then names ++ [a] else names) (deep + 1) else Tm.wrongs f k a names deep (i + 1) r
def Cs.wrongs (f : Arity) (names : List ByteArray) (deep : Int) : List Int → List Cs → Int
  | _, [] => 0
  | had, c :: r => if Cs.wrongC f names deep had c ≠ 0 then Cs.wrongC f names deep had c else Cs.wrongs f names deep (c.tag :: had) r
def Cs.wrongC (f : Arity) (names : List ByteArray) (deep : Int) : List Int → Cs → Int
  | had, .mk t vs b => if t < 0 ∨ 9 < t then 3 else if (had.contains t || twB vs || badB vs) then 7 else if 6 < vs.length then 5 else b.wrong f (names ++ vs) (deep + 1)
end
end Go.Proofs.YtialccgjbanmcaaDoor
