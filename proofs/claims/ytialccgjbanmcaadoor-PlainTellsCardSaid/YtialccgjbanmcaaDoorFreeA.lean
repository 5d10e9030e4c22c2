/- The names that a term needs: plainly; functions that give an array of their own. -/
import Derived.Test.YtialccgjbanmcaaDoorNamesC
namespace Go.Proofs.YtialccgjbanmcaaDoor
open Go.RowKit
set_option linter.unusedVariables false
set_option linter.unusedSimpArgs false

/-- How a function ends that gives an array of its own, whichever of its objects it is. -/
def endX (P : Program) (fn : Func) (r : Nat → AV) (x : Option AObj) : Exit → AS → Prop := fun e s => ∃ o, (∀ d, r d = (r o).ren (fun _ => d)) ∧ (∀ i ∈ (r o).ids, i = o) ∧ endQ P fn r x o e s
theorem endX.ret {P : Program} {fn : Func} {n : Nat} (o : Nat) {s : AS} {cs : List AV} {y : AObj} (h : resAV P s fn.results.toList = some cs) (hr : (resVal cs).nilD = .arr o 0 n) (hx : memGet s.mem o = some y) (ho : Nat.ble 500 o = false) : endX P fn (fun d => .arr d 0 n) (some y) .ret s :=
  ⟨o, fun _ => rfl, by simp [AV.ids, idsL], .inl rfl, s, Le.refl s, cs, h, hr, rfl, fun z hz => by cases hz; exact ⟨hx, ho⟩⟩
theorem PSpec.ofArrX {P : Program} {k : Nat} {fn : Func} {c : Code} (hf : P.funcs[k]? = some fn) (hnm : (fn.name == "runtime.NumGoroutine") = false) (hb : fn.body = some c) {args : List AV} (r : Nat → AV) {e : TypeId} {sz : Nat} {rows : List (List D)} (hn : args.length ≤ fn.ntmps)
    (hrcl : ∀ d, (r d).has (fun i => !(d == i)) = false) (h : AWp P c (endX P fn r (some (.arr e sz rows))) (startAS fn.ntmps args)) : PSpec P k args r (some (.arr e sz rows)) := by
  refine ⟨⟨fn, hf, hnm, by rw [hb]; rfl⟩, hrcl, (fun h => by cases h), fun y hy => ⟨e, sz, rows, by cases hy; rfl⟩, fun d w ok vals hgi hok hl hv => ?_⟩
  refine calls_of_wp hf hb ?_
  have hst : St ⟨w, ok, fun _ => False, noG⟩ (startAS fn.ntmps args) { tmps := vals ++ Array.replicate (fn.ntmps - vals.size) undef, defers := [] } w := by
    refine ⟨ok, noG, ⟨(fun o x hx => by cases hx), (fun i j xi xj b hi => by cases hi), (fun i x b hi => by cases hi), fun b hb => ⟨hok b hb, .inl hb⟩, fun b hb => hb, Nat.le_refl _, fun b _ _ => rfl, fun i _ => ⟨rfl, rfl⟩, rfl, rfl, rfl, hgi, fun _ _ h => h⟩, by simp [startAS]; omega, rfl, fun t => ?_⟩
    exact frStart (C := ⟨w, ok, fun _ => False, noG⟩) hl hn hv t
  refine wp_mono (h _ _ w hst) ?_
  rintro ex a' w' ⟨s, ⟨o, hren, hids, he, s', hle, cs, hres, hr, hrn, hx⟩, hs⟩
  obtain ⟨ok', g, hM, h1, h2, h3⟩ := hle _ _ _ hs
  obtain ⟨v, hv1, hv2⟩ := results_ok hM h3 hres
  obtain ⟨hxo, hxs⟩ := hx _ rfl
  have hv2 := hv2.nilD
  rw [hr, hrn] at hv2
  have hfin : a'.defers = [] ∧ ∃ v, (results fn a'.tmps).run P w' = .ok v w' ∧ ∃ v' ok' g', Ending.returned v = .returned v' ∧ Below w.heap.size w w' ∧ (∀ b, ok b → ok' b) ∧ (∀ b, ok' b → ok b ∨ (w.heap.size ≤ b ∧ b < w'.heap.size)) ∧ VR w' ok' g' (oneM d (some (.arr e sz rows))) (r d) v' ∧
      (∀ y, (some (.arr e sz rows) : Option AObj) = some y → OR w' ok' g' (oneM d (some (.arr e sz rows))) d y ∧ ∀ b, g'.bl d = some b → ¬ ok' b ∧ w.heap.size ≤ b ∧ b < w'.heap.size) := by
    refine ⟨h2, v, hv1, v, ok', ⟨fun _ => g.bl o, fun _ => g.cp o⟩, rfl, ⟨hM.os, hM.tape, hM.output, hM.size, fun b hb => hM.heap b hb (fun h => h)⟩, hM.okk, fun b hb => ?_, ?_, fun y hy => ?_⟩
    · obtain ⟨k1, k2⟩ := hM.okb b hb
      rcases k2 with k2 | k2
      · exact .inl k2
      · exact .inr ⟨k2, k1⟩
    · rw [hren d]
      refine VR.reren _ hv2 fun i hi => ?_
      have := hids i hi
      subst this
      exact ⟨_, hxo, by simp [oneM, AObj.ren], rfl, rfl⟩
    · cases hy
      have hO := hM.obj o _ hxo
      refine ⟨hO, fun b hb => ?_⟩
      obtain ⟨k1, k2, k3⟩ := hM.own o _ b hxo hb
      refine ⟨k1, ?_, k2⟩
      rcases k3 with k3 | ⟨k3, _⟩
      · exact k3
      · exact k3.elim
  rcases he with rfl | rfl
  · exact hfin
  · exact hfin


mutual
/-- The names that a term needs. -/
def Tm.free : Tm → List ByteArray
  | .mk k _ a _ _ xs cs => if k = 1 then [a] else if k = 6 ∧ xs.length = 2 then Tm.freeL a [] xs else Cs.frees (Tm.frees (if 8 ≤ k ∧ k ≤ 11 then [a] else []) xs) cs
def Tm.frees : List ByteArray → List Tm → List ByteArray
  | o, [] => o
  | o, x :: r => Tm.frees (addN o x.free) r
def Tm.freeL (a : ByteArray) : List ByteArray → List Tm → List ByteArray
  | o, [] => o
  | o, x :: r => Tm.freeB a (addN o x.free) r
def Tm.freeB (a : ByteArray) : List ByteArray → List Tm → List ByteArray
  | o, [] => o
  | o, x :: _ => addN o (woN x.free [a])
def Cs.frees : List ByteArray → List Cs → List ByteArray
  | o, [] => o
  | o, c :: r => Cs.frees (addN o c.freeC) r
def Cs.freeC : Cs → List ByteArray
  | .mk _ vs b => woN b.free vs
end
theorem Tm.frees_eq (l : List Tm) : ∀ o, Tm.frees o l = l.foldl (fun o x => addN o x.free) o := by
  induction l with
  | nil => intro o; simp [Tm.frees]
  | cons x r ih => intro o; simp [Tm.frees, ih]
theorem Cs.frees_eq (l : List Cs) : ∀ o, Cs.frees o l = l.foldl (fun o x => addN o x.freeC) o := by
  induction l with
  | nil => intro o; simp [Cs.frees]
  | cons x r ih => intro o; simp [Cs.frees, ih]

theorem nodup_addN (more : List ByteArray) : ∀ l : List ByteArray, l.Nodup → (addN l more).Nodup := by
  induction more with
  | nil => intro l h; simpa [addN] using h
  | cons s more ih =>
    intro l h
    have := ih (if hasB l s then l else l ++ [s]) (by
      split
      · exact h
      · rename_i hs
        have hs' := hasB_not.1 (by simpa using hs)
        rw [List.nodup_append]
        exact ⟨h, by simp, fun x hx y hy => by simp at hy; subst hy; rintro rfl; exact hs' hx⟩)
    simpa only [addN, List.foldl_cons] using this
theorem addN_app (more : List ByteArray) : ∀ l : List ByteArray, (l ++ more).Nodup → addN l more = l ++ more := by
  induction more with
  | nil => intro l h; simp [addN]
  | cons s more ih =>
    intro l h
    have hs : hasB l s = false := hasB_not.2 fun hm => by
      rw [List.nodup_append] at h
      exact h.2.2 s hm s (List.mem_cons_self ..) rfl
    have := ih (l ++ [s]) (by simpa using h)
    simp only [addN, List.foldl_cons, hs] at this ⊢
    simpa using this
theorem addN_nil {l : List ByteArray} (h : l.Nodup) : addN [] l = l := by simpa using addN_app l [] (by simpa using h)

theorem frees_nodup (l : List Tm) : ∀ o : List ByteArray, o.Nodup → (l.foldl (fun o x => addN o x.free) o).Nodup := by
  induction l with
  | nil => intro o h; exact h
  | cons x r ih => intro o h; exact ih _ (nodup_addN _ _ h)
theorem freesC_nodup (l : List Cs) : ∀ o : List ByteArray, o.Nodup → (l.foldl (fun o x => addN o x.freeC) o).Nodup := by
  induction l with
  | nil => intro o h; exact h
  | cons x r ih => intro o h; exact ih _ (nodup_addN _ _ h)
theorem Tm.free_nodup (t : Tm) : t.free.Nodup := by
  obtain ⟨k, n, a, b, vs, xs, cs⟩ := t
  simp only [Tm.free]
  split
  · simp
  split
  · rename_i h
    obtain ⟨_, h2⟩ := h
    match xs, h2 with
    | [x, y], _ => simp only [Tm.freeL, Tm.freeB]; exact nodup_addN _ _ (nodup_addN _ _ (by simp))
  · rw [Tm.frees_eq, Cs.frees_eq]
    refine freesC_nodup _ _ (frees_nodup _ _ ?_)
    split <;> simp

mutual
theorem Tm.free_len : ∀ t : Tm, t.free.length ≤ t.sz
  | .mk k n a b vs xs cs => by
    simp only [Tm.free, Tm.sz]
    split
    · simp; omega
    split
    · have := Tm.freeL_len a xs []
      simp at this; omega
    · have h1 := Tm.frees_len xs (if 8 ≤ k ∧ k ≤ 11 then [a] else [])
      have h2 := Cs.frees_len cs (Tm.frees (if 8 ≤ k ∧ k ≤ 11 then [a] else []) xs)
      have h3 : (if 8 ≤ k ∧ k ≤ 11 then [a] else []).length ≤ 1 := by split <;> simp
      omega
theorem Tm.frees_len : ∀ (l : List Tm) (o : List ByteArray), (Tm.frees o l).length ≤ o.length + Tm.szs l
  | [], o => by simp [Tm.frees]
  | x :: r, o => by
    have h1 := Tm.free_len x
    have h2 := Tm.frees_len r (addN o x.free)
    have h3 := addN_len x.free o
    simp only [Tm.frees, Tm.szs]
    omega
theorem Tm.freeL_len (a : ByteArray) : ∀ (l : List Tm) (o : List ByteArray), (Tm.freeL a o l).length ≤ o.length + Tm.szs l
  | [], o => by simp [Tm.freeL]
  | x :: r, o => by
    have h1 := Tm.free_len x
    have h2 := Tm.freeB_len a r (addN o x.free)
    have h3 := addN_len x.free o
    simp only [Tm.freeL, Tm.szs]
    omega
theorem Tm.freeB_len (a : ByteArray) : ∀ (l : List Tm) (o : List ByteArray), (Tm.freeB a o l).length ≤ o.length + Tm.szs l
  | [], o => by simp [Tm.freeB]
  | x :: r, o => by
    have h1 := Tm.free_len x
    have h3 := addN_len (woN x.free [a]) o
    have h4 := woN_len x.free [a]
    simp only [Tm.freeB, Tm.szs]
    omega
theorem Cs.frees_len : ∀ (l : List Cs) (o : List ByteArray), (Cs.frees o l).length ≤ o.length + Cs.szs l
  | [], o => by simp [Cs.frees]
  | x :: r, o => by
    have h1 := Cs.freeC_len x
    have h2 := Cs.frees_len r (addN o x.freeC)
    have h3 := addN_len x.freeC o
    simp only [Cs.frees, Cs.szs]
    omega
theorem Cs.freeC_len : ∀ (c : Cs), c.freeC.length ≤ c.sz
  | .mk t vs b => by
    have h1 := Tm.free_len b
    have h4 := woN_len b.free vs
    simp only [Cs.freeC, Cs.sz]
    omega
end
theorem Tm.szs_take {l : List Tm} {i : Nat} {x : Tm} (hx : l[i]? = some x) : Tm.szs (l.take i) + x.sz ≤ Tm.szs l := by
  induction l generalizing i with
  | nil => simp at hx
  | cons y r ih =>
    cases i with
    | zero => simp at hx; subst hx; simp [Tm.szs]
    | succ i => have := ih (i := i) (by simpa using hx); simp only [List.take_succ_cons, Tm.szs]; omega
theorem Cs.szs_take {l : List Cs} {i : Nat} {x : Cs} (hx : l[i]? = some x) : Cs.szs (l.take i) + x.sz ≤ Cs.szs l := by
  induction l generalizing i with
  | nil => simp at hx
  | cons y r ih =>
    cases i with
    | zero => simp at hx; subst hx; simp [Cs.szs]
    | succ i => have := ih (i := i) (by simpa using hx); simp only [List.take_succ_cons, Cs.szs]; omega
theorem Tm.frees_snoc {o : List ByteArray} {l : List Tm} {i : Nat} {x : Tm} (hx : l[i]? = some x) : Tm.frees o (l.take (i + 1)) = addN (Tm.frees o (l.take i)) x.free := by
  rw [List.take_add_one, hx]
  simp [Tm.frees_eq]
theorem Cs.frees_snoc {o : List ByteArray} {l : List Cs} {i : Nat} {x : Cs} (hx : l[i]? = some x) : Cs.frees o (l.take (i + 1)) = addN (Cs.frees o (l.take i)) x.freeC := by
  rw [List.take_add_one, hx]
  simp [Cs.frees_eq]
end Go.Proofs.YtialccgjbanmcaaDoor
