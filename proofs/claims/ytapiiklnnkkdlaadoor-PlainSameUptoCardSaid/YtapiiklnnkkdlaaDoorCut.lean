import Derived.Test.YtapiiklnnkkdlaaDoorOpen
/- The abstract machine: an own array known shorter. -/
namespace Go.Proofs.YtapiiklnnkkdlaaDoor
open Go.RowKit
set_option linter.unusedVariables false
mutual
def AV.inK (o k : Nat) : AV → Prop
  | .arr o' lo n => o' = o → lo + n ≤ k
  | .agg cs => AV.inKL o k cs
  | .tuple cs => AV.inKL o k cs
  | .clo _ cs => AV.inKL o k cs
  | _ => True
def AV.inKL (o k : Nat) : List AV → Prop
  | [] => True
  | x :: r => AV.inK o k x ∧ AV.inKL o k r
end
theorem AV.inKL_get {o k : Nat} {l : List AV} (h : AV.inKL o k l) (i : Nat) (c : AV) (hi : l[i]? = some c) : c.inK o k := by
  induction l generalizing i with
  | nil => simp at hi
  | cons x r ih =>
    rcases i with _ | i
    · simp at hi; subst hi; exact h.1
    · simp at hi; exact ih h.2 i hi
def frInK (o k : Nat) : List (Nat × AV) → Prop
  | [] => True
  | x :: r => x.2.inK o k ∧ frInK o k r
def memInK (o k : Nat) : List (Nat × Option AObj) → Prop
  | [] => True
  | x :: r => (match x.2 with | some (.blk _ cs) => AV.inKL o k cs | _ => True) ∧ memInK o k r
theorem frInK_get {o k : Nat} : ∀ {f : List (Nat × AV)} (h : frInK o k f) (t : Nat), (frGet f t).inK o k
  | [], _, t => by simp [frGet, AV.inK]
  | x :: r, h, t => by
    simp only [frGet]
    split
    · exact h.1
    · exact frInK_get h.2 t
theorem memInK_get {o k : Nat} : ∀ {f : List (Nat × Option AObj)} (h : memInK o k f) (i : Nat) (t : TypeId) (cs : List AV), memGet f i = some (.blk t cs) → AV.inKL o k cs
  | [], _, i, t, cs, hi => by simp [memGet] at hi
  | x :: r, h, i, t, cs, hi => by
    simp only [memGet] at hi
    split at hi
    · have := h.1
      rw [hi] at this
      exact this
    · exact memInK_get h.2 i t cs hi
section
variable {w : World} {ok : Nat → Prop} {g : Gh} {m m' : Me}
theorem VR.cut {o k : Nat} {e : TypeId} {sz : Nat} {rows : List (List D)} {c : AV} {v : Value} (h : VR w ok g m c v) (hx : m o = some (.arr e sz rows)) (hk : k ≤ rows.length)
    (hm : ∀ i, m' i = if i = o then some (.arr e sz (rows.take k)) else m i) : c.inK o k → VR w ok g m' c v := by
  induction h with
  | any v => exact fun _ => .any v
  | d d v h => exact fun _ => .d d v h
  | lit v h => exact fun _ => .lit v h
  | fl rows v h hr => exact fun _ => .fl rows v h hr
  | ptr o1 off v hv h =>
    refine fun _ => .ptr o1 off v hv fun x hx' => ?_
    rw [hm] at hx'
    split at hx'
    · rename_i h1; rw [h1] at h ⊢; exact h _ hx
    · exact h x hx'
  | arr o1 lo n v hv h =>
    refine fun hc => .arr o1 lo n v hv fun e' sz' rows' hx' => ?_
    rw [hm] at hx'
    split at hx'
    · rename_i h1
      simp only [Option.some.injEq, AObj.arr.injEq] at hx'
      obtain ⟨rfl, rfl, rfl⟩ := hx'
      have := hc h1
      rw [h1] at h ⊢
      refine ⟨by rw [List.length_take]; omega, (h _ _ _ hx).2⟩
    · exact h _ _ _ hx'
  | eptr o1 i j v hv h =>
    refine fun _ => .eptr o1 i j v hv fun e' sz' rows' hx' => ?_
    rw [hm] at hx'
    split at hx'
    · rename_i h1
      simp only [Option.some.injEq, AObj.arr.injEq] at hx'
      obtain ⟨rfl, rfl, rfl⟩ := hx'
      rw [h1] at h ⊢
      exact h _ _ _ hx
    · exact h _ _ _ hx'
  | mp o1 v hv h =>
    refine fun _ => .mp o1 v hv fun x hx' => ?_
    rw [hm] at hx'
    split at hx'
    · rename_i h1; rw [h1] at h ⊢; exact h _ hx
    · exact h x hx'
  | agg cs vs hl h h1 ih => exact fun hc => .agg cs vs hl (fun i c v hi hv => ih i c v hi hv (AV.inKL_get hc i c hi)) h1
  | tuple cs vs hl h ih => exact fun hc => .tuple cs vs hl (fun i c v hi hv => ih i c v hi hv (AV.inKL_get hc i c hi))
  | clo f cs vs hl h ih => exact fun hc => .clo f cs vs hl (fun i c v hi hv => ih i c v hi hv (AV.inKL_get hc i c hi))
end
theorem Le.cut {s : AS} (o k : Nat) {e : TypeId} {sz : Nat} {rows rows' : List (List D)} (hx : memGet s.mem o = some (.arr e sz rows)) (hr : rows.take k = rows') (hk : k ≤ rows.length)
    (hf : frInK o k s.fr) (hmm : memInK o k s.mem) : Le s ⟨s.n, s.fr, (o, some (.arr e sz rows')) :: s.mem⟩ := by
  subst hr
  rintro C a w ⟨ok, g, hM, h1, h2, h3⟩
  have em : ∀ i, memGet ((o, some (.arr e sz (rows.take k))) :: s.mem) i = if i = o then some (.arr e sz (rows.take k)) else memGet s.mem i := fun i => by
    simp only [memGet]
    by_cases h : i = o
    · rw [if_pos h, h]; simp
    · rw [if_neg h, if_neg (by simpa using fun h' => h h'.symm)]
  have vr : ∀ {c v}, VR w ok g (memGet s.mem) c v → c.inK o k → VR w ok g (memGet ((o, some (.arr e sz (rows.take k))) :: s.mem)) c v := fun h => h.cut hx hk em
  have inv : ∀ {i x}, memGet ((o, some (.arr e sz (rows.take k))) :: s.mem) i = some x → ∃ y, memGet s.mem i = some y := fun {i x} h => by
    rw [em] at h
    split at h
    · rename_i h1; exact ⟨_, h1 ▸ hx⟩
    · exact ⟨x, h⟩
  refine ⟨ok, g, ⟨fun i x hi => ?_, fun i j xi xj b hi hj hbi hbj => ?_, fun i x b hi hb => ?_, hM.okb, hM.okk, hM.size, hM.heap, hM.keep, hM.os, hM.tape, hM.output, hM.gi, hM.gb⟩, h1, h2, fun t => ?_⟩
  · rw [em] at hi
    split at hi
    · rename_i h1
      subst h1
      cases hi
      obtain ⟨k1, k2, k3⟩ := hM.obj _ _ hx
      have hlt : ∀ (j : Nat) (r : List D), (rows.take k)[j]? = some r → rows[j]? = some r := fun j r h => by
        rw [List.getElem?_take] at h
        split at h
        · exact h
        · cases h
      refine ⟨k1, fun j r hj => k2 j r (hlt j r hj), ?_⟩
      rcases k3 with ⟨k3, rfl⟩ | ⟨b, cur, k3, k4, k5, k6, k7, k8⟩
      · exact .inl ⟨k3, by simp⟩
      · exact .inr ⟨b, cur, k3, k4, by rw [List.length_take]; omega, k6, k7, fun i j r c v hi => k8 i j r c v (hlt i r hi)⟩
    · rename_i h1
      have hO := hM.obj _ _ hi
      cases x with
      | blk t cs =>
        obtain ⟨b, vs, k1, k2, k3, k4, k5⟩ := hO
        exact ⟨b, vs, k1, k2, k3, fun j c v hc hv => vr (k4 j c v hc hv) (AV.inKL_get (memInK_get hmm i t cs hi) j c hc), k5⟩
      | arr e sz rows => exact hO
      | map ks ag n ents => exact hO
      | raw r => exact hO
  · obtain ⟨_, hi⟩ := inv hi
    obtain ⟨_, hj⟩ := inv hj
    exact hM.inj _ _ _ _ b hi hj hbi hbj
  · obtain ⟨_, hi⟩ := inv hi
    exact hM.own _ _ b hi hb
  · exact vr (h3 t) (frInK_get hf t)
theorem endC.le {P : Program} {fn : Func} {r : AV} {m' : Mo} {x : Exit} {s s' : AS} (hl : Le s s') (h : endC P fn r m' x s') : endC P fn r m' x s := by
  obtain ⟨h1, s2, h2, h3⟩ := h
  exact ⟨h1, s2, hl.trans h2, h3⟩
end Go.Proofs.YtapiiklnnkkdlaaDoor
