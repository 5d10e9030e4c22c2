/- The abstract machine: a region's operations one by one; rounds over maps. -/
import Derived.Test.YtialccgjbanmcaaDoorEng2
import Derived.Maps.RangeRun
namespace Go.Proofs.YtialccgjbanmcaaDoor
open Go.RowKit
open Go.ChangeMaps (setBlock)
set_option linter.unusedVariables false

/-- Operations of a region, one behind the other (whatever stands ahead of them). -/
def AOps (P : Program) (ops : Array Oper) (l : List Oper) (Q : Exit → AS → Prop) (s : AS) : Prop :=
  ∀ C a w, St C s a w → wpList P ops (fun e a' w' => ∃ s', Q e s' ∧ St C s' a' w') l a w
theorem AWp.ops {P : Program} {Q : Exit → AS → Prop} {s : AS} {id : Nat} {l : List Oper} (h : AOps P l.toArray l Q s) : AWp P (.region id l.toArray false) Q s :=
  fun C a w hs => wp_region_lit (h C a w hs)
section
variable {P : Program} {Q : Exit → AS → Prop} {s : AS} {ops : Array Oper}
theorem AOps.nil (h : Q .normal s) : AOps P ops [] Q s := fun C a w hs => ⟨s, h, hs⟩
theorem AOps.le {l : List Oper} {s' : AS} (hl : Le s s') (h : AOps P ops l Q s') : AOps P ops l Q s := fun C a w hs => h C a w (hl C a w hs)
theorem AOps.run {l1 l2 : List Oper} (zs : List Nat) (hints : List Hint) {k : Nat} {rs : List Rc} {s' : AS} {p : Prop} (hr : runD P ops zs l1 k hints s = some (rs, s', p)) (hp : p) (h : AOps P ops l2 Q s') : AOps P ops (l1 ++ l2) Q s := fun C a w hs => by
  obtain ⟨h1, h2, h3, h4⟩ := runD_ok l1 k hints s s' rs p hr hp
  have key : ∀ (rs : List Rc) (s : AS) (a : Act) (w : World), Trace P ops rs s → runR rs s = s' → (∀ r ∈ rs, r.p) → St C s a w → wpList P ops (fun e a' w' => ∃ s', Q e s' ∧ St C s' a' w') (rs.map (·.o) ++ l2) a w := fun rs => by
    induction rs with
    | nil => intro s a w _ h2 _ hs; simp only [runR] at h2; subst h2; exact h C a w hs
    | cons r rs ih =>
      intro s a w h1 h2 h4 hs
      exact wpList_step fun K hK => StepR.wp h1.1 (fun _ => h4 r (by simp)) hs fun a' w' hs' => hK a' w' (ih (nextR s r) a' w' h1.2 h2 (fun x hx => h4 x (by simp [hx])) hs')
  rw [← h3]
  exact key rs s a w h1 h2 h4 hs

theorem wanted_none {o : Oper} (hg : o.guard = none) (y : Nat → Option Bool) : Region.wanted o y = true := by
  unfold Region.wanted
  rw [hg]

/-- An operation that yields a value. -/
theorem AOps.value {o : Oper} {rest : List Oper} (hg : o.guard = none) (h : ∀ C a w, St C s a w → ∃ v w' s', (execOp a.eval o).run P w = .ok (.value v) w' ∧ St C s' (a.put o.dst v) w' ∧ AOps P ops rest Q s') : AOps P ops (o :: rest) Q s := fun C a w hs => by
  refine wpList_step fun K hK => ?_
  obtain ⟨v, w', s', h1, h2, h3⟩ := h C a w hs
  rw [wanted_none hg]
  simp only [if_true]
  unfold Oper.wp
  rw [h1]
  exact hK _ _ (h3 C _ _ h2)
end

section
variable {C : Cx} {w : World} {ok : Nat → Prop} {g : Gh} {m : Me}
/-- A new block that is known raw. -/
theorem MS.newIter (hM : MS C w ok g m) (d : Nat) (hd : kept d = false) (b clock : Nat) (seen : List Nat) :
    ∃ g', g'.bl d = some w.heap.size ∧ MS C (w.alloc (.mapIter (some b) clock seen.toArray clock)) ok g' (meEff m (memU [(d, some (.raw (.iter b clock seen)))]) (idIn [d]) (memGet [(d, some (.raw (.iter b clock seen)))])) ∧
      ∀ c v, c.has (idIn [d]) = false → VR w ok g m c v → VR (w.alloc (.mapIter (some b) clock seen.toArray clock)) ok g' (meEff m (memU [(d, some (.raw (.iter b clock seen)))]) (idIn [d]) (memGet [(d, some (.raw (.iter b clock seen)))])) c v := by
  refine ⟨⟨fun i => if d == i then some w.heap.size else g.bl i, fun i => if d == i then 0 else g.cp i⟩, by simp, ?_⟩
  refine MS.eff hM _ _ _ ?_ ?_ ?_ ?_ ?_ ?_ ?_ ?_ ?_ ?_ ?_ ?_ rfl rfl rfl
  · intro i hi; rw [idIn_one] at hi; rw [memU_one]; exact hi
  · intro i x' hU hN
    rw [memU_one] at hU
    have hdi : d = i := by simpa using hU
    subst hdi
    simp [memGet] at hN
    subst hN
    exact ⟨w.heap.size, by simp, heap_alloc_new w _⟩
  · intro i hi; rw [idIn_one] at hi; simp [hi]
  · intro i x' hU hq; rw [memU_one] at hU; rw [idIn_one] at hq; rw [hU] at hq; cases hq
  · intro i y b hU hy hb
    exact Below.heap_alloc w _ b (hM.own i y b hy hb).2.1
  · intro b hb; exact Below.heap_alloc w _ b (hM.okb b hb).1
  · exact fun b hb => hb
  · exact fun b hb => .inl hb
  · intro i y b hU hN hb
    rw [memU_one] at hU
    simp only [hU, if_true, Option.some.injEq] at hb
    subst hb
    refine ⟨fun h => by have := (hM.okb _ h).1; omega, by simp, .inl hM.size, fun j xj hUj hj hb => ?_, fun j xj hUj _ _ => ?_⟩
    · have := (hM.own j xj _ hj hb).2.1; omega
    · rw [memU_one] at hUj
      have e1 : d = i := by simpa using hU
      have e2 : d = j := by simpa using hUj
      rw [← e1, ← e2]
  · intro i hi
    rw [idIn_one] at hi
    have e1 : d = i := by simpa using hi
    rw [← e1]; exact hd
  · simp
  · intro b hb _
    exact Below.heap_alloc w _ b (by have := hM.size; omega)

/-- An object's block is written, or known otherwise. -/
theorem MS.putRaw (hM : MS C w ok g m) (o : Nat) {b : Nat} (hb : g.bl o = some b) {x x' : AObj} (hx : m o = some x) (hl : x.like x') {ob : Obj} {w' : World} (hw' : w' = setBlock w b ob)
    (hor : OR w' ok g (meEff m (memU [(o, some x')]) (idIn []) (memGet [(o, some x')])) o x') :
    MS C w' ok g (meEff m (memU [(o, some x')]) (idIn []) (memGet [(o, some x')])) ∧
      ∀ c v, c.has (idIn []) = false → VR w ok g m c v → VR w' ok g (meEff m (memU [(o, some x')]) (idIn []) (memGet [(o, some x')])) c v := by
  have hown := hM.own o _ b hx hb
  have hq : ∀ i, idIn [] i = false := fun _ => rfl
  have hset : ∀ b', b' ≠ b → w'.heap[b']? = w.heap[b']? := fun b' h => by rw [hw']; exact set_other w b b' _ h
  refine MS.eff hM _ _ _ ?_ ?_ ?_ ?_ ?_ ?_ ?_ ?_ ?_ ?_ ?_ ?_ (by rw [hw']; rfl) (by rw [hw']; rfl) (by rw [hw']; rfl)
  · intro i hi; rw [hq i] at hi; cases hi
  · intro i y' hU hN
    rw [memU_one] at hU
    have e : o = i := by simpa using hU
    subst e
    simp [memGet] at hN
    subst hN
    exact hor
  · exact fun i _ => ⟨rfl, rfl⟩
  · intro i y' hU _ hN
    rw [memU_one] at hU
    have e : o = i := by simpa using hU
    subst e
    simp [memGet] at hN
    subst hN
    exact ⟨_, hx, hl⟩
  · intro i y b' hU hy hb'
    refine hset b' fun e => ?_
    subst e
    rw [memU_one] at hU
    exact absurd (hM.inj i o y _ b' hy hx hb' hb) (fun e => by subst e; simp at hU)
  · intro b' hb'
    exact hset b' fun e => by subst e; exact hown.1 hb'
  · exact fun _ h => h
  · exact fun _ h => .inl h
  · intro i y b' hU hN hb'
    rw [memU_one] at hU
    have e : o = i := by simpa using hU
    subst e
    obtain rfl : b = b' := by rw [hb] at hb'; exact Option.some.inj hb'
    refine ⟨hown.1, by rw [hw']; simpa [setBlock] using hown.2.1, hown.2.2, fun j xj hUj hj hbj => ?_, fun j xj hUj _ _ => ?_⟩
    · rw [memU_one] at hUj
      exact absurd (hM.inj j o xj _ b hj hx hbj hb) (fun e => by subst e; simp at hUj)
    · rw [memU_one] at hUj
      have e2 : o = j := by simpa using hUj
      exact e2
  · intro i hi; rw [hq i] at hi; cases hi
  · rw [hw']; simp [setBlock]
  · intro b' hb' hT
    refine hset b' fun e => ?_
    subst e
    rcases hown.2.2 with h | ⟨h, _⟩
    · omega
    · exact hT h
end

section
variable {P : Program} {Q : Exit → AS → Prop} {s : AS} {ops : Array Oper}

/-- A round over a map begins. -/
theorem AOps.range {o : Oper} {rest : List Oper} {d t : Nat} {x : Operand} {i b n clock : Nat} {ks ag : Bool} {ents : List (Nat × D × List D)} {kt vt : TypeId} (hop : o.op = .range t x) (hg : o.guard = none) (hd : o.dst = some d) (hdn : d < s.n) (h5 : Nat.ble 500 d = false)
    (hx : evA s.fr x = .mp i) (hm : memGet s.mem i = some (.raw (.births b ks ag n clock ents))) (hu : P.underlying t = some (.map kt vt))
    (h : AOps P ops rest Q (s.after (some d) (.ptr d 0) ⟨[d], [(d, some (.raw (.iter b clock [])))]⟩)) : AOps P ops (o :: rest) Q s := by
  refine AOps.value hg fun C a w hs => ?_
  obtain ⟨ok, g, hM, h1, h2, h3⟩ := hs
  have hev := evA_ok (a := a) h3 x
  rw [hx] at hev
  obtain ⟨b', hb', hv⟩ := hev.mp_inv hm
  obtain ⟨hb, es, hw, hB⟩ := hM.obj _ _ hm
  obtain rfl : b = b' := by rw [hb] at hb'; exact Option.some.inj hb'
  have hk : kept d = false := by
    unfold kept
    have : ¬ 500 ≤ d := fun e => by rw [Nat.ble_eq_true_of_le e] at h5; cases h5
    cases hh : Nat.ble 1000 d with
    | false => rfl
    | true => have := Nat.le_of_ble_eq_true hh; omega
  obtain ⟨g', hg', hM', hv'⟩ := MS.newIter hM d hk b clock []
  refine ⟨.pointer (some ⟨w.heap.size, 0, none⟩), w.alloc (.mapIter (some b) clock #[] clock), _, ?_, ?_, h⟩
  · have : (Instr.range t (a.eval x)).run P w = .ok (.pointer (some ⟨w.heap.size, 0, none⟩)) (w.alloc (.mapIter (some b) clock #[] clock)) := by
      rw [hv]
      exact run_range_map w t kt vt b es clock hu hw
    simp only [execOp, hop]
    simp [this]
  · rw [hd]
    refine St.after (ok := ok) (g := g) (ok' := ok) (g' := g') h1 h2 h3 (some d) (fun e he => by cases he; exact hdn) _ _ _ ⟨hM', hv'⟩ fun _ => ?_
    refine .ptr _ _ _ rfl fun y hy => ⟨w.heap.size, hg', rfl⟩

/-- One more entry, or no more. -/
theorem AOps.next {o : Oper} {rest : List Oper} {d : Nat} {it : Operand} {i j b n clock : Nat} {ks ag : Bool} {seen : List Nat} {ents : List (Nat × D × List D)} (hop : o.op = .next it false) (hg : o.guard = none) (hd : o.dst = some d) (hdn : d < s.n)
    (hx : evA s.fr it = .ptr i 0) (hi : memGet s.mem i = some (.raw (.iter b clock seen))) (hm : memGet s.mem j = some (.raw (.births b ks ag n clock ents)))
    (hover : (∀ p ∈ ents, p.1 ∈ seen) → AOps P ops rest Q (s.after (some d) (.tuple [.d (.bool false)]) ⟨[], []⟩))
    (hstep : ∀ p ∈ ents, p.1 ∉ seen → AOps P ops rest Q (s.after (some d) (.tuple [.d (.bool true), .d p.2.1, rowAV ag p.2.2]) ⟨[], [(i, some (.raw (.iter b clock (seen ++ [p.1]))))]⟩)) : AOps P ops (o :: rest) Q s := by
  refine AOps.value hg fun C a w hs => ?_
  obtain ⟨ok, g, hM, h1, h2, h3⟩ := hs
  have hev := evA_ok (a := a) h3 it
  rw [hx] at hev
  obtain ⟨bi, hbi, hv⟩ := hev.ptr_inv hi
  obtain ⟨bi', hbi', hwi⟩ := hM.obj _ _ hi
  obtain rfl : bi = bi' := by rw [hbi] at hbi'; exact Option.some.inj hbi'
  obtain ⟨hb, es, hw, hB⟩ := hM.obj _ _ hm
  have hdst : ∀ e, some d = some e → e < s.n := fun e he => by cases he; exact hdn
  rcases run_next_at (P := P) w o.type bi b clock clock seen.toArray es clock hwi hw hB.st.1 (Nat.le_refl _) with ⟨h0, hrun⟩ | ⟨e, he, w1, hw1, hrun⟩
  · refine ⟨.tuple #[.bool false], w, _, ?_, ?_, hover fun p hp => ?_⟩
    · simp only [execOp, hop, hv]
      simp [hrun]
    · rw [hd]
      refine St.after (ok := ok) (g := g) (ok' := ok) (g' := g) h1 h2 h3 (some d) hdst _ _ _ ?_ fun _ => ?_
      · rw [meEff_nil']; exact ⟨hM, fun c v _ h => h⟩
      · refine .tuple _ _ rfl fun k c v hc hv => ?_
        rcases k with _ | k
        · simp at hc hv; subst hc; subst hv; exact .d _ _ (.bool _)
        · simp at hc
    · obtain ⟨k, hk⟩ := List.mem_iff_getElem?.1 hp
      have hkl : k < es.size := by rw [← hB.size]; exact (List.getElem?_eq_some_iff.1 hk).1
      have hke : es[k]? = some es[k] := Array.getElem?_eq_getElem hkl
      obtain ⟨k1, _⟩ := hB.at' k _ p hke hk
      have hemp : leftOf es seen.toArray = #[] := Array.eq_empty_of_size_eq_zero h0
      unfold leftOf at hemp
      rw [Array.filter_eq_empty_iff] at hemp
      have := hemp es[k] (Array.getElem_mem hkl)
      rw [k1]
      simpa using this
  · have he' : e ∈ es.toList ∧ e.born ∉ seen := by
      unfold leftOf at he
      simp at he
      exact ⟨by simpa using he.1, he.2⟩
    obtain ⟨k, hk⟩ := List.mem_iff_getElem?.1 he'.1
    rw [Array.getElem?_toList] at hk
    have hkl : k < ents.length := by rw [hB.size]; exact (Array.getElem?_eq_some_iff.1 hk).1
    have hp : ents[k]? = some ents[k] := List.getElem?_eq_getElem hkl
    have hpm : ents[k] ∈ ents := List.getElem_mem hkl
    generalize ents[k] = p at hp hpm
    obtain ⟨k1, k2, k3⟩ := hB.at' k e p hk hp
    have hw1M : MS C w1 ok g (memGet s.mem) ∧ (∀ c v, VR w ok g (memGet s.mem) c v → VR w1 ok g (memGet s.mem) c v) ∧ w1.heap = w.heap := by
      rcases hw1 with rfl | rfl
      · exact ⟨hM, fun c v h => h, rfl⟩
      · have hk' : ∀ p : Addr, ok p.block → World.cell? w.drew p = w.cell? p := fun _ _ => rfl
        have hm' : ∀ o x', (fun _ => false) o = false → memGet s.mem o = some x' → ∃ x, memGet s.mem o = some x ∧ x.like x' ∧ g.bl o = g.bl o ∧ g.cp o = g.cp o := fun o x' _ hx => ⟨x', hx, AObj.like_refl _, rfl, rfl⟩
        refine ⟨⟨fun o x hx => (hM.obj o x hx).mono (fun _ => false) ?_ (fun _ _ => rfl) rfl rfl hk' (fun _ h => h) hm', hM.inj, hM.own, hM.okb, hM.okk, hM.size, hM.heap, hM.keep, hM.os, hM.tape, hM.output, hM.gi, hM.gb⟩, fun c v h => h.mono (fun _ => false) (AV.has_none (fun _ => rfl) _) hk' (fun _ h => h) hm', rfl⟩
        cases x with
        | arr e sz rows => trivial
        | map ks ag n ents => trivial
        | raw r => trivial
        | blk t cs =>
          have : ∀ l : List AV, AV.hasL (fun _ => false) l = false := fun l => by
            induction l with
            | nil => rfl
            | cons c r ih => simp only [AV.hasL, ih, AV.has_none (fun _ => rfl) c, Bool.or_self]
          exact this cs
    obtain ⟨hM1, hV1, hh⟩ := hw1M
    have hput := MS.putRaw hM1 i hbi hi (x' := .raw (.iter b clock (seen ++ [p.1]))) trivial (ob := .mapIter (some b) clock (seen.toArray.push e.born) clock) rfl
      ⟨bi, hbi, by rw [k1]; simp only [setBlock]; rw [Array.getElem?_setIfInBounds_self_of_lt (by rw [hh]; exact (Array.getElem?_eq_some_iff.1 hwi).1)]; simp⟩
    refine ⟨.tuple #[.bool true, e.key, e.val], setBlock w1 bi (.mapIter (some b) clock (seen.toArray.push e.born) clock), _, ?_, ?_, hstep p hpm (by rw [k1]; exact he'.2)⟩
    · simp only [execOp, hop, hv]
      simp [hrun]
    · rw [hd]
      refine St.after (ok := ok) (g := g) (ok' := ok) (g' := g) h1 h2 h3 (some d) hdst _ _ _ ⟨hput.1, fun c v hc hv' => hput.2 c v hc (hV1 c v hv')⟩ fun _ => ?_
      have hcell : ∀ q : Addr, ok q.block → World.cell? (setBlock w1 bi (.mapIter (some b) clock (seen.toArray.push e.born) clock)) q = w.cell? q := fun q hq => by
        refine World.cell?_heap ?_
        have hne : q.block ≠ bi := fun e => (hM.own i _ bi hi hbi).1 (e ▸ hq)
        simp only [setBlock]
        rw [Array.getElem?_setIfInBounds_ne (Ne.symm hne), hh]
      refine .tuple _ _ rfl fun k c v hc hv => ?_
      rcases k with _ | _ | _ | k
      · simp at hc hv; subst hc; subst hv; exact .d _ _ (.bool _)
      · simp at hc hv; subst hc; subst hv; exact .d _ _ (k2.keep hcell)
      · simp at hc hv; subst hc; subst hv; exact rowAV_ok (k3.keep hcell)
      · simp at hc

/-- The entry that came last. -/
theorem AOps.entry {o : Oper} {rest : List Oper} {d : Nat} {it : Operand} {i j b n clock k : Nat} {ks ag : Bool} {seen : List Nat} {ents : List (Nat × D × List D)} {key : D} {row : List D} (hop : o.op = .entry it) (hg : o.guard = none) (hd : o.dst = some d) (hdn : d < s.n)
    (hx : evA s.fr it = .ptr i 0) (hi : memGet s.mem i = some (.raw (.iter b clock (seen ++ [k])))) (hm : memGet s.mem j = some (.raw (.births b ks ag n clock ents))) (hp : (k, key, row) ∈ ents)
    (h : AOps P ops rest Q (s.after (some d) (.tuple [.d key, rowAV ag row]) ⟨[], []⟩)) : AOps P ops (o :: rest) Q s := by
  refine AOps.value hg fun C a w hs => ?_
  obtain ⟨ok, g, hM, h1, h2, h3⟩ := hs
  have hev := evA_ok (a := a) h3 it
  rw [hx] at hev
  obtain ⟨bi, hbi, hv⟩ := hev.ptr_inv hi
  obtain ⟨bi', hbi', hwi⟩ := hM.obj _ _ hi
  obtain rfl : bi = bi' := by rw [hbi] at hbi'; exact Option.some.inj hbi'
  obtain ⟨hb, es, hw, hB⟩ := hM.obj _ _ hm
  obtain ⟨q, hq⟩ := List.mem_iff_getElem?.1 hp
  have hql : q < es.size := by rw [← hB.size]; exact (List.getElem?_eq_some_iff.1 hq).1
  have hqe : es[q]? = some es[q] := Array.getElem?_eq_getElem hql
  have hqm : es[q] ∈ es.toList := by simp
  generalize es[q] = e at hqe hqm
  obtain ⟨k1, k2, k3⟩ := hB.at' q _ _ hqe hq
  dsimp only at k1 k2 k3
  have hrun := run_entry_at (P := P) w bi b clock seen.toArray es clock e (by rw [hwi, k1]; simp) hw hqm hB.st.2.1
  refine ⟨.tuple #[e.key, e.val], w, _, ?_, ?_, h⟩
  · simp only [execOp, hop, hv]
    simp [hrun]
  · rw [hd]
    refine St.after (ok := ok) (g := g) (ok' := ok) (g' := g) h1 h2 h3 (some d) (fun e he => by cases he; exact hdn) _ _ _ ?_ fun _ => ?_
    · rw [meEff_nil']; exact ⟨hM, fun c v _ h => h⟩
    · rw [meEff_nil']
      refine .tuple _ _ rfl fun k c v hc hv => ?_
      rcases k with _ | _ | k
      · simp at hc hv; subst hc; subst hv; exact .d _ _ k2
      · simp at hc hv; subst hc; subst hv; exact rowAV_ok k3
      · simp at hc

/-- An object is known otherwise. -/
theorem St.known {C : Cx} {a : Act} {w : World} (o : Nat) {x : AObj} (hs : St C s a w) (hx : memGet s.mem o = some x) :
    ∃ ok g, OR w ok g (memGet s.mem) o x ∧ ∀ x', x.like x' → (∀ m', OR w ok g m' o x') → St C ⟨s.n, s.fr, (o, some x') :: s.mem⟩ a w := by
  obtain ⟨ok, g, hM, h1, h2, h3⟩ := hs
  refine ⟨ok, g, hM.obj _ _ hx, fun x' hl hO => ?_⟩
  have hget : ∀ i, memGet ((o, some x') :: s.mem) i = if o == i then some x' else memGet s.mem i := fun i => by simp only [memGet]
  have hm : ∀ i y', (fun _ => false) i = false → memGet ((o, some x') :: s.mem) i = some y' → ∃ y, memGet s.mem i = some y ∧ y.like y' ∧ g.bl i = g.bl i ∧ g.cp i = g.cp i := fun i y' _ hy => by
    rw [hget] at hy
    split at hy
    · rename_i e
      obtain rfl : o = i := by simpa using e
      cases hy
      exact ⟨x, hx, hl, rfl, rfl⟩
    · exact ⟨y', hy, AObj.like_refl _, rfl, rfl⟩
  have hsome : ∀ i y, memGet ((o, some x') :: s.mem) i = some y → ∃ z, memGet s.mem i = some z := fun i y hy => by
    obtain ⟨z, hz, _⟩ := hm i y rfl hy
    exact ⟨z, hz⟩
  refine ⟨ok, g, ⟨fun i y hy => ?_, fun i j xi xj b hi hj hbi hbj => ?_, fun i y b hy hb => ?_, hM.okb, hM.okk, hM.size, hM.heap, hM.keep, hM.os, hM.tape, hM.output, hM.gi, hM.gb⟩, h1, h2, fun t => (h3 t).mono (fun _ => false) (AV.has_none (fun _ => rfl) _) (fun _ _ => rfl) (fun _ h => h) hm⟩
  · have hy' := hy
    rw [hget] at hy
    split at hy
    · rename_i e
      obtain rfl : o = i := by simpa using e
      cases hy
      exact hO _
    · refine (hM.obj i y hy).mono (fun _ => false) ?_ (fun _ _ => rfl) rfl rfl (fun _ _ => rfl) (fun _ h => h) hm
      cases y with
      | arr e sz rows => trivial
      | map ks ag n ents => trivial
      | raw r => trivial
      | blk t cs =>
        have : ∀ l : List AV, AV.hasL (fun _ => false) l = false := fun l => by
          induction l with
          | nil => rfl
          | cons c r ih => simp only [AV.hasL, ih, AV.has_none (fun _ => rfl) c, Bool.or_self]
        exact this cs
  · obtain ⟨zi, hzi⟩ := hsome i xi hi
    obtain ⟨zj, hzj⟩ := hsome j xj hj
    exact hM.inj i j zi zj b hzi hzj hbi hbj
  · obtain ⟨z, hz⟩ := hsome i y hy
    exact hM.own i z b hz hb

/-- A map's births are known. -/
theorem AWp.births {c : Code} (o : Nat) {ks ag : Bool} {n : Nat} {ents : List (D × List D)} (hx : memGet s.mem o = some (.map ks ag n ents))
    (h : ∀ (b clock : Nat) (bents : List (Nat × D × List D)), (bents.map (·.2)).Perm ents → (bents.map (·.1)).Nodup → AWp P c Q ⟨s.n, s.fr, (o, some (.raw (.births b ks ag n clock bents))) :: s.mem⟩) : AWp P c Q s := fun C a w hs => by
  obtain ⟨ok, g, hO, hK⟩ := St.known o hs hx
  obtain ⟨b, es, clock, k1, k2, k3⟩ := hO
  obtain ⟨l, l1, l2, l3⟩ := k3.perm
  let bents : List (Nat × D × List D) := (es.toList.map (·.born)).zip l
  have hlen : (es.toList.map (·.born)).length = l.length := by simp [l2]
  have hfst : bents.map (·.1) = es.toList.map (·.born) := by
    show (List.zip _ _).map Prod.fst = _
    rw [List.map_fst_zip (by omega)]
  have hsnd : bents.map (·.2) = l := by
    show (List.zip _ _).map Prod.snd = _
    rw [List.map_snd_zip (by omega)]
  have hmem : ∀ p ∈ bents, p.2 ∈ l := fun p hp => by rw [← hsnd]; exact List.mem_map.2 ⟨p, hp, rfl⟩
  have hpw : l.Pairwise fun p q => D.keq p.1 q.1 = false := (l1.pairwise_iff fun {a b} hab => by rw [D.keq_symm]; exact hab).2 k3.nodup
  refine h b clock bents (by rw [hsnd]; exact l1) (by rw [hfst]; exact k3.st.2.1) C a w (hK _ trivial fun m' => ⟨k1, es, k2, k3.st, fun p hp => k3.keys p.2 (l1.mem_iff.1 (hmem p hp)), ?_, ?_, fun i e p he hp => ?_⟩)
  · rw [← hsnd] at hpw
    exact List.pairwise_map.1 hpw
  · show (List.zip _ _).length = _
    rw [List.length_zip, hlen, Nat.min_self, l2]
  · have hp1 : l[i]? = some p.2 := by rw [← hsnd, List.getElem?_map, hp]; rfl
    have hp2 : (es.toList.map (·.born))[i]? = some p.1 := by rw [← hfst, List.getElem?_map, hp]; rfl
    rw [List.getElem?_map, Array.getElem?_toList, he] at hp2
    exact ⟨by simpa using hp2.symm, l3 i e p.2 he hp1⟩
/-- A map's births are not asked for any more. -/
theorem Le.unbirth (o : Nat) {b clock : Nat} {ks ag : Bool} {n : Nat} {bents : List (Nat × D × List D)} {ents : List (D × List D)} (hx : memGet s.mem o = some (.raw (.births b ks ag n clock bents))) (hp : (bents.map (·.2)).Perm ents) :
    Le s ⟨s.n, s.fr, (o, some (.map ks ag n ents)) :: s.mem⟩ := fun C a w hs => by
  obtain ⟨ok, g, hO, hK⟩ := St.known o hs hx
  obtain ⟨k1, es, k2, k3⟩ := hO
  refine hK _ trivial fun m' => ⟨b, es, clock, k1, k2, MapR.reorder ⟨k3.st, fun p hp' => ?_, ?_, bents.map (·.2), List.Perm.refl _, by rw [List.length_map, k3.size], fun i e p he hpi => ?_⟩ hp⟩
  · obtain ⟨q, hq, rfl⟩ := List.mem_map.1 hp'
    exact k3.keys q hq
  · exact List.pairwise_map.2 k3.nodup
  · rw [List.getElem?_map] at hpi
    obtain ⟨q, hq, rfl⟩ := Option.map_eq_some_iff.1 hpi
    exact (k3.at' i e q he hq).2
end

/-! ### Two of the call's own objects change names -/
def swN (o p i : Nat) : Nat := if i == o then p else if i == p then o else i
theorem swN_swN (o p i : Nat) : swN o p (swN o p i) = i := by
  unfold swN
  simp only [beq_iff_eq]
  repeat' split
  all_goals omega
theorem AV.ren_sw (o p : Nat) (c : AV) : (c.ren (swN o p)).ren (swN o p) = c :=
  AV.rec (motive_1 := fun c => (c.ren (swN o p)).ren (swN o p) = c) (motive_2 := fun l => renL (swN o p) (renL (swN o p) l) = l) (by rfl) (fun _ => rfl) (fun _ => rfl) (fun _ => rfl) (fun i k => by simp only [AV.ren, swN_swN]) (fun i k n => by simp only [AV.ren, swN_swN]) (fun i k n => by simp only [AV.ren, swN_swN]) (fun i => by simp only [AV.ren, swN_swN])
    (fun cs h => by simp only [AV.ren, h]) (fun cs h => by simp only [AV.ren, h]) (fun _ cs h => by simp only [AV.ren, h]) rfl (fun x r h1 h2 => by simp only [renL, h1, h2]) c
theorem renL_sw (o p : Nat) (l : List AV) : renL (swN o p) (renL (swN o p) l) = l := by
  have := AV.ren_sw o p (.agg l)
  simpa only [AV.ren, AV.agg.injEq] using this
theorem AObj.ren_sw (o p : Nat) (x : AObj) : (x.ren (swN o p)).ren (swN o p) = x := by
  cases x <;> simp only [AObj.ren, renL_sw]
def AS.swap (s : AS) (o p : Nat) : AS := ⟨s.n, s.fr.map fun x => (x.1, x.2.ren (swN o p)), s.mem.map fun x => (swN o p x.1, x.2.map (AObj.ren (swN o p)))⟩
theorem frGet_swap (o p : Nat) (f : List (Nat × AV)) (t : Nat) : frGet (f.map fun x => (x.1, x.2.ren (swN o p))) t = (frGet f t).ren (swN o p) := by
  induction f with
  | nil => rfl
  | cons x r ih =>
    simp only [List.map_cons, frGet, ih]
    split <;> rfl
theorem memGet_swap (o p : Nat) (f : List (Nat × Option AObj)) (t : Nat) : memGet (f.map fun x => (swN o p x.1, x.2.map (AObj.ren (swN o p)))) t = (memGet f (swN o p t)).map (AObj.ren (swN o p)) := by
  induction f with
  | nil => rfl
  | cons x r ih =>
    have e : (swN o p x.1 == t) = (x.1 == swN o p t) := by
      rw [Bool.eq_iff_iff, beq_iff_eq, beq_iff_eq]
      constructor
      · rintro rfl; rw [swN_swN]
      · intro h; rw [h, swN_swN]
    simp only [List.map_cons, memGet, ih, e]
    split <;> rfl
theorem swN_big {o p i : Nat} (ho : Nat.ble 500 o = false) (hp : Nat.ble 500 p = false) (hi : 500 ≤ i) : swN o p i = i := by
  have h1 : ¬ 500 ≤ o := fun h => by rw [Nat.ble_eq_true_of_le h] at ho; cases ho
  have h2 : ¬ 500 ≤ p := fun h => by rw [Nat.ble_eq_true_of_le h] at hp; cases hp
  unfold swN
  simp only [beq_iff_eq]
  repeat' split
  all_goals omega
theorem Le.swap (s : AS) (o p : Nat) (ho : Nat.ble 500 o = false) (hp : Nat.ble 500 p = false) : Le s (s.swap o p) := by
  rintro C a w ⟨ok, g, hM, h1, h2, h3⟩
  have em : memGet (s.swap o p).mem = fun i => (memGet s.mem (swN o p i)).map (AObj.ren (swN o p)) := funext fun i => memGet_swap o p s.mem i
  have inv : ∀ {i x}, memGet (s.swap o p).mem i = some x → memGet s.mem (swN o p i) = some (x.ren (swN o p)) := fun {i x} h => by
    rw [em] at h
    obtain ⟨y, hy, rfl⟩ := Option.map_eq_some_iff.1 h
    rw [hy, AObj.ren_sw]
  let g' : Gh := ⟨fun i => g.bl (swN o p i), fun i => g.cp (swN o p i)⟩
  have vr : ∀ {c v}, VR w ok g (memGet s.mem) c v → VR w ok g' (memGet (s.swap o p).mem) (c.ren (swN o p)) v := fun {c v} h => by
    refine VR.unren (g := g) (M := memGet s.mem) (swN o p) (fun i x hx => ⟨inv hx, rfl, rfl⟩) ?_
    rw [AV.ren_sw]
    exact h
  refine ⟨ok, g', ⟨fun i x hx => ?_, fun i j xi xj b hi hj hbi hbj => ?_, fun i x b hx hb => ?_, hM.okb, hM.okk, hM.size, hM.heap, fun i hi => ?_, hM.os, hM.tape, hM.output, hM.gi, hM.gb⟩, h1, h2, fun t => ?_⟩
  · have hO := hM.obj _ _ (inv hx)
    cases x with
    | blk t cs =>
      obtain ⟨b, vs, k1, k2, k3, k4, k5⟩ := hO
      refine ⟨b, vs, k1, k2, by simpa [renL_eq] using k3, fun j c v hc hv => ?_, k5⟩
      have := vr (k4 j (c.ren (swN o p)) v (by rw [renL_eq, List.getElem?_map, hc]; rfl) hv)
      rwa [AV.ren_sw] at this
    | arr e sz rows => exact hO
    | map ks ag n ents => exact hO
    | raw r => exact RawR.at' hO rfl
  · have := hM.inj _ _ _ _ b (inv hi) (inv hj) hbi hbj
    rw [← swN_swN o p i, this, swN_swN]
  · obtain ⟨k1, k2, k3⟩ := hM.own _ _ b (inv hx) hb
    refine ⟨k1, k2, ?_⟩
    rcases k3 with k3 | ⟨k3, k4⟩
    · exact .inl k3
    · refine .inr ⟨k3, ?_⟩
      rcases Nat.lt_or_ge i 500 with hi | hi
      · exfalso
        have h5 := swN_big ho hp k4
        rw [swN_swN] at h5
        omega
      · exact hi
  · have h5 : swN o p i = i := swN_big ho hp (by have := Nat.le_of_ble_eq_true hi; omega)
    simp only [g', h5]
    exact hM.keep i hi
  · have e : frGet (s.swap o p).fr t = (frGet s.fr t).ren (swN o p) := frGet_swap o p s.fr t
    rw [e]
    exact vr (h3 t)

/-- An object of the call's own gets a name that is handed out (nothing has that name). -/
theorem Le.give (s : AS) (o p : Nat) (ho : Nat.ble 500 o = false) (hp : kept p = false) (hm : memGet s.mem p = none) : Le s (s.swap o p) := by
  rintro C a w ⟨ok, g, hM, h1, h2, h3⟩
  have hol : o < 500 := Nat.lt_of_not_le fun h => by rw [Nat.ble_eq_true_of_le h] at ho; cases ho
  have hpl : p < 1000 := Nat.lt_of_not_le fun h => by unfold kept at hp; rw [Nat.ble_eq_true_of_le h] at hp; cases hp
  have em : memGet (s.swap o p).mem = fun i => (memGet s.mem (swN o p i)).map (AObj.ren (swN o p)) := funext fun i => memGet_swap o p s.mem i
  have inv : ∀ {i x}, memGet (s.swap o p).mem i = some x → memGet s.mem (swN o p i) = some (x.ren (swN o p)) := fun {i x} h => by
    rw [em] at h
    obtain ⟨y, hy, rfl⟩ := Option.map_eq_some_iff.1 h
    rw [hy, AObj.ren_sw]
  let g' : Gh := ⟨fun i => g.bl (swN o p i), fun i => g.cp (swN o p i)⟩
  have vr : ∀ {c v}, VR w ok g (memGet s.mem) c v → VR w ok g' (memGet (s.swap o p).mem) (c.ren (swN o p)) v := fun {c v} h => by
    refine VR.unren (g := g) (M := memGet s.mem) (swN o p) (fun i x hx => ⟨inv hx, rfl, rfl⟩) ?_
    rw [AV.ren_sw]
    exact h
  have big : ∀ {i}, i ≠ o → i ≠ p → swN o p i = i := fun {i} h1 h2 => by
    unfold swN
    simp only [beq_iff_eq, h1, h2, if_false]
  refine ⟨ok, g', ⟨fun i x hx => ?_, fun i j xi xj b hi hj hbi hbj => ?_, fun i x b hx hb => ?_, hM.okb, hM.okk, hM.size, hM.heap, fun i hi => ?_, hM.os, hM.tape, hM.output, hM.gi, hM.gb⟩, h1, h2, fun t => ?_⟩
  · have hO := hM.obj _ _ (inv hx)
    cases x with
    | blk t cs =>
      obtain ⟨b, vs, k1, k2, k3, k4, k5⟩ := hO
      refine ⟨b, vs, k1, k2, by simpa [renL_eq] using k3, fun j c v hc hv => ?_, k5⟩
      have := vr (k4 j (c.ren (swN o p)) v (by rw [renL_eq, List.getElem?_map, hc]; rfl) hv)
      rwa [AV.ren_sw] at this
    | arr e sz rows => exact hO
    | map ks ag n ents => exact hO
    | raw r => exact RawR.at' hO rfl
  · have := hM.inj _ _ _ _ b (inv hi) (inv hj) hbi hbj
    rw [← swN_swN o p i, this, swN_swN]
  · obtain ⟨k1, k2, k3⟩ := hM.own _ _ b (inv hx) hb
    refine ⟨k1, k2, ?_⟩
    rcases k3 with k3 | ⟨k3, k4⟩
    · exact .inl k3
    · by_cases e1 : i = o
      · subst e1
        exfalso
        have := inv hx
        rw [show swN i p i = p by unfold swN; simp, hm] at this
        cases this
      · by_cases e2 : i = p
        · subst e2
          exfalso
          rw [show swN o i i = o by unfold swN; simp [e1]] at k4
          omega
        · rw [big e1 e2] at k4
          exact .inr ⟨k3, k4⟩
  · have hi' : 1000 ≤ i := Nat.le_of_ble_eq_true hi
    have h5 : swN o p i = i := big (by omega) (by omega)
    simp only [g', h5]
    exact hM.keep i hi
  · have e : frGet (s.swap o p).fr t = (frGet s.fr t).ren (swN o p) := frGet_swap o p s.fr t
    rw [e]
    exact vr (h3 t)

theorem AWp.frzs {P : Program} {c : Code} {Q : Exit → AS → Prop} {s s' : AS} (l : List Nat) (h : frzs l s = some s') (k : AWp P c Q s') : AWp P c Q s := AWp.le (Le.frzs l h) k
theorem PSpec.nilArgs {P : Program} {k : Nat} {args : List AV} {r : Nat → AV} {x : Option AObj} (h : PSpec P k (args.map AV.nilD) r x) : PSpec P k args r x := by
  refine ⟨h.ent, h.rcl, h.nil, h.arr, fun d w ok vals hg hok hl hv => h.run d w ok vals hg hok (by simpa using hl) fun i c v hc hv' => ?_⟩
  rw [List.getElem?_map] at hc
  obtain ⟨c', hc', rfl⟩ := Option.map_eq_some_iff.1 hc
  exact (hv i c' v hc' hv').nilD
theorem CSpec.nilArgs {P : Program} {k : Nat} {args : List AV} {m m' : Mo} {r : AV} (h : CSpec P k (args.map AV.nilD) m r m') : CSpec P k args m r m' := by
  refine ⟨h.ent, fun w ok g vals hM hl hv => h.run w ok g vals hM (by simpa using hl) fun i c v hc hv' => ?_⟩
  rw [List.getElem?_map] at hc
  obtain ⟨c', hc', rfl⟩ := Option.map_eq_some_iff.1 hc
  exact (hv i c' v hc' hv').nilD

/-! ### A great region, part by part -/
/-- All records; the state at the end; the hints that are left; what is owed. -/
def runT (P : Program) (ops : Array Oper) (zs : List Nat) : List Oper → Nat → List Hint → AS → Option (List Rc × AS × List Hint × Prop)
  | [], _, h, s => some ([], s, h, True)
  | o :: rest, k, h, s => match mkRc P ops s o (if isGoCall o.op then h.head? else none) (idIn zs k) with
    | some r => match runT P ops zs rest (k + 1) (if isGoCall o.op && r.run then h.tail else h) (nextR s r) with
      | some (rs, s', h', p) => some (r :: rs, s', h', r.p ∧ p)
      | none => none
    | none => none

theorem runT_append {P : Program} {ops : Array Oper} {zs : List Nat} : ∀ (l1 l2 : List Oper) (k : Nat) (h h1 : List Hint) (s s1 s2 : AS) (rs1 rs2 : List Rc) (p1 p2 : Prop), runT P ops zs l1 k h s = some (rs1, s1, h1, p1) → runD P ops zs l2 (k + l1.length) h1 s1 = some (rs2, s2, p2) →
    ∃ p, runD P ops zs (l1 ++ l2) k h s = some (rs1 ++ rs2, s2, p) ∧ (p1 → p2 → p)
  | [], l2, k, h, h1, s, s1, s2, rs1, rs2, p1, p2, a, b => by
    simp only [runT, Option.some.injEq, Prod.mk.injEq] at a
    obtain ⟨rfl, rfl, rfl, _⟩ := a
    exact ⟨p2, b, fun _ h => h⟩
  | o :: r, l2, k, h, h1, s, s1, s2, rs1, rs2, p1, p2, a, b => by
    simp only [runT] at a
    split at a
    · rename_i r0 hmk
      split at a
      · rename_i rs' s' h' p' hrest
        simp only [Option.some.injEq, Prod.mk.injEq] at a
        obtain ⟨rfl, rfl, rfl, rfl⟩ := a
        obtain ⟨p, e1, e2⟩ := runT_append r l2 (k + 1) _ _ _ _ _ _ _ _ _ hrest (by rw [show k + 1 + r.length = k + (o :: r).length by simp; omega]; exact b)
        refine ⟨r0.p ∧ p, ?_, fun h1 h2 => ⟨h1.1, e2 h1.2 h2⟩⟩
        simp only [List.cons_append, runD, hmk, e1]
      · cases a
    · cases a
theorem runT_two {P : Program} {ops : Array Oper} {zs : List Nat} : ∀ (l1 l2 : List Oper) (k : Nat) (h h1 h2 : List Hint) (s s1 s2 : AS) (rs1 rs2 : List Rc) (p1 p2 : Prop), runT P ops zs l1 k h s = some (rs1, s1, h1, p1) → runT P ops zs l2 (k + l1.length) h1 s1 = some (rs2, s2, h2, p2) →
    ∃ p, runT P ops zs (l1 ++ l2) k h s = some (rs1 ++ rs2, s2, h2, p) ∧ (p1 → p2 → p)
  | [], l2, k, h, h1, h2, s, s1, s2, rs1, rs2, p1, p2, a, b => by
    simp only [runT, Option.some.injEq, Prod.mk.injEq] at a
    obtain ⟨rfl, rfl, rfl, _⟩ := a
    exact ⟨p2, b, fun _ h => h⟩
  | o :: r, l2, k, h, h1, h2, s, s1, s2, rs1, rs2, p1, p2, a, b => by
    simp only [runT] at a
    split at a
    · rename_i r0 hmk
      split at a
      · rename_i rs' s' h' p' hrest
        simp only [Option.some.injEq, Prod.mk.injEq] at a
        obtain ⟨rfl, rfl, rfl, rfl⟩ := a
        obtain ⟨p, e1, e2⟩ := runT_two r l2 (k + 1) _ _ _ _ _ _ _ _ _ _ hrest (by rw [show k + 1 + r.length = k + (o :: r).length by simp; omega]; exact b)
        refine ⟨r0.p ∧ p, ?_, fun h1 h2 => ⟨h1.1, e2 h1.2 h2⟩⟩
        simp only [List.cons_append, runT, hmk, e1]
      · cases a
    · cases a

/-- A region whose order is open, in two parts. -/
theorem AWp.draw2 {P : Program} {Q : Exit → AS → Prop} {s : AS} {id : Nat} {l : List Oper} (n : Nat) (zs : List Nat) (hints : List Hint) {rs1 rs2 : List Rc} {s1 s' : AS} {h1 : List Hint} {p1 p2 : Prop} (hm : P.follows .mixedOrders = true) (hr1 : runT P l.toArray zs (l.take n) 0 hints s = some (rs1, s1, h1, p1)) (hp1 : p1) (hr2 : runD P l.toArray zs (l.drop n) n h1 s1 = some (rs2, s', p2)) (hp2 : p2) (hn : Nat.ble n l.length = true) (hc : (pairChk l l.toArray (rs1 ++ rs2) && predChk l) = true) (h : Q .normal s') :
    AWp P (.region id l.toArray true) Q s := by
  have hn' : (l.take n).length = n := by rw [List.length_take]; have := Nat.le_of_ble_eq_true hn; omega
  obtain ⟨p, e1, e2⟩ := runT_append (l.take n) (l.drop n) 0 _ _ _ _ _ _ _ _ _ hr1 (by rw [hn', Nat.zero_add]; exact hr2)
  rw [List.take_append_drop] at e1
  exact AWp.draw zs hints hm e1 hc (e2 hp1 hp2) h
/-- In three parts. -/
theorem AWp.draw3 {P : Program} {Q : Exit → AS → Prop} {s : AS} {id : Nat} {l : List Oper} (n n2 : Nat) (zs : List Nat) (hints : List Hint) {rs1 rs2 rs3 : List Rc} {s1 s2 s' : AS} {h1 h2 : List Hint} {p1 p2 p3 : Prop} (hm : P.follows .mixedOrders = true) (hr1 : runT P l.toArray zs (l.take n) 0 hints s = some (rs1, s1, h1, p1)) (hp1 : p1) (hr2 : runT P l.toArray zs ((l.drop n).take n2) n h1 s1 = some (rs2, s2, h2, p2)) (hp2 : p2) (hr3 : runD P l.toArray zs ((l.drop n).drop n2) (n + n2) h2 s2 = some (rs3, s', p3)) (hp3 : p3) (hn : Nat.ble (n + n2) l.length = true) (hc : (pairChk l l.toArray ((rs1 ++ rs2) ++ rs3) && predChk l) = true) (h : Q .normal s') :
    AWp P (.region id l.toArray true) Q s := by
  have hn0 := Nat.le_of_ble_eq_true hn
  have hn' : (l.take n).length = n := by rw [List.length_take]; omega
  have hn2 : ((l.drop n).take n2).length = n2 := by rw [List.length_take, List.length_drop]; omega
  obtain ⟨p, e1, e2⟩ := runT_two (l.take n) ((l.drop n).take n2) 0 _ _ _ _ _ _ _ _ _ _ hr1 (by rw [hn', Nat.zero_add]; exact hr2)
  obtain ⟨p', e3, e4⟩ := runT_append (l.take n ++ (l.drop n).take n2) ((l.drop n).drop n2) 0 _ _ _ _ _ _ _ _ _ e1 (by rw [List.length_append, hn', hn2, Nat.zero_add]; exact hr3)
  rw [List.append_assoc, List.take_append_drop, List.take_append_drop] at e3
  exact AWp.draw zs hints hm e3 hc (e4 (e2 hp1 hp2) hp3) h
end Go.Proofs.YtialccgjbanmcaaDoor
