/- What is known of heap's functions, in the abstract machine's words: first Own, There. -/
import Derived.Test.YtcakhebnebcpcaaEng2
import Derived.Test.YtcakhebnebcpcaaTy
import Derived.Test.YtcakhebnebcpcaaHeapV
namespace Go.Proofs.Ytcakhebnebcpcaa
open Go.RowKit
set_option linter.unusedVariables false

abbrev slAV (s : Slt) : AV := .agg [.d (.int s.kind), .d (.int s.n)]
abbrev slsAV (l : List Slt) : AV := .d (.sl (l.map Slt.row))
abbrev hpAV (h : Hp) : AV := .agg [.d (.sl (h.cells.map Cll.row)), .d (.int h.made), .d (.int h.used), .d (.int h.live), .d (.int h.peak)]

section
variable {w : World} {ok : Nat → Prop} {g : Gh} {m : Me}
theorem VR.agg5 {c0 c1 c2 c3 c4 : AV} {v : Value} (h : VR w ok g m (.agg [c0, c1, c2, c3, c4]) v) : ∃ v0 v1 v2 v3 v4, v = .agg #[v0, v1, v2, v3, v4] ∧ VR w ok g m c0 v0 ∧ VR w ok g m c1 v1 ∧ VR w ok g m c2 v2 ∧ VR w ok g m c3 v3 ∧ VR w ok g m c4 v4 := by
  obtain ⟨vs, rfl, hl, h1, _⟩ := h.agg_inv
  simp at hl
  refine ⟨vs[0], vs[1], vs[2], vs[3], vs[4], ?_, h1 0 _ _ rfl (Array.getElem?_eq_getElem _), h1 1 _ _ rfl (Array.getElem?_eq_getElem _), h1 2 _ _ rfl (Array.getElem?_eq_getElem _), h1 3 _ _ rfl (Array.getElem?_eq_getElem _), h1 4 _ _ rfl (Array.getElem?_eq_getElem _)⟩
  congr 1
  apply Array.ext
  · simp; omega
  · intro i hi _
    match i, hi with
    | 0, _ => rfl
    | 1, _ => rfl
    | 2, _ => rfl
    | 3, _ => rfl
    | 4, _ => rfl
    | i + 5, hi => omega

theorem VR.hp {h : Hp} {v : Value} (hv : VR w ok g m (hpAV h) v) : ∃ a n c, v = .agg #[.slice a n c, .int .i64 h.made, .int .i64 h.used, .int .i64 h.live, .int .i64 h.peak] ∧ Rep w ok (.sl (h.cells.map Cll.row)) (.slice a n c) ∧ inI h.made ∧ inI h.used ∧ inI h.live ∧ inI h.peak := by
  obtain ⟨v0, v1, v2, v3, v4, rfl, h0, h1, h2, h3, h4⟩ := hv.agg5
  obtain ⟨a, c, rfl, _⟩ := h0.d_inv.sl_inv
  obtain ⟨rfl, l1, u1⟩ := h1.d_inv.int_inv
  obtain ⟨rfl, l2, u2⟩ := h2.d_inv.int_inv
  obtain ⟨rfl, l3, u3⟩ := h3.d_inv.int_inv
  obtain ⟨rfl, l4, u4⟩ := h4.d_inv.int_inv
  exact ⟨a, _, c, rfl, h0.d_inv, ⟨l1, u1⟩, ⟨l2, u2⟩, ⟨l3, u3⟩, ⟨l4, u4⟩⟩

theorem VR.aggOf (cs : List AV) (vs : List Value) (hl : cs.length = vs.length) (h : ∀ (i : Nat) (c : AV) (v : Value), cs[i]? = some c → vs[i]? = some v → VR w ok g m c v ∧ v.oneCell' = true) : VR w ok g m (.agg cs) (.agg vs.toArray) := by
  refine .agg cs vs.toArray (by simpa using hl) (fun i c v hc hv => (h i c v hc (by simpa using hv)).1) (fun i v hv => ?_)
  have hi : i < cs.length := by have := (Array.getElem?_eq_some_iff.1 hv).1; simp at this; omega
  exact (h i _ v (List.getElem?_eq_getElem hi) (by simpa using hv)).2

theorem VR.ofInt {n : Int} (h : inI n) : VR w ok g m (.d (.int n)) (.int .i64 n) := .d _ _ (.int n h.1 h.2)

theorem VR.ofAgg5 {c0 c1 c2 c3 c4 : AV} {v0 v1 v2 v3 v4 : Value} (h0 : VR w ok g m c0 v0) (h1 : VR w ok g m c1 v1) (h2 : VR w ok g m c2 v2) (h3 : VR w ok g m c3 v3) (h4 : VR w ok g m c4 v4) (o : (v0.oneCell' && v1.oneCell' && v2.oneCell' && v3.oneCell' && v4.oneCell') = true) : VR w ok g m (.agg [c0, c1, c2, c3, c4]) (.agg #[v0, v1, v2, v3, v4]) := by
  simp only [Bool.and_eq_true] at o
  obtain ⟨⟨⟨⟨o0, o1⟩, o2⟩, o3⟩, o4⟩ := o
  refine VR.aggOf [c0, c1, c2, c3, c4] [v0, v1, v2, v3, v4] rfl fun i c v hc hv => ?_
  match i, hc, hv with
  | 0, hc, hv => cases hc; cases hv; exact ⟨h0, o0⟩
  | 1, hc, hv => cases hc; cases hv; exact ⟨h1, o1⟩
  | 2, hc, hv => cases hc; cases hv; exact ⟨h2, o2⟩
  | 3, hc, hv => cases hc; cases hv; exact ⟨h3, o3⟩
  | 4, hc, hv => cases hc; cases hv; exact ⟨h4, o4⟩
  | i + 5, hc, hv => simp at hc

theorem VR.ofTuple (cs : List AV) (vs : List Value) (hl : cs.length = vs.length) (h : ∀ (i : Nat) (c : AV) (v : Value), cs[i]? = some c → vs[i]? = some v → VR w ok g m c v) : VR w ok g m (.tuple cs) (.tuple vs.toArray) :=
  .tuple cs vs.toArray (by simpa using hl) (fun i c v hc hv => h i c v hc (by simpa using hv))
theorem VR.ofTuple2 {c0 c1 : AV} {v0 v1 : Value} (h0 : VR w ok g m c0 v0) (h1 : VR w ok g m c1 v1) : VR w ok g m (.tuple [c0, c1]) (.tuple #[v0, v1]) :=
  VR.ofTuple [c0, c1] [v0, v1] rfl fun i c v hc hv => by
    match i, hc, hv with
    | 0, hc, hv => cases hc; cases hv; exact h0
    | 1, hc, hv => cases hc; cases hv; exact h1
    | i + 2, hc, hv => simp at hc
theorem VR.ofTuple3 {c0 c1 c2 : AV} {v0 v1 v2 : Value} (h0 : VR w ok g m c0 v0) (h1 : VR w ok g m c1 v1) (h2 : VR w ok g m c2 v2) : VR w ok g m (.tuple [c0, c1, c2]) (.tuple #[v0, v1, v2]) :=
  VR.ofTuple [c0, c1, c2] [v0, v1, v2] rfl fun i c v hc hv => by
    match i, hc, hv with
    | 0, hc, hv => cases hc; cases hv; exact h0
    | 1, hc, hv => cases hc; cases hv; exact h1
    | 2, hc, hv => cases hc; cases hv; exact h2
    | i + 3, hc, hv => simp at hc
end

theorem args1 {w : World} {ok : Nat → Prop} {c : AV} {vals : Array Value} (hl : [c].length = vals.size) (hv : ∀ (i : Nat) (d : AV) (v : Value), [c][i]? = some d → vals[i]? = some v → VR w ok noG noM d v) : ∃ v, vals = #[v] ∧ VR w ok noG noM c v := by
  simp at hl
  refine ⟨vals[0], ?_, hv 0 c _ rfl (Array.getElem?_eq_getElem _)⟩
  apply Array.ext
  · simp; omega
  · intro i hi _
    match i, hi with
    | 0, _ => rfl
    | i + 1, hi => omega
theorem args2 {w : World} {ok : Nat → Prop} {c c' : AV} {vals : Array Value} (hl : [c, c'].length = vals.size) (hv : ∀ (i : Nat) (d : AV) (v : Value), [c, c'][i]? = some d → vals[i]? = some v → VR w ok noG noM d v) : ∃ v v', vals = #[v, v'] ∧ VR w ok noG noM c v ∧ VR w ok noG noM c' v' := by
  simp at hl
  refine ⟨vals[0], vals[1], ?_, hv 0 c _ rfl (Array.getElem?_eq_getElem _), hv 1 c' _ rfl (Array.getElem?_eq_getElem _)⟩
  apply Array.ext
  · simp; omega
  · intro i hi _
    match i, hi with
    | 0, _ => rfl
    | 1, _ => rfl
    | i + 2, hi => omega

/-- Out of an elder contract, whose answer is a flat tree or lies in old and new blocks. -/
theorem PSpec.elder {P : Program} {k : Nat} {args : List AV} {r : AV} (hent : ∃ fn, P.funcs[k]? = some fn ∧ (fn.name == "runtime.NumGoroutine") = false ∧ fn.body.isNone = false) (hr : ∀ q : Nat → Bool, r.has q = false)
    (h : ∀ (w : World) (ok : Nat → Prop) (vals : Array Value), (∀ b, ok b → b < w.heap.size) → args.length = vals.size → (∀ (i : Nat) (c : AV) (v : Value), args[i]? = some c → vals[i]? = some v → VR w ok noG noM c v) →
      Calls P k vals w fun e w' => ∃ v, e = .returned v ∧ Below w.heap.size w w' ∧ VR w' (okU ok w.heap.size w') noG noM r v) : PSpec P k args (fun _ => r) none := by
  refine ⟨hent, fun d => hr _, fun _ d => hr _, (fun y hy => by cases hy), fun d w ok vals hok hl hv => (h w ok vals hok hl hv).mono ?_⟩
  rintro e w' ⟨v, rfl, hb, hv⟩
  exact ⟨v, okU ok w.heap.size w', noG, rfl, hb, fun b hb => .inl hb, fun b hb => hb, hv.mono (fun _ => false) (hr _) (fun _ _ => rfl) (fun _ h => h) (fun o x' _ hx' => by simp [oneM] at hx'), fun y hy => by cases hy⟩

theorem sp_There (h : Hp) (s : Slt) : PSpec Try.prog 33 [hpAV h, slAV s] (fun _ => .d (.bool (h.there s))) none := by
  refine PSpec.elder ⟨_, Try.func33, rfl, rfl⟩ (fun _ => rfl) fun w ok vals hok hl hv => ?_
  obtain ⟨v, v', rfl, h1, h2⟩ := args2 hl hv
  obtain ⟨a, n, c, rfl, hR, _⟩ := h1.hp
  rw [h2.pair]
  refine (ref_There h s ok a n c w hok hR).mono ?_
  rintro e w' ⟨rfl, hb⟩
  exact ⟨_, rfl, hb, .d _ _ (.bool _)⟩

theorem sp_SameSlots (l m : List Slt) : PSpec Try.prog 13 [slsAV l, slsAV m] (fun _ => .d (.bool (decide (l = m)))) none := by
  refine PSpec.elder ⟨_, Try.func13, rfl, rfl⟩ (fun _ => rfl) fun w ok vals hok hl hv => ?_
  obtain ⟨v, v', rfl, h1, h2⟩ := args2 hl hv
  obtain ⟨a, c, rfl, _⟩ := h1.d_inv.sl_inv
  obtain ⟨a', c', rfl, _⟩ := h2.d_inv.sl_inv
  refine (ref_SameSlots l m ok a a' _ c _ c' w h1.d_inv h2.d_inv).mono ?_
  rintro e w' ⟨rfl, k, rfl⟩
  exact ⟨_, rfl, ⟨rfl, rfl, rfl, Nat.le_refl _, fun _ _ => rfl⟩, .d _ _ (.bool _)⟩

theorem Arr.toOR {w : World} {base : Nat} {e : TypeId} {sz : Nat} {ok ok' : Nat → Prop} {v : Value} {rows : List (List D)} (h : Arr w base e sz ok v rows) (hsz : 0 < sz) (hok : ∀ b, ok b → v.ownBlock ≠ some b → ok' b) (d : Nat) (m : Me) :
    OR w ok' ⟨fun _ => v.ownBlock, fun _ => capOf v⟩ m d (.arr e sz rows) ∧ VR w ok' ⟨fun _ => v.ownBlock, fun _ => capOf v⟩ (oneM d (some (.arr e sz rows))) (.arr d 0 rows.length) v := by
  obtain ⟨xs, h1, h2, h3⟩ := h
  rcases h1.2 with ⟨rfl, hn⟩ | ⟨b, cap, cur, rfl, hb, hg, hle, hcm, hcs, htk⟩
  · have hr : rows = [] := List.eq_nil_of_length_eq_zero hn
    subst hr
    refine ⟨⟨hsz, by simp, .inl ⟨rfl, rfl⟩⟩, .arr _ _ _ _ rfl fun e' sz' rows' hx => ?_⟩
    simp only [oneM, beq_self_eq_true, if_true] at hx
    cases hx
    exact ⟨by simp, .inl ⟨rfl, rfl, rfl, rfl⟩⟩
  · refine ⟨⟨hsz, h2, .inr ⟨b, cur, rfl, hg, hle, hcm, hcs, fun i j r c u hr hc hu => ?_⟩⟩, .arr _ _ _ _ rfl fun e' sz' rows' hx => ?_⟩
    · have hi : i < rows.length := (List.getElem?_eq_some_iff.1 hr).1
      have hj : j < sz := by have := h2 i r hr; have := (List.getElem?_eq_some_iff.1 hc).1; omega
      have : (i + 1) * sz ≤ rows.length * sz := Nat.mul_le_mul_right _ hi
      rw [Nat.add_mul] at this
      exact (h3 i j r c u hr hc (by rw [← htk, List.getElem?_take, if_pos (by omega)]; simpa using hu)).weak fun b' hb' => hok b' hb'.1 hb'.2
    · simp only [oneM, beq_self_eq_true, if_true] at hx
      cases hx
      exact ⟨by simp, .inr (.inl ⟨b, rfl, by simp [capOf]⟩)⟩

theorem sp_refOwn (h : Hp) (hlen : h.cells.length ≤ 1000000) (hs : ∀ x ∈ h.cells, x.slots.length ≤ 8796093022208) :
    PSpec Try.prog 36 [hpAV h] (fun d => .agg [.arr d 0 h.cells.length, .d (.int h.made), .d (.int h.used), .d (.int h.live), .d (.int h.peak)]) (some (.arr 51 3 (h.cells.map Cll.row))) := by
  refine ⟨⟨_, Try.func36, rfl, rfl⟩, fun d => by simp [AV.has, AV.hasL], (fun h => by cases h), fun y hy => ⟨_, _, _, (by cases hy; rfl)⟩, fun d w ok vals hok hl hv => ?_⟩
  obtain ⟨v, rfl, h1⟩ := args1 hl hv
  obtain ⟨a, n, c, rfl, hR, r1, r2, r3, r4⟩ := h1.hp
  have hn := hR.len_inv.1
  rw [List.length_map] at hn
  refine (ref_Own h.cells h.made h.used h.live h.peak ok a n c w hn (by omega) hs hok hR).mono ?_
  rintro e w' ⟨a', c', rfl, hA, hb⟩
  have hown := hA.own
  obtain ⟨k1, k2⟩ := hA.toOR (ok' := fun b => okU ok w.heap.size w' b ∧ (Value.slice a' n c').ownBlock ≠ some b) (by omega) (fun b h1 h2 => ⟨h1, h2⟩) d (oneM d (some (.arr 51 3 (h.cells.map Cll.row))))
  rw [List.length_map] at k2
  have kok : ∀ b, ok b → okU ok w.heap.size w' b ∧ (Value.slice a' n c').ownBlock ≠ some b := fun b hb => ⟨.inl hb, fun e => by
    have := (hown b e).1
    have := hok b hb
    omega⟩
  refine ⟨_, fun b => okU ok w.heap.size w' b ∧ (Value.slice a' n c').ownBlock ≠ some b, ⟨fun _ => (Value.slice a' n c').ownBlock, fun _ => capOf (Value.slice a' n c')⟩, rfl, hb, kok, fun b hb => hb.1, VR.ofAgg5 k2 (VR.ofInt r1) (VR.ofInt r2) (VR.ofInt r3) (VR.ofInt r4) rfl, fun y hy => ?_⟩
  · cases hy
    refine ⟨k1, fun b hb => ⟨fun h => h.2 hb, (hown b hb).1, (hown b hb).2⟩⟩
end Go.Proofs.Ytcakhebnebcpcaa
