/- heap's functions and the document's, in the abstract machine's words. -/
import Derived.Test.YtcakhebnebcpcaaHeapX
namespace Go.Proofs.Ytcakhebnebcpcaa
open Go.RowKit
set_option linter.unusedVariables false

structure Hp.Fits (h : Hp) : Prop where
  made : inI h.made
  used : inI h.used
  live : inI h.live
  peak : inI h.peak

theorem Hp.Ok.fits {h : Hp} {M : Int} (hO : h.Ok M) (hM : M ≤ 1000000000000) : h.Fits := by
  have h1 := hO.made
  have h2 := hO.used
  have h3 := hO.live
  have h4 := hO.peak
  exact ⟨⟨by omega, by omega⟩, ⟨by omega, by omega⟩, ⟨by omega, by omega⟩, ⟨by omega, by omega⟩⟩
theorem Hp.zero_fits : Hp.zero.Fits := ⟨⟨by decide, by decide⟩, ⟨by decide, by decide⟩, ⟨by decide, by decide⟩, ⟨by decide, by decide⟩⟩
theorem Hp.zero_ok {M : Int} (hM : 0 ≤ M) : Hp.zero.Ok M := ⟨by simpa [Hp.zero] using hM, by simp [Hp.zero], by simp [Hp.zero], by simp [Hp.zero]; omega, by simp [Hp.zero]; omega, by simp [Hp.zero]; omega, by simp [Hp.zero]; omega⟩

theorem inI_small {n : Int} (h : n = 0 ∨ n = 13 ∨ n = 14) : inI n := by rcases h with rfl | rfl | rfl <;> exact ⟨by decide, by decide⟩

theorem Hp.dup_e (h : Hp) (s : Slt) : inI (h.dup s).2 := by
  apply inI_small
  unfold Hp.dup
  split
  · split
    · split <;> simp
    · simp
  · simp
theorem Hp.free_e (h : Hp) (s : Slt) : inI (h.free s).2 := by
  apply inI_small
  unfold Hp.free
  split
  · split <;> simp
  · simp
theorem Hp.open_e (h : Hp) (s : Slt) (b : Bool) : inI (h.open s b).2.2 := by
  apply inI_small
  unfold Hp.open
  split
  · split
    · split
      · simp
      · split <;> simp
    · simp
  · simp
theorem Hp.make_e (h : Hp) (t : Int) (l : List Slt) : inI (h.make t l).2.2 := by
  apply inI_small
  unfold Hp.make
  split <;> simp
theorem Hp.use_e (h : Hp) (s : Slt) (t : Int) (l : List Slt) : inI (h.use s t l).2.2 := by
  unfold Hp.use
  split
  · split <;> exact inI_small (by simp)
  · exact Hp.make_e h t l
theorem Hp.drop_e (h : Hp) (s : Slt) : inI (h.drop s).2 := by
  rcases Hp.drops_two h _ [s] (Nat.le_refl _) with h1 | h1
  · exact inI_small (.inl h1)
  · rw [Hp.drop, h1]; exact inI_small (by simp)

theorem Hp.dups_rest : ∀ (l : List Slt) (h : Hp), (h.dups l).2 = 0 → (h.dups l).1.made = h.made ∧ (h.dups l).1.used = h.used ∧ (h.dups l).1.live = h.live ∧ (h.dups l).1.peak = h.peak
  | [], h, _ => ⟨rfl, rfl, rfl, rfl⟩
  | s :: r, h, he => by
    simp only [Hp.dups] at he ⊢
    by_cases h0 : (h.dup s).2 = 0
    · rw [if_pos h0] at he ⊢
      obtain ⟨a1, a2, a3, a4⟩ := Hp.dups_rest r _ he
      obtain ⟨b1, b2, b3, b4⟩ := Hp.dup_rest h0
      exact ⟨a1.trans b1, a2.trans b2, a3.trans b3, a4.trans b4⟩
    · rw [if_neg h0] at he
      simp at he

theorem Hp.put_rest (h : Hp) (n : Int) (x : Cll) : (h.put n x).made = h.made ∧ (h.put n x).used = h.used ∧ (h.put n x).live = h.live ∧ (h.put n x).peak = h.peak := ⟨rfl, rfl, rfl, rfl⟩

theorem Hp.open_fits {h : Hp} {M : Int} (hO : h.Ok M) (hM : M ≤ 1000000) (s : Slt) (b : Bool) : (h.open s b).1.Fits := by
  have hf := hO.fits (by omega)
  have h3 := hO.live
  unfold Hp.open
  split
  · split
    · rename_i x hx
      split
      · cases b
        · exact ⟨hf.made, hf.used, ⟨by simp; omega, by simp; omega⟩, hf.peak⟩
        · exact ⟨hf.made, hf.used, hf.live, hf.peak⟩
      · split
        · rename_i h0
          obtain ⟨a1, a2, a3, a4⟩ := Hp.dups_rest _ _ h0
          refine ⟨?_, ?_, ?_, ?_⟩ <;> dsimp only
          · rw [a1]; exact hf.made
          · rw [a2]; exact hf.used
          · rw [a3]; exact hf.live
          · rw [a4]; exact hf.peak
        · exact Hp.zero_fits
    · exact Hp.zero_fits
  · exact Hp.zero_fits

theorem Hp.free_fits {h : Hp} {M : Int} (hO : h.Ok M) (hM : M ≤ 1000000) (s : Slt) : (h.free s).1.Fits := by
  have hf := hO.fits (by omega)
  have h3 := hO.live
  unfold Hp.free
  split
  · split
    · exact ⟨hf.made, hf.used, ⟨by simp; omega, by simp; omega⟩, hf.peak⟩
    · exact Hp.zero_fits
  · exact hf

theorem Hp.make_fits {h : Hp} {M : Int} (hO : h.Ok M) (hM : M ≤ 1000000) (t : Int) (l : List Slt) : (h.make t l).1.Fits := by
  have h1 := hO.made
  have h2 := hO.used
  have h3 := hO.live
  have h4 := hO.peak
  unfold Hp.make
  split
  · exact Hp.zero_fits
  · exact ⟨⟨by dsimp only; omega, by dsimp only; omega⟩, ⟨by dsimp only; omega, by dsimp only; omega⟩, ⟨by dsimp only; omega, by dsimp only; omega⟩, ⟨by dsimp only; omega, by dsimp only; omega⟩⟩

theorem Hp.use_fits {h : Hp} {M : Int} (hO : h.Ok M) (hM : M ≤ 1000000) (s : Slt) (t : Int) (l : List Slt) : (h.use s t l).1.Fits := by
  have hf := hO.fits (by omega)
  have h2 := hO.used
  unfold Hp.use
  split
  · split
    · exact ⟨hf.made, ⟨by dsimp only; omega, by dsimp only; omega⟩, hf.live, hf.peak⟩
    · exact Hp.zero_fits
  · exact Hp.make_fits hO hM t l

theorem Hp.step_rest {h : Hp} {x : Slt} {st : List Slt} (he : (h.step x st).2.2 = 0) : (h.step x st).1.made = h.made ∧ (h.step x st).1.used = h.used ∧ (h.step x st).1.peak = h.peak := by
  unfold Hp.step at he ⊢
  split
  · rename_i hk
    rw [if_pos hk] at he
    split
    · rename_i c hc
      rw [hc] at he
      dsimp only at he
      split
      · rename_i h1
        split <;> exact ⟨rfl, rfl, rfl⟩
      · exact ⟨rfl, rfl, rfl⟩
    · exact ⟨rfl, rfl, rfl⟩
  · exact ⟨rfl, rfl, rfl⟩
theorem Hp.drops_rest : ∀ (n : Nat) (h : Hp) (st : List Slt), st.length + tot h.cells ≤ n → (h.drops st).2 = 0 → (h.drops st).1.made = h.made ∧ (h.drops st).1.used = h.used ∧ (h.drops st).1.peak = h.peak := by
  intro n
  induction n with
  | zero =>
    intro h st hn _
    have : st = [] := List.eq_nil_of_length_eq_zero (by omega)
    subst this
    rw [Hp.drops_nil]
    exact ⟨rfl, rfl, rfl⟩
  | succ n ih =>
    intro h st hn he
    rcases st with _ | ⟨x, st⟩
    · rw [Hp.drops_nil]; exact ⟨rfl, rfl, rfl⟩
    · rw [Hp.drops_cons] at he ⊢
      by_cases h0 : (h.step x st).2.2 = 0
      · rw [if_pos h0] at he ⊢
        have hm := Hp.step_msr h0
        obtain ⟨a1, a2, a3⟩ := ih _ _ (by omega) he
        obtain ⟨b1, b2, b3⟩ := Hp.step_rest h0
        exact ⟨a1.trans b1, a2.trans b2, a3.trans b3⟩
      · rw [if_neg h0] at he
        simp at he

theorem Hp.drops_fits {h : Hp} {st : List Slt} {k : Nat} (hf : h.Fits) (hD : h.Dk (st.length + k)) : (h.drops st).1.Fits := by
  rcases Hp.drops_two h _ st (Nat.le_refl _) with h0 | h0
  · obtain ⟨a1, a2, a3⟩ := Hp.drops_rest _ h st (Nat.le_refl _) h0
    obtain ⟨d1, _⟩ := Hp.Dk.drops _ h st k (Nat.le_refl _) hD h0
    have hlo := d1.lo
    have hhi := d1.hi
    exact ⟨by rw [a1]; exact hf.made, by rw [a2]; exact hf.used, ⟨by omega, by omega⟩, by rw [a3]; exact hf.peak⟩
  · rw [h0]; exact Hp.zero_fits

theorem HpRet.vr {w w' : World} {ok : Nat → Prop} {v : Value} {h : Hp} (hr : HpRet w w' ok v h) (hf : h.Fits) : VR w' (okU ok w.heap.size w') noG noM (hpAV h) v := by
  obtain ⟨a, n, c, rfl, hR⟩ := hr
  exact VR.ofAgg5 (.d _ _ hR) (VR.ofInt hf.made) (VR.ofInt hf.used) (VR.ofInt hf.live) (VR.ofInt hf.peak) rfl

theorem VR.slot {w : World} {ok : Nat → Prop} {g : Gh} {m : Me} {s : Slt} {v : Value} (h : VR w ok g m (slAV s) v) : v = .agg #[.int .i64 s.kind, .int .i64 s.n] ∧ inI s.kind ∧ inI s.n := by
  have hp := h.pair
  subst hp
  obtain ⟨vs, hv, hl, h1, _⟩ := h.agg_inv
  cases hv
  have e0 := (h1 0 _ _ rfl rfl).d_inv.int_inv
  have e1 := (h1 1 _ _ rfl rfl).d_inv.int_inv
  exact ⟨rfl, ⟨e0.2.1, e0.2.2⟩, ⟨e1.2.1, e1.2.2⟩⟩
theorem VR.ofSlot {w : World} {ok : Nat → Prop} {g : Gh} {m : Me} {s : Slt} (h1 : inI s.kind) (h2 : inI s.n) : VR w ok g m (slAV s) (.agg #[.int .i64 s.kind, .int .i64 s.n]) :=
  VR.aggOf [.d (.int s.kind), .d (.int s.n)] [.int .i64 s.kind, .int .i64 s.n] rfl fun i c v hc hv => by
    match i, hc, hv with
    | 0, hc, hv => cases hc; cases hv; exact ⟨VR.ofInt h1, rfl⟩
    | 1, hc, hv => cases hc; cases hv; exact ⟨VR.ofInt h2, rfl⟩
    | i + 2, hc, hv => simp at hc

/-- Functions of a heap and a slot that give a heap and what is wrong. -/
theorem sp_hs (k : Nat) (hent : ∃ fn, Try.prog.funcs[k]? = some fn ∧ (fn.name == "runtime.NumGoroutine") = false ∧ fn.body.isNone = false) (h : Hp) (s : Slt) (r : Hp × Int) (hf : r.1.Fits) (he : inI r.2)
    (hrun : ∀ (w : World) (ok : Nat → Prop) (a : Option Addr) (n c : Nat), (∀ b, ok b → b < w.heap.size) → inI s.kind → inI s.n → Rep w ok (.sl (h.cells.map Cll.row)) (.slice a n c) →
      Calls Try.prog k #[.agg #[.slice a n c, .int .i64 h.made, .int .i64 h.used, .int .i64 h.live, .int .i64 h.peak], .agg #[.int .i64 s.kind, .int .i64 s.n]] w fun e w' => ∃ v, e = .returned (.tuple #[v, .int .i64 r.2]) ∧ HpRet w w' ok v r.1 ∧ Below w.heap.size w w') :
    PSpec Try.prog k [hpAV h, slAV s] (fun _ => .tuple [hpAV r.1, .d (.int r.2)]) none := by
  refine PSpec.elder hent (fun _ => rfl) fun w ok vals hok hl hv => ?_
  obtain ⟨v, v', rfl, h1, h2⟩ := args2 hl hv
  obtain ⟨a, n, c, rfl, hR, _⟩ := h1.hp
  obtain ⟨rfl, s1, s2⟩ := h2.slot
  refine (hrun w ok a n c hok s1 s2 hR).mono ?_
  rintro e w' ⟨v, rfl, hr, hb⟩
  exact ⟨_, rfl, hb, VR.ofTuple2 (hr.vr hf) (VR.ofInt he)⟩

section
variable {h : Hp} {M : Int}
theorem sp_heapDup (hO : h.Ok M) (hM : M ≤ 1000000) (h0 : 0 ≤ M) (s : Slt) : PSpec Try.prog 19 [hpAV h, slAV s] (fun _ => .tuple [hpAV (h.dup s).1, .d (.int (h.dup s).2)]) none :=
  sp_hs _ ⟨_, Try.func19, rfl, rfl⟩ h s (h.dup s) ((hO.dup h0 s).fits (by omega)) (Hp.dup_e h s) fun w ok a n c hok _ _ hR => heap_Dup h s M ok a n c w hM hO hok hR
theorem sp_refDup (hO : h.Ok M) (hM : M ≤ 1000000) (h0 : 0 ≤ M) (s : Slt) : PSpec Try.prog 20 [hpAV h, slAV s] (fun _ => .tuple [hpAV (h.dup s).1, .d (.int (h.dup s).2)]) none :=
  sp_hs _ ⟨_, Try.func20, rfl, rfl⟩ h s (h.dup s) ((hO.dup h0 s).fits (by omega)) (Hp.dup_e h s) fun w ok a n c hok _ _ hR => ref_Dup h s M ok a n c w hM hO hok hR
theorem sp_heapFree (hO : h.Ok M) (hM : M ≤ 1000000) (s : Slt) : PSpec Try.prog 25 [hpAV h, slAV s] (fun _ => .tuple [hpAV (h.free s).1, .d (.int (h.free s).2)]) none :=
  sp_hs _ ⟨_, Try.func25, rfl, rfl⟩ h s (h.free s) (Hp.free_fits hO hM s) (Hp.free_e h s) fun w ok a n c hok _ _ hR => heap_Free h s M ok a n c w hM hO hok hR
theorem sp_refFree (hO : h.Ok M) (hM : M ≤ 1000000) (s : Slt) : PSpec Try.prog 26 [hpAV h, slAV s] (fun _ => .tuple [hpAV (h.free s).1, .d (.int (h.free s).2)]) none :=
  sp_hs _ ⟨_, Try.func26, rfl, rfl⟩ h s (h.free s) (Hp.free_fits hO hM s) (Hp.free_e h s) fun w ok a n c hok _ _ hR => ref_Free h s M ok a n c w hM hO hok hR
theorem sp_heapTake (hO : h.Ok M) (hM : 3 * M ≤ 1000000) (h0 : 0 ≤ M) (s : Slt) : PSpec Try.prog 23 [hpAV h, slAV s] (fun _ => .tuple [hpAV (h.open s false).1, .d (.int (h.open s false).2.2)]) none :=
  sp_hs _ ⟨_, Try.func23, rfl, rfl⟩ h s ((h.open s false).1, (h.open s false).2.2) (Hp.open_fits hO (by omega) s false) (Hp.open_e h s false) fun w ok a n c hok _ _ hR => heap_Take h s M ok a n c w (by omega) hO hM hok hR
theorem sp_refTake (hO : h.Ok M) (hM : 3 * M ≤ 1000000) (h0 : 0 ≤ M) (s : Slt) : PSpec Try.prog 24 [hpAV h, slAV s] (fun _ => .tuple [hpAV (h.open s false).1, .d (.int (h.open s false).2.2)]) none :=
  sp_hs _ ⟨_, Try.func24, rfl, rfl⟩ h s ((h.open s false).1, (h.open s false).2.2) (Hp.open_fits hO (by omega) s false) (Hp.open_e h s false) fun w ok a n c hok _ _ hR => ref_Take h s M ok a n c w (by omega) hO hM hok hR
theorem sp_heapDrop (hO : h.Ok M) (hM : M ≤ 1000000) (s : Slt) : PSpec Try.prog 21 [hpAV h, slAV s] (fun _ => .tuple [hpAV (h.drop s).1, .d (.int (h.drop s).2)]) none :=
  sp_hs _ ⟨_, Try.func21, rfl, rfl⟩ h s (h.drop s) (Hp.drops_fits (k := 0) (hO.fits (by omega)) (hO.dk hM)) (Hp.drop_e h s) fun w ok a n c hok s1 s2 hR => heap_Drop h s M ok a n c w hM hO ⟨s1, s2⟩ hok hR

theorem sp_hold (k : Nat) (hent : ∃ fn, Try.prog.funcs[k]? = some fn ∧ (fn.name == "runtime.NumGoroutine") = false ∧ fn.body.isNone = false) (hO : h.Ok M) (hM : M ≤ 1000000) (s : Slt)
    (hrun : ∀ (w : World) (ok : Nat → Prop) (a : Option Addr) (n c : Nat), (∀ b, ok b → b < w.heap.size) → Rep w ok (.sl (h.cells.map Cll.row)) (.slice a n c) →
      Calls Try.prog k #[.agg #[.slice a n c, .int .i64 h.made, .int .i64 h.used, .int .i64 h.live, .int .i64 h.peak], .agg #[.int .i64 s.kind, .int .i64 s.n]] w (HoldSaid h s ok w)) :
    PSpec Try.prog k [hpAV h, slAV s] (fun _ => .tuple [hpAV (h.hold s).1, slAV (h.hold s).2.1, .d (.int (h.hold s).2.2)]) none := by
  refine PSpec.elder hent (fun _ => rfl) fun w ok vals hok hl hv => ?_
  obtain ⟨v, v', rfl, h1, h2⟩ := args2 hl hv
  obtain ⟨a, n, c, rfl, hR, _⟩ := h1.hp
  obtain ⟨rfl, s1, s2⟩ := h2.slot
  refine (hrun w ok a n c hok hR).mono ?_
  rintro e w' ⟨v, rfl, hr, hb⟩
  have hs : inI (h.hold s).2.1.kind ∧ inI (h.hold s).2.1.n := by
    unfold Hp.hold
    dsimp only
    split
    · exact ⟨s1, s2⟩
    · exact ⟨⟨by decide, by decide⟩, ⟨by decide, by decide⟩⟩
  exact ⟨_, rfl, hb, VR.ofTuple3 (hr.vr (Hp.open_fits hO hM s true)) (VR.ofSlot hs.1 hs.2) (VR.ofInt (Hp.open_e h s true))⟩
theorem sp_heapHold (hO : h.Ok M) (hM : 3 * M ≤ 1000000) (h0 : 0 ≤ M) (s : Slt) : PSpec Try.prog 16 [hpAV h, slAV s] (fun _ => .tuple [hpAV (h.hold s).1, slAV (h.hold s).2.1, .d (.int (h.hold s).2.2)]) none :=
  sp_hold _ ⟨_, Try.func16, rfl, rfl⟩ hO (by omega) s fun w ok a n c hok hR => heap_Hold h s M ok a n c w (by omega) hO hM hok hR
theorem sp_refHold (hO : h.Ok M) (hM : 3 * M ≤ 1000000) (h0 : 0 ≤ M) (s : Slt) : PSpec Try.prog 8 [hpAV h, slAV s] (fun _ => .tuple [hpAV (h.hold s).1, slAV (h.hold s).2.1, .d (.int (h.hold s).2.2)]) none :=
  sp_hold _ ⟨_, Try.func8, rfl, rfl⟩ hO (by omega) s fun w ok a n c hok hR => ref_Hold h s M ok a n c w (by omega) hO hM hok hR

theorem sp_get (k : Nat) (hent : ∃ fn, Try.prog.funcs[k]? = some fn ∧ (fn.name == "runtime.NumGoroutine") = false ∧ fn.body.isNone = false) (s : Slt) (ht : ∀ x ∈ h.cells, inI x.tag)
    (hrun : ∀ (w : World) (ok : Nat → Prop) (a : Option Addr) (n c : Nat), (∀ b, ok b → b < w.heap.size) → Rep w ok (.sl (h.cells.map Cll.row)) (.slice a n c) →
      Calls Try.prog k #[.agg #[.slice a n c, .int .i64 h.made, .int .i64 h.used, .int .i64 h.live, .int .i64 h.peak], .agg #[.int .i64 s.kind, .int .i64 s.n]] w (GetSaid h s ok w)) :
    PSpec Try.prog k [hpAV h, slAV s] (fun _ => .tuple [.d (.int (h.get s).1), slsAV (h.get s).2.1, .d (.int (h.get s).2.2)]) none := by
  refine PSpec.elder hent (fun _ => rfl) fun w ok vals hok hl hv => ?_
  obtain ⟨v, v', rfl, h1, h2⟩ := args2 hl hv
  obtain ⟨a, n, c, rfl, hR, _⟩ := h1.hp
  obtain ⟨rfl, s1, s2⟩ := h2.slot
  refine (hrun w ok a n c hok hR).mono ?_
  rintro e w' ⟨a, n, c, rfl, hr, hb⟩
  have hs : inI (h.get s).1 ∧ inI (h.get s).2.2 := by
    unfold Hp.get
    split
    · split
      · rename_i x hx
        obtain ⟨_, _, ys, zs, hl, _⟩ := Hp.at_some hx
        exact ⟨ht x (by rw [hl]; simp), inI_small (by simp)⟩
      · exact ⟨inI_small (by simp), inI_small (by simp)⟩
    · exact ⟨inI_small (by simp), inI_small (by simp)⟩
  exact ⟨_, rfl, hb, VR.ofTuple3 (VR.ofInt hs.1) (.d _ _ hr) (VR.ofInt hs.2)⟩

theorem args3 {w : World} {ok : Nat → Prop} {c c' c2 : AV} {vals : Array Value} (hl : [c, c', c2].length = vals.size) (hv : ∀ (i : Nat) (d : AV) (v : Value), [c, c', c2][i]? = some d → vals[i]? = some v → VR w ok noG noM d v) : ∃ v v' v2, vals = #[v, v', v2] ∧ VR w ok noG noM c v ∧ VR w ok noG noM c' v' ∧ VR w ok noG noM c2 v2 := by
  simp at hl
  refine ⟨vals[0], vals[1], vals[2], ?_, hv 0 c _ rfl (Array.getElem?_eq_getElem _), hv 1 c' _ rfl (Array.getElem?_eq_getElem _), hv 2 c2 _ rfl (Array.getElem?_eq_getElem _)⟩
  apply Array.ext
  · simp; omega
  · intro i hi _
    match i, hi with
    | 0, _ => rfl
    | 1, _ => rfl
    | 2, _ => rfl
    | i + 3, hi => omega
theorem args4 {w : World} {ok : Nat → Prop} {c c' c2 c3 : AV} {vals : Array Value} (hl : [c, c', c2, c3].length = vals.size) (hv : ∀ (i : Nat) (d : AV) (v : Value), [c, c', c2, c3][i]? = some d → vals[i]? = some v → VR w ok noG noM d v) : ∃ v v' v2 v3, vals = #[v, v', v2, v3] ∧ VR w ok noG noM c v ∧ VR w ok noG noM c' v' ∧ VR w ok noG noM c2 v2 ∧ VR w ok noG noM c3 v3 := by
  simp at hl
  refine ⟨vals[0], vals[1], vals[2], vals[3], ?_, hv 0 c _ rfl (Array.getElem?_eq_getElem _), hv 1 c' _ rfl (Array.getElem?_eq_getElem _), hv 2 c2 _ rfl (Array.getElem?_eq_getElem _), hv 3 c3 _ rfl (Array.getElem?_eq_getElem _)⟩
  apply Array.ext
  · simp; omega
  · intro i hi _
    match i, hi with
    | 0, _ => rfl
    | 1, _ => rfl
    | 2, _ => rfl
    | 3, _ => rfl
    | i + 4, hi => omega

theorem make_slot {hp : Hp} (hO : hp.Ok M) (hM : M ≤ 1000000) (t : Int) (l : List Slt) : inI (hp.make t l).2.1.kind ∧ inI (hp.make t l).2.1.n := by
  unfold Hp.make
  split
  · exact ⟨inI_small (by simp), inI_small (by simp)⟩
  · have h1 := hO.len
    have h2 := room_le hp.cells
    exact ⟨⟨by dsimp only; omega, by dsimp only; omega⟩, ⟨by dsimp only; omega, by dsimp only; omega⟩⟩

theorem sp_make (k : Nat) (hent : ∃ fn, Try.prog.funcs[k]? = some fn ∧ (fn.name == "runtime.NumGoroutine") = false ∧ fn.body.isNone = false) (hO : h.Ok M) (hM : M ≤ 1000000) (tag : Int) (l : List Slt) (hlb : l.length ≤ 8796093022208)
    (hrun : ∀ (w : World) (ok : Nat → Prop) (a : Option Addr) (n c : Nat) (la : Option Addr) (ln lc : Nat), inI tag → ln = l.length → (∀ b, ok b → b < w.heap.size) → Rep w ok (.sl (h.cells.map Cll.row)) (.slice a n c) → Rep w ok (.sl (l.map Slt.row)) (.slice la ln lc) →
      Calls Try.prog k #[.agg #[.slice a n c, .int .i64 h.made, .int .i64 h.used, .int .i64 h.live, .int .i64 h.peak], .int .i64 tag, .slice la ln lc] w (MakeSaid h tag l ok w)) :
    PSpec Try.prog k [hpAV h, .d (.int tag), slsAV l] (fun _ => .tuple [hpAV (h.make tag l).1, slAV (h.make tag l).2.1, .d (.int (h.make tag l).2.2)]) none := by
  refine PSpec.elder hent (fun _ => rfl) fun w ok vals hok hl hv => ?_
  obtain ⟨v, v', v2, rfl, h1, h2, h3⟩ := args3 hl hv
  obtain ⟨a, n, c, rfl, hR, _⟩ := h1.hp
  obtain ⟨rfl, t1, t2⟩ := h2.d_inv.int_inv
  obtain ⟨la, lc, rfl, _⟩ := h3.d_inv.sl_inv
  refine (hrun w ok a n c la _ lc ⟨t1, t2⟩ (by simp) hok hR h3.d_inv).mono ?_
  rintro e w' ⟨v, rfl, hr, hb⟩
  obtain ⟨s1, s2⟩ := make_slot hO hM tag l
  exact ⟨_, rfl, hb, VR.ofTuple3 (hr.vr (Hp.make_fits hO hM tag l)) (VR.ofSlot s1 s2) (VR.ofInt (Hp.make_e h tag l))⟩
theorem sp_heapMake (hO : h.Ok M) (hM : M ≤ 1000000) (tag : Int) (l : List Slt) (hlb : l.length ≤ 8796093022208) : PSpec Try.prog 14 [hpAV h, .d (.int tag), slsAV l] (fun _ => .tuple [hpAV (h.make tag l).1, slAV (h.make tag l).2.1, .d (.int (h.make tag l).2.2)]) none :=
  sp_make _ ⟨_, Try.func14, rfl, rfl⟩ hO hM tag l hlb fun w ok a n c la ln lc ht hln hok hR hL => heap_Make h tag l M ok a n c la ln lc w hM hO ht hln (by omega) hok hR hL
theorem sp_refMake (hO : h.Ok M) (hM : M ≤ 1000000) (tag : Int) (l : List Slt) (hlb : l.length ≤ 8796093022208) : PSpec Try.prog 15 [hpAV h, .d (.int tag), slsAV l] (fun _ => .tuple [hpAV (h.make tag l).1, slAV (h.make tag l).2.1, .d (.int (h.make tag l).2.2)]) none :=
  sp_make _ ⟨_, Try.func15, rfl, rfl⟩ hO hM tag l hlb fun w ok a n c la ln lc ht hln hok hR hL => ref_Make h tag l M ok a n c la ln lc w hM hO ht hln (by omega) hok hR hL

theorem sp_use (k : Nat) (hent : ∃ fn, Try.prog.funcs[k]? = some fn ∧ (fn.name == "runtime.NumGoroutine") = false ∧ fn.body.isNone = false) (hO : h.Ok M) (hM : M ≤ 1000000) (s : Slt) (tag : Int) (l : List Slt) (hlb : l.length ≤ 8796093022208)
    (hrun : ∀ (w : World) (ok : Nat → Prop) (a : Option Addr) (n c : Nat) (la : Option Addr) (ln lc : Nat), inI tag → ln = l.length → (∀ b, ok b → b < w.heap.size) → Rep w ok (.sl (h.cells.map Cll.row)) (.slice a n c) → Rep w ok (.sl (l.map Slt.row)) (.slice la ln lc) →
      Calls Try.prog k #[.agg #[.slice a n c, .int .i64 h.made, .int .i64 h.used, .int .i64 h.live, .int .i64 h.peak], .agg #[.int .i64 s.kind, .int .i64 s.n], .int .i64 tag, .slice la ln lc] w (UseSaid h s tag l ok w)) :
    PSpec Try.prog k [hpAV h, slAV s, .d (.int tag), slsAV l] (fun _ => .tuple [hpAV (h.use s tag l).1, slAV (h.use s tag l).2.1, .d (.int (h.use s tag l).2.2)]) none := by
  refine PSpec.elder hent (fun _ => rfl) fun w ok vals hok hl hv => ?_
  obtain ⟨v, v', v2, v3, rfl, h1, h2, h3, h4⟩ := args4 hl hv
  obtain ⟨a, n, c, rfl, hR, _⟩ := h1.hp
  obtain ⟨rfl, q1, q2⟩ := h2.slot
  obtain ⟨rfl, t1, t2⟩ := h3.d_inv.int_inv
  obtain ⟨la, lc, rfl, _⟩ := h4.d_inv.sl_inv
  refine (hrun w ok a n c la _ lc ⟨t1, t2⟩ (by simp) hok hR h4.d_inv).mono ?_
  rintro e w' ⟨v, rfl, hr, hb⟩
  have hs : inI (h.use s tag l).2.1.kind ∧ inI (h.use s tag l).2.1.n := by
    unfold Hp.use
    split
    · split
      · exact ⟨q1, q2⟩
      · exact ⟨inI_small (by simp), inI_small (by simp)⟩
    · exact make_slot hO hM tag l
  exact ⟨_, rfl, hb, VR.ofTuple3 (hr.vr (Hp.use_fits hO hM s tag l)) (VR.ofSlot hs.1 hs.2) (VR.ofInt (Hp.use_e h s tag l))⟩
theorem sp_heapUse (hO : h.Ok M) (hM : M ≤ 1000000) (s : Slt) (tag : Int) (l : List Slt) (hlb : l.length ≤ 8796093022208) : PSpec Try.prog 17 [hpAV h, slAV s, .d (.int tag), slsAV l] (fun _ => .tuple [hpAV (h.use s tag l).1, slAV (h.use s tag l).2.1, .d (.int (h.use s tag l).2.2)]) none :=
  sp_use _ ⟨_, Try.func17, rfl, rfl⟩ hO hM s tag l hlb fun w ok a n c la ln lc ht hln hok hR hL => heap_Use h s tag l M ok a n c la ln lc w hM hO ht hln (by omega) hok hR hL
theorem sp_refUse (hO : h.Ok M) (hM : M ≤ 1000000) (s : Slt) (tag : Int) (l : List Slt) (hlb : l.length ≤ 8796093022208) : PSpec Try.prog 18 [hpAV h, slAV s, .d (.int tag), slsAV l] (fun _ => .tuple [hpAV (h.use s tag l).1, slAV (h.use s tag l).2.1, .d (.int (h.use s tag l).2.2)]) none :=
  sp_use _ ⟨_, Try.func18, rfl, rfl⟩ hO hM s tag l hlb fun w ok a n c la ln lc ht hln hok hR hL => ref_Use h s tag l M ok a n c la ln lc w hM hO ht hln (by omega) hok hR hL
end
end Go.Proofs.Ytcakhebnebcpcaa
