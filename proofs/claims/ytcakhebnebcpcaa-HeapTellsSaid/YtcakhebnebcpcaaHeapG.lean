/- A heap in a variable of the call's own ('HpBox'); a heap that is handed back ('HpRet'); heap.dup, heap.Dup, xcref10.Dup. -/
import Derived.Test.YtcakhebnebcpcaaHeapF
namespace Go.Proofs.Ytcakhebnebcpcaa
open Go.RowKit
set_option linter.unusedVariables false

def Hp.zero : Hp := ⟨[], 0, 0, 0, 0⟩
def Hp.put (h : Hp) (n : Int) (x : Cll) : Hp := { h with cells := h.cells.set n.toNat x }
/-- What counts a slot once more: the heap, and what is wrong. -/
def Hp.dup (h : Hp) (s : Slt) : Hp × Int :=
  if s.kind = 2 then
    match h.at s.n with
    | some x => if 1 ≤ x.count then (h.put s.n { x with count := x.count + 1 }, 0) else (Hp.zero, 14)
    | none => (Hp.zero, 14)
  else (h, 0)

/-- All numbers of a heap are small. -/
structure Hp.Ok (M : Int) (h : Hp) : Prop where
  len : (h.cells.length : Int) ≤ M
  slots : ∀ x ∈ h.cells, (x.slots.length : Int) ≤ M
  count : ∀ x ∈ h.cells, -M ≤ x.count ∧ x.count ≤ M
  made : -M ≤ h.made ∧ h.made ≤ M
  used : -M ≤ h.used ∧ h.used ≤ M
  live : -M ≤ h.live ∧ h.live ≤ M
  peak : -M ≤ h.peak ∧ h.peak ≤ M

/-- A heap in a variable at block p, whose cells the call itself has laid. -/
def HpBox (w : World) (p base : Nat) (ok : Nat → Prop) (a : Option Addr) (n c : Nat) (h : Hp) : Prop :=
  Blk w p 28 #[.slice a n c, .int .i64 h.made, .int .i64 h.used, .int .i64 h.live, .int .i64 h.peak] ∧ Arr w base 51 3 ok (.slice a n c) (h.cells.map Cll.row)

/-- A heap that is handed back. -/
def HpRet (w w' : World) (ok : Nat → Prop) (v : Value) (h : Hp) : Prop :=
  ∃ a n c, v = .agg #[.slice a n c, .int .i64 h.made, .int .i64 h.used, .int .i64 h.live, .int .i64 h.peak] ∧ Rep w' (okU ok w.heap.size w') (.sl (h.cells.map Cll.row)) (.slice a n c)

section
variable {w w' : World} {p base : Nat} {ok ok' : Nat → Prop} {a : Option Addr} {n c : Nat} {h : Hp}

theorem HpRet.zero : HpRet w w' ok (.agg #[.slice none 0 0, .int .i64 0, .int .i64 0, .int .i64 0, .int .i64 0]) Hp.zero := ⟨none, 0, 0, rfl, .empty none 0 (fun _ => rfl) (Nat.zero_le _)⟩

theorem HpBox.weak (h1 : HpBox w p base ok a n c h) (hok : ∀ b, ok b → ok' b) : HpBox w p base ok' a n c h := ⟨h1.1, h1.2.weak hok⟩
theorem HpBox.under {B : Nat} (h1 : HpBox w p base ok a n c h) (hb : Below B w w') (hB : w.heap.size ≤ B) (hok : ∀ b, ok b → b < B) : HpBox w' p base ok a n c h :=
  ⟨h1.1.under hb (Nat.lt_of_lt_of_le h1.1.lt hB), h1.2.under hb hB hok⟩
theorem HpBox.alloc (h1 : HpBox w p base ok a n c h) (o : Obj) (hok : ∀ b, ok b → b < w.heap.size) : HpBox (w.alloc o) p base ok a n c h := ⟨h1.1.alloc o, h1.2.alloc o hok⟩
theorem HpBox.far (h1 : HpBox w p base ok a n c h) {q : Addr} (u : Value) (hq : p ≠ q.block) (hb : ∀ g, a = some ⟨g, 0, none⟩ → g ≠ q.block) (hok : ∀ b, ok b → b ≠ q.block) : HpBox (w.setCell q u) p base ok a n c h :=
  ⟨h1.1.far hq u, h1.2.setCell u (fun e => by
    have hown := h1.2.own
    obtain ⟨xs, ho, _⟩ := h1.2
    rcases ho.2 with ⟨hv, _⟩ | ⟨g, cap, cur, hv, _⟩
    · rw [hv] at e; simp [Value.ownBlock] at e
    · rw [hv] at e
      simp [Value.ownBlock] at e
      injection hv with ha
      exact hb g ha e) hok⟩
theorem HpBox.len (h1 : HpBox w p base ok a n c h) : n = h.cells.length := by
  obtain ⟨a', c', e⟩ := h1.2.shape
  injection e with _ e _
  rw [List.length_map] at e
  exact e
theorem HpBox.own (h1 : HpBox w p base ok a n c h) (g : Nat) (ha : a = some ⟨g, 0, none⟩) : base ≤ g ∧ g < w.heap.size := h1.2.own g (by rw [ha]; rfl)
theorem HpBox.rep (h1 : HpBox w p base ok a n c h) (hok : ∀ b, base ≤ b → b < w.heap.size → ok' b) (hok2 : ∀ b, ok b → ok' b) : Rep w ok' (.sl (h.cells.map Cll.row)) (.slice a n c) := h1.2.rep hok hok2
end

theorem Hp.put_split {h : Hp} {ys zs : List Cll} {x y : Cll} {n : Int} (hl : h.cells = ys ++ x :: zs) (hk : ys.length = n.toNat) : (h.put n y).cells = ys ++ y :: zs := by
  unfold Hp.put
  rw [hl, ← hk]
  simp

set_option maxHeartbeats 1000000 in
theorem heap_dup (h : Hp) (s : Slt) (M : Int) (ok : Nat → Prop) (p base : Nat) (a : Option Addr) (n c : Nat) (w : World) (hM : M ≤ 1000000000000) (hO : h.Ok M) (hok : ∀ b, ok b → b < w.heap.size ∧ b ≠ p) (hpg : ∀ g, a = some ⟨g, 0, none⟩ → g ≠ p) (hB : HpBox w p base ok a n c h) :
    Calls Try.prog 40 #[.pointer (some ⟨p, 0, none⟩), .agg #[.int .i64 s.kind, .int .i64 s.n]] w fun e w' => e = .returned (.bool ((h.dup s).2 == 0)) ∧ w.grownBy w' (Value.slice a n c).ownBlock ∧ ((h.dup s).2 = 0 → HpBox w' p base ok a n c (h.dup s).1) := by
  by_cases hk : s.kind = 2
  · have hR : Rep w (fun b => b < w.heap.size) (.sl (h.cells.map Cll.row)) (.slice a n c) := hB.rep (fun b _ h => h) (fun b hb => (hok b hb).1)
    have hp := hB.1.cell 0
    have hk' : (s.kind != 2) = false := by simpa using hk
    have bad : (∀ x, h.at s.n = some x → x.count < 1) → Calls Try.prog 40 #[.pointer (some ⟨p, 0, none⟩), .agg #[.int .i64 s.kind, .int .i64 s.n]] w fun e w' => e = .returned (.bool false) ∧ w.grownBy w' (Value.slice a n c).ownBlock := by
      intro hno
      have hp' := hp
      clear hk hB hO
      go_enter Try.func40, Try.ntmps40
      go_wp2_with fail
      refine (heap_cell_none h s (fun b => b < w.heap.size) a n c p _ (fun b hb => by simp; omega) ?_ (hR.alloc _ fun b hb => hb) hno).mono ?_
      · rw [World.cell?_alloc_lt w _ _ (World.block_lt_of_cell? w _ hp')]; exact hp'
      rintro e w2 ⟨rfl, hb2⟩
      go_wp2_with fail
      go_ret
      have hb3 : Below w.heap.size w w2 := ((Below.refl _ _).alloc (Nat.le_refl _) _).trans (hb2.mono (by simp))
      exact ⟨rfl, hb3.os, hb3.tape, hb3.output, hb3.size, fun k hk _ => hb3.block k hk⟩
    rcases hx : h.at s.n with _ | x
    · have HE : h.dup s = (Hp.zero, 14) := by simp [Hp.dup, hx, hk]
      refine (bad fun x e => by rw [hx] at e; cases e).mono fun e w' ⟨he, hg⟩ => ⟨by rw [HE]; exact he, hg, fun h => by rw [HE] at h; simp at h⟩
    · by_cases hc : 1 ≤ x.count
      · have HE : Hid (h.dup s = (h.put s.n { x with count := x.count + 1 }, 0)) := by simp [Hid, Hp.dup, hx, hk, hc]
        obtain ⟨h0, h1, ys, zs, hl, hky⟩ := Hp.at_some hx
        have hcb := (hO.count x (by rw [hl]; simp)).2
        have hA := hB.2
        obtain ⟨g, sa, sc, rfl, hbg, hgs, c0, _, _, hf, _⟩ := Arr.cll hA hl
        rw [hky] at c0
        have hp' := hp
        have HB := Lib.hid hB
        have HH := Lib.hid (And.intro hx (And.intro hl hky))
        clear hk hB hO hA hx hl hky hp
        go_enter Try.func40, Try.ntmps40
        go_wp2_with fail
        refine (heap_cell_some h s x (fun b => b < w.heap.size) g 0 n c p _ (fun b hb => by simp; omega) ?_ (hR.alloc _ fun b hb => hb) HH.out.1 hc).mono ?_
        · rw [World.cell?_alloc_lt w _ _ (World.block_lt_of_cell? w _ hp')]; exact hp'
        rintro e w2 ⟨rfl, hb2⟩
        have hb3 : Below w.heap.size w w2 := ((Below.refl _ _).alloc (Nat.le_refl _) _).trans (hb2.mono (by simp))
        have c2 : w2.cell? ⟨g, s.n.toNat * 3, none⟩ = some (.int .i64 x.count) := (hb3.cell hgs).trans c0
        have f2 : w2.frozen? ⟨g, s.n.toNat * 3, none⟩ = false := (hb3.frozen hgs).trans (hf _)
        clear hp' c0 hf hb2
        go_wp2_with fail
        go_ret
        refine ⟨by rw [HE.out]; rfl, ⟨hb3.os, hb3.tape, hb3.output, by simpa using hb3.size, fun k hk hne => ?_⟩, fun _ => ?_⟩
        · rw [Below.heap_setCell _ _ _ _ (fun e => hne (by rw [e]; rfl))]
          exact hb3.block k hk
        · rw [HE.out]
          have hB2 := HB.out.under hb3 (Nat.le_refl _) fun b hb => (hok b hb).1
          obtain ⟨_, hl, hky⟩ := HH.out
          refine ⟨hB2.1.far (fun e => hpg g rfl e.symm) _, ?_⟩
          have hA2 := hB2.2
          rw [hl] at hA2
          have := hA2.cll_count (x.count + 1) (by omega) (by omega)
          rw [hky] at this
          rw [Hp.put_split hl hky]
          exact this
      · have HE : h.dup s = (Hp.zero, 14) := by simp [Hp.dup, hx, hk, hc]
        refine (bad fun x' e => by rw [hx] at e; obtain rfl := Option.some.inj e; omega).mono fun e w' ⟨he, hg⟩ => ⟨by rw [HE]; exact he, hg, fun h => by rw [HE] at h; simp at h⟩
  · have HE : Hid (h.dup s = (h, 0)) := by simp [Hid, Hp.dup, hk]
    have hk' : (s.kind != 2) = true := by simpa using hk
    have HB := Lib.hid hB
    clear hk hB
    go_enter Try.func40, Try.ntmps40
    go_wp2_with fail
    go_ret
    refine ⟨by rw [HE.out]; rfl, World.grownBy_alloc _ _ _, fun _ => ?_⟩
    rw [HE.out]
    exact HB.out.alloc _ fun b hb => (hok b hb).1
theorem Hp.dup_bad {h : Hp} {s : Slt} (hz : (h.dup s).2 ≠ 0) : h.dup s = (Hp.zero, 14) := by
  unfold Hp.dup at hz ⊢
  by_cases hk : s.kind = 2
  · rw [if_pos hk] at hz ⊢
    rcases hx : h.at s.n with _ | x
    · rfl
    · rw [hx] at hz
      by_cases hc : 1 ≤ x.count
      · simp [hc] at hz
      · simp [hc]
  · simp [hk] at hz

/-- What both tell of a slot that is there once more. -/
def DupSaid (h : Hp) (s : Slt) (ok : Nat → Prop) (w : World) (e : Ending) (w' : World) : Prop :=
  ∃ v, e = .returned (.tuple #[v, .int .i64 (h.dup s).2]) ∧ HpRet w w' ok v (h.dup s).1 ∧ Below w.heap.size w w'

set_option maxHeartbeats 1000000 in
theorem heap_Dup (h : Hp) (s : Slt) (M : Int) (ok : Nat → Prop) (a : Option Addr) (n c : Nat) (w : World) (hM : M ≤ 1000000) (hO : h.Ok M) (hok : ∀ b, ok b → b < w.heap.size) (hR : Rep w ok (.sl (h.cells.map Cll.row)) (.slice a n c)) :
    Calls Try.prog 19 #[.agg #[.slice a n c, .int .i64 h.made, .int .i64 h.used, .int .i64 h.live, .int .i64 h.peak], .agg #[.int .i64 s.kind, .int .i64 s.n]] w (DupSaid h s ok w) := by
  have hn := hR.len_inv.1
  rw [List.length_map] at hn
  have hlen := hO.len
  have hsl : ∀ x ∈ h.cells, x.slots.length ≤ 8796093022208 := fun x hx => by have := hO.slots x hx; omega
  have hokB : ∀ (o1 o2 o3 : Obj), ∀ b, ok b → b < (((w.alloc o1).alloc o2).alloc o3).heap.size := fun _ _ _ b hb => by have := hok b hb; simp; omega
  have HN := Lib.hid hn
  have HO := Lib.hid hO
  clear hn hO
  go_enter Try.func19, Try.ntmps19
  go_wp2_with fail
  refine (heap_Own' h.cells h.made h.used h.live h.peak ok a n c _ HN.out (by have := HN.out; omega) hsl (hokB _ _ _) (((hR.alloc _ hok).alloc _ (fun b hb => by have := hok b hb; simp; omega)).alloc _ (fun b hb => by have := hok b hb; simp; omega))).mono ?_
  rintro e w1 ⟨a', c', rfl, hA, hb1⟩
  have hS := (Blk.under ((Blk.new' (w.alloc _) 24 #[.int .i64 s.kind, .int .i64 s.n] (w.heap.size + 1) (by simp)).alloc _) hb1 (by simp)).cell
  have hQ := Blk.under (Blk.new' ((w.alloc _).alloc _) 28 #[.slice none 0 0, .int .i64 0, .int .i64 0, .int .i64 0, .int .i64 0] (w.heap.size + 1 + 1) (by simp)) hb1 (by simp)
  have hbw : Below w.heap.size w w1 := ((((Below.refl _ w).alloc (Nat.le_refl _) _).alloc (by simp) _).alloc (by simp; omega) _).trans (hb1.mono (by simp; omega))
  have hsz : w.heap.size + 3 ≤ w1.heap.size := by have := hb1.size; simp at this; omega
  have hA1 : Arr w1 (w.heap.size + 3) 51 3 (okU ok (w.heap.size + 3) w1) (.slice a' n c') (h.cells.map Cll.row) := by simpa using hA
  have hok1 : ∀ b, okU ok (w.heap.size + 3) w1 b → b < w1.heap.size := fun b hb => by rcases hb with hb | hb <;> first | omega | (have := hok b hb; omega)
  have hsa : ∀ (o : Obj) (i : Nat), (w1.alloc o).cell? ⟨w.heap.size + 1, i, none⟩ = #[.int .i64 s.kind, .int .i64 s.n][i]? := fun o i => (World.cell?_alloc_lt w1 o ⟨w.heap.size + 1, i, none⟩ (by dsimp only; omega)).trans (hS i)
  have HB : HpBox (w1.alloc (.cells #[.slice a' n c', .int .i64 h.made, .int .i64 h.used, .int .i64 h.live, .int .i64 h.peak] 28)) w1.heap.size (w.heap.size + 3) (okU ok (w.heap.size + 3) w1) a' n c' h := ⟨Blk.new _ _ _, hA1.alloc _ hok1⟩
  clear hA hb1 hS
  go_wp2_with fail
  refine (heap_dup h s M (okU ok (w.heap.size + 3) w1) w1.heap.size (w.heap.size + 3) a' n c' _ (by omega) HO.out (fun b hb => ⟨by have := hok1 b hb; simp; omega, by have := hok1 b hb; omega⟩) (fun g hg => by have := hA1.own g (by rw [hg]; rfl); omega) HB).mono ?_
  rintro e w2 ⟨rfl, hg2, hB2⟩
  have hown2 : (Value.slice a' n c').ownBlock ≠ some (w.heap.size + 1 + 1) := fun e => by have := (hA1.own _ e).1; omega
  have hQ2 := (hQ.alloc (.cells #[.slice a' n c', .int .i64 h.made, .int .i64 h.used, .int .i64 h.live, .int .i64 h.peak] 28)).grown hg2 hown2.symm
  have hb2 : Below w.heap.size w w2 := (hbw.alloc hbw.size _).grown hg2 (by simp; omega) (fun k hk => by have := (hA1.own _ hk).1; omega)
  have hsz2 : w1.heap.size < w2.heap.size := by have := hg2.size; simp at this; omega
  have hc2 := hQ2.cell
  have hf2 := hQ2.frozen
  clear hg2 hQ hown2
  by_cases hz : (h.dup s).2 = 0
  · have hz' : ((h.dup s).2 == 0) = true := by simpa using hz
    have HB2 := hB2 hz
    have hc3 := HB2.1.cell
    have HZ := Lib.hid hz
    clear hz hB2 HB
    go_wp2_with fail
    refine bodyPost_ret (v := .tuple #[.agg #[.slice a' n c', .int .i64 (h.dup s).1.made, .int .i64 (h.dup s).1.used, .int .i64 (h.dup s).1.live, .int .i64 (h.dup s).1.peak], .int .i64 0]) (by simp [results, Try.results19, go_sem, hc2]) rfl ?_
    clear hc2 hf2 hc3
    refine ⟨_, by rw [HZ.out], ⟨a', n, c', rfl, ?_⟩, ?_⟩
    · refine Rep.weak (ok := fun b => ok b ∨ (w.heap.size + 3 ≤ b ∧ b < w2.heap.size)) ?_ (fun b hb => hb.imp id fun h => ⟨by omega, by simpa using h.2⟩)
      iterate 5 refine Rep.setCell ?_ _ (fun b hb => by rcases hb with hb | hb <;> dsimp only <;> first | omega | (have := hok b hb; omega))
      exact HB2.rep (fun b h1 h2 => .inr ⟨h1, h2⟩) (fun b hb => hb.imp id fun h => ⟨h.1, by have := h.2; omega⟩)
    · exact (((((hb2.setCell (by simp; omega) _).setCell (by simp; omega) _).setCell (by simp; omega) _).setCell (by simp; omega) _).setCell (by simp; omega) _)
  · have hz' : ((h.dup s).2 == 0) = false := by simpa using hz
    have HE := Hp.dup_bad hz
    have HE' := Lib.hid HE
    clear HE hz hB2 HB
    go_wp2_with fail
    refine bodyPost_ret (v := .tuple #[.agg #[.slice none 0 0, .int .i64 0, .int .i64 0, .int .i64 0, .int .i64 0], .int .i64 14]) (by simp [results, Try.results19, go_sem, hc2]) rfl ?_
    refine ⟨_, by rw [HE'.out], by rw [HE'.out]; exact HpRet.zero, ?_⟩
    exact (((((hb2.setCell (by simp; omega) _).setCell (by simp; omega) _).setCell (by simp; omega) _).setCell (by simp; omega) _).setCell (by simp; omega) _)
end Go.Proofs.Ytcakhebnebcpcaa
