/- heap.open. -/
import Derived.Test.YtcakhebnebcpcaaHeapJ
namespace Go.Proofs.Ytcakhebnebcpcaa
open Go.RowKit
set_option linter.unusedVariables false

/-- Slots are counted once more, one by one. -/
def Hp.dups (h : Hp) : List Slt → Hp × Int
  | [] => (h, 0)
  | s :: r => if (h.dup s).2 = 0 then (h.dup s).1.dups r else (Hp.zero, 14)
/-- What opens a cell. -/
def Hp.open (h : Hp) (s : Slt) (keep : Bool) : Hp × Bool × Int :=
  if h.there s = true then
    match h.at s.n with
    | some x =>
      if x.count = 1 then (if keep then h.put s.n { Cll.zero with count := -1 } else { h.put s.n Cll.zero with live := h.live - 1 }, true, 0)
      else if ((h.put s.n { x with count := x.count - 1 }).dups x.slots).2 = 0 then (((h.put s.n { x with count := x.count - 1 }).dups x.slots).1, false, 0)
      else (Hp.zero, false, 14)
    | none => (Hp.zero, false, 14)
  else (Hp.zero, false, 14)
def OpenSaid (h : Hp) (s : Slt) (keep : Bool) (ok : Nat → Prop) (w : World) (e : Ending) (w' : World) : Prop :=
  ∃ v, e = .returned (.tuple #[v, .bool (h.open s keep).2.1, .int .i64 (h.open s keep).2.2]) ∧ HpRet w w' ok v (h.open s keep).1 ∧ Below w.heap.size w w'

theorem Hp.there_some {h : Hp} {s : Slt} {x : Cll} (hk : s.kind = 2) (hx : h.at s.n = some x) (hc : 1 ≤ x.count) : h.there s = true := by
  simp [Hp.there, hk, hx]; omega
theorem Hp.there_inv {h : Hp} {s : Slt} (ht : h.there s = true) : s.kind = 2 ∧ ∃ x, h.at s.n = some x ∧ 1 ≤ x.count := by
  unfold Hp.there at ht
  rcases hx : h.at s.n with _ | x
  · simp [hx] at ht
  · rw [hx] at ht
    simp at ht
    exact ⟨ht.1, x, rfl, by omega⟩

theorem Hp.put_mem {h : Hp} {n : Int} {y z : Cll} (hz : z ∈ (h.put n y).cells) : z = y ∨ z ∈ h.cells := by
  unfold Hp.put at hz
  rcases List.mem_or_eq_of_mem_set hz with h1 | h1
  · exact .inr h1
  · exact .inl h1
theorem Hp.Ok.put {h : Hp} {M : Int} (hO : h.Ok M) (n : Int) {y : Cll} (h1 : (y.slots.length : Int) ≤ M) (h2 : -M ≤ y.count ∧ y.count ≤ M) : (h.put n y).Ok M :=
  ⟨by simpa [Hp.put] using hO.len, fun z hz => by rcases Hp.put_mem hz with rfl | hz; exact h1; exact hO.slots z hz, fun z hz => by rcases Hp.put_mem hz with rfl | hz; exact h2; exact hO.count z hz, hO.made, hO.used, hO.live, hO.peak⟩
theorem Hp.Ok.mono {h : Hp} {M M' : Int} (hO : h.Ok M) (hM : M ≤ M') : h.Ok M' :=
  ⟨by have := hO.len; omega, fun x hx => by have := hO.slots x hx; omega, fun x hx => by have := hO.count x hx; omega, by have := hO.made; omega, by have := hO.used; omega, by have := hO.live; omega, by have := hO.peak; omega⟩
theorem Hp.Ok.dup {h : Hp} {M : Int} (hO : h.Ok M) (hM : 0 ≤ M) (s : Slt) : (h.dup s).1.Ok (M + 1) := by
  have hz : Hp.zero.Ok (M + 1) := ⟨by simp [Hp.zero]; omega, by simp [Hp.zero], by simp [Hp.zero], by simp [Hp.zero]; omega, by simp [Hp.zero]; omega, by simp [Hp.zero]; omega, by simp [Hp.zero]; omega⟩
  unfold Hp.dup
  by_cases hk : s.kind = 2
  · rw [if_pos hk]
    rcases hx : h.at s.n with _ | x
    · exact hz
    · obtain ⟨_, _, ys, zs, hl, _⟩ := Hp.at_some hx
      have hm : x ∈ h.cells := by rw [hl]; simp
      by_cases hc : 1 ≤ x.count
      · simp only [hc, if_true]
        exact (hO.mono (by omega)).put _ (by have := hO.slots x hm; simp; omega) (by have := hO.count x hm; simp; omega)
      · simp only [hc, if_false]
        exact hz
  · rw [if_neg hk]
    exact hO.mono (by omega)

theorem Hp.dup_rest {h : Hp} {s : Slt} (hz : (h.dup s).2 = 0) : (h.dup s).1.made = h.made ∧ (h.dup s).1.used = h.used ∧ (h.dup s).1.live = h.live ∧ (h.dup s).1.peak = h.peak := by
  unfold Hp.dup at hz ⊢
  by_cases hk : s.kind = 2
  · rw [if_pos hk] at hz ⊢
    rcases hx : h.at s.n with _ | x
    · simp [hx] at hz
    · rw [hx] at hz
      by_cases hc : 1 ≤ x.count
      · simp [hc, Hp.put]
      · simp [hc] at hz
  · simp [hk]

set_option maxHeartbeats 4000000 in
theorem heap_open (h : Hp) (s : Slt) (keep : Bool) (M : Int) (ok : Nat → Prop) (a : Option Addr) (n c : Nat) (w : World) (hM : M ≤ 1000000) (hO : h.Ok M) (hok : ∀ b, ok b → b < w.heap.size) (hR : Rep w ok (.sl (h.cells.map Cll.row)) (.slice a n c)) :
    Calls Try.prog 37 #[.agg #[.slice a n c, .int .i64 h.made, .int .i64 h.used, .int .i64 h.live, .int .i64 h.peak], .agg #[.int .i64 s.kind, .int .i64 s.n], .bool keep] w (OpenSaid h s keep ok w) := by
  have hn := hR.len_inv.1
  rw [List.length_map] at hn
  have hlen := hO.len
  have hsl : ∀ x ∈ h.cells, x.slots.length ≤ 8796093022208 := fun x hx => by have := hO.slots x hx; omega
  have hokB : ∀ (o1 o2 o3 : Obj), ∀ b, ok b → b < (((w.alloc o1).alloc o2).alloc o3).heap.size := fun _ _ _ b hb => by have := hok b hb; simp; omega
  have HN := Lib.hid hn
  have HO := Lib.hid hO
  clear hn hO
  go_enter Try.func37, Try.ntmps37
  go_wp2_with fail
  refine (heap_Own' h.cells h.made h.used h.live h.peak ok a n c _ HN.out (by have := HN.out; omega) hsl (hokB _ _ _) (((hR.alloc _ hok).alloc _ (fun b hb => by have := hok b hb; simp; omega)).alloc _ (fun b hb => by have := hok b hb; simp; omega))).mono ?_
  rintro e w1 ⟨a', c', rfl, hA, hb1⟩
  have hSb := (Blk.under ((Blk.new' (w.alloc _) 24 #[.int .i64 s.kind, .int .i64 s.n] (w.heap.size + 1) (by simp)).alloc _) hb1 (by simp))
  have hS := hSb.cell
  have hQ := Blk.under (Blk.new' ((w.alloc _).alloc _) 28 #[.slice none 0 0, .int .i64 0, .int .i64 0, .int .i64 0, .int .i64 0] (w.heap.size + 1 + 1) (by simp)) hb1 (by simp)
  have hbw : Below w.heap.size w w1 := ((((Below.refl _ w).alloc (Nat.le_refl _) _).alloc (by simp) _).alloc (by simp; omega) _).trans (hb1.mono (by simp; omega))
  have hsz : w.heap.size + 3 ≤ w1.heap.size := by have := hb1.size; simp at this; omega
  have hA1 : Arr w1 (w.heap.size + 3) 51 3 (okU ok (w.heap.size + 3) w1) (.slice a' n c') (h.cells.map Cll.row) := by simpa using hA
  have hok1 : ∀ b, okU ok (w.heap.size + 3) w1 b → b < w1.heap.size := fun b hb => by rcases hb with hb | hb <;> first | omega | (have := hok b hb; omega)
  have hsa : ∀ (o : Obj) (i : Nat), (w1.alloc o).cell? ⟨w.heap.size + 1, i, none⟩ = #[.int .i64 s.kind, .int .i64 s.n][i]? := fun o i => (World.cell?_alloc_lt w1 o ⟨w.heap.size + 1, i, none⟩ (by dsimp only; omega)).trans (hS i)
  have HB : HpBox (w1.alloc (.cells #[.slice a' n c', .int .i64 h.made, .int .i64 h.used, .int .i64 h.live, .int .i64 h.peak] 28)) w1.heap.size (w.heap.size + 3) (okU ok (w.heap.size + 3) w1) a' n c' h := ⟨Blk.new _ _ _, hA1.alloc _ hok1⟩
  clear hA hb1 hS
  have hR1 : Rep (w1.alloc (.cells #[.slice a' n c', .int .i64 h.made, .int .i64 h.used, .int .i64 h.live, .int .i64 h.peak] 28)) (fun b => b < w1.heap.size) (.sl (h.cells.map Cll.row)) (.slice a' n c') :=
    (hA1.rep (ok' := fun b => b < w1.heap.size) (fun b _ h => h) hok1).alloc _ (fun b hb => hb)
  have hQa := hQ.alloc (.cells #[.slice a' n c', .int .i64 h.made, .int .i64 h.used, .int .i64 h.live, .int .i64 h.peak] 28)
  have hSa : Blk (w1.alloc (.cells #[.slice a' n c', .int .i64 h.made, .int .i64 h.used, .int .i64 h.live, .int .i64 h.peak] 28)) (w.heap.size + 1) 24 #[.int .i64 s.kind, .int .i64 s.n] := hSb.alloc _
  go_wp2_with fail
  by_cases hP : ∃ x, h.at s.n = some x ∧ 1 ≤ x.count
  · obtain ⟨x, hx, hxc⟩ := hP
    obtain ⟨h0, h1, ys, zs, hl, hky⟩ := Hp.at_some hx
    obtain ⟨g, sa, sc, rfl, hbg, hgs, _⟩ := Arr.cll hA1 hl
    refine (heap_cell_some h s x (fun b => b < w1.heap.size) g 0 n c' w1.heap.size _ (fun b hb => by simp; omega) (by simp) hR1 hx hxc).mono ?_
    rintro e w2 ⟨rfl, hb2⟩
    have hB2 := HB.under hb2 (Nat.le_refl _) (fun b hb => by have := hok1 b hb; simp; omega)
    have hQ2 := hQa.under hb2 (by simp; omega)
    have hS2 := (hSa.under hb2 (by simp; omega)).cell
    have hbW : Below w.heap.size w w2 := (hbw.alloc hbw.size _).trans (hb2.mono (by simp; omega))
    have hs2 : w1.heap.size < w2.heap.size := by have := hb2.size; simp at this; omega
    have hq2 := hQ2.cell
    have hqf := hQ2.frozen
    by_cases hk : s.kind = 2
    · have hk' : (s.kind != 2) = false := by simpa using hk
      have ht := Hp.there_some hk hx hxc
      have hA2 := hB2.2
      obtain ⟨g', sa', sc', hg', _, _, c0, c1, c2, hf, hrs2, _⟩ := Arr.cll hA2 hl
      simp only [Option.some.injEq, Addr.mk.injEq, and_true] at hg'
      subst hg'
      rw [hky] at c0 c1 c2
      have hc2 := hB2.1.cell
      have hf2 := hB2.1.frozen
      have hne : g ≠ w1.heap.size := by omega
      have hne' : g ≠ w.heap.size + 1 + 1 := by omega
      have hne'' : g ≠ w.heap.size + 1 := by omega
      have hlv := HO.out.live
      have hxm : x ∈ h.cells := by rw [hl]; simp
      have hct := HO.out.count x hxm
      have hslx := HO.out.slots x hxm
      have HH := Lib.hid (And.intro hl hky)
      have HB2 := Lib.hid hB2
      have HX := Lib.hid hx
      have HT := Lib.hid ht
      clear hx hl hky hA1 hA2 hB2 HB ht hR1 hb2 hk hxm
      by_cases h1c : x.count = 1
      · have hb1 : (x.count == 1) = true := by simpa using h1c
        have H1 := Lib.hid h1c
        clear h1c
        have hA3 : Hid (Arr (((w2.setCell ⟨g, s.n.toNat * 3, none⟩ (.int .i64 0)).setCell ⟨g, s.n.toNat * 3 + 1, none⟩ (.int .i64 0)).setCell ⟨g, s.n.toNat * 3 + 2, none⟩ (.slice none 0 0)) (w.heap.size + 3) 51 3 (okU ok (w.heap.size + 3) w1) (.slice (some ⟨g, 0, none⟩) n c') ((ys ++ Cll.zero :: zs).map Cll.row)) := by
          obtain ⟨hl, hky⟩ := HH.out
          have hA3 := HB2.out.2
          rw [hl] at hA3
          have hA4 := hA3.cll_put Cll.zero (.slice none 0 0) (by simp [Cll.zero]) (by simp [Cll.zero]) (.empty none 0 (fun _ => rfl) (Nat.zero_le _))
          rw [hky] at hA4
          exact hA4
        cases keep
        · have HE : Hid (h.open s false = ({ h.put s.n Cll.zero with live := h.live - 1 }, true, 0)) := by rw [Hid, Hp.open, if_pos HT.out, HX.out]; simp [H1.out]
          go_wp2_with fail
          refine bodyPost_ret (v := .tuple #[.agg #[.slice (some ⟨g, 0, none⟩) n c', .int .i64 h.made, .int .i64 h.used, .int .i64 (h.live - 1), .int .i64 h.peak], .bool true, .int .i64 0]) (by simp [results, Try.results37, go_sem, hq2]) rfl ?_
          obtain ⟨hl, hky⟩ := HH.out
          have hA4 := hA3.out
          rw [← Hp.put_split hl hky] at hA4
          have hB5 : HpBox ((((w2.setCell ⟨g, s.n.toNat * 3, none⟩ (.int .i64 0)).setCell ⟨g, s.n.toNat * 3 + 1, none⟩ (.int .i64 0)).setCell ⟨g, s.n.toNat * 3 + 2, none⟩ (.slice none 0 0)).setCell ⟨w1.heap.size, 3, none⟩ (.int .i64 (h.live - 1)))
              w1.heap.size (w.heap.size + 3) (okU ok (w.heap.size + 3) w1) (some ⟨g, 0, none⟩) n c' { h.put s.n Cll.zero with live := h.live - 1 } :=
            ⟨(((HB2.out.1.far hne.symm _).far hne.symm _).far hne.symm _).set_ 3 _, hA4.setCell _ (by simp [Value.ownBlock]; exact hne) (fun b hb => by have := hok1 b hb; dsimp only; omega)⟩
          have hfin := ret5_box (q := w.heap.size + 1 + 1) hok (by omega) (by omega) ((((hbW.setCell (by dsimp only; omega) _).setCell (by dsimp only; omega) _).setCell (by dsimp only; omega) _).setCell (by dsimp only; omega) _) hB5 (fun b hb => hb.imp id fun h => ⟨h.1, by simp; omega⟩)
            (.slice (some ⟨g, 0, none⟩) n c') (.int .i64 h.made) (.int .i64 h.used) (.int .i64 (h.live - 1)) (.int .i64 h.peak)
          exact ⟨_, by rw [HE.out], by rw [HE.out]; exact hfin.1, hfin.2⟩
        · have HE : Hid (h.open s true = (h.put s.n { Cll.zero with count := -1 }, true, 0)) := by rw [Hid, Hp.open, if_pos HT.out, HX.out]; simp [H1.out]
          go_wp2_with fail
          refine bodyPost_ret (v := .tuple #[.agg #[.slice (some ⟨g, 0, none⟩) n c', .int .i64 h.made, .int .i64 h.used, .int .i64 h.live, .int .i64 h.peak], .bool true, .int .i64 0]) (by simp [results, Try.results37, go_sem, hq2]) rfl ?_
          obtain ⟨hl, hky⟩ := HH.out
          have hA4 := hA3.out.cll_count (-1) (by omega) (by omega)
          rw [hky, ← Hp.put_split hl hky] at hA4
          have hB5 : HpBox ((((w2.setCell ⟨g, s.n.toNat * 3, none⟩ (.int .i64 0)).setCell ⟨g, s.n.toNat * 3 + 1, none⟩ (.int .i64 0)).setCell ⟨g, s.n.toNat * 3 + 2, none⟩ (.slice none 0 0)).setCell ⟨g, s.n.toNat * 3, none⟩ (.int .i64 (-1)))
              w1.heap.size (w.heap.size + 3) (okU ok (w.heap.size + 3) w1) (some ⟨g, 0, none⟩) n c' (h.put s.n { Cll.zero with count := -1 }) :=
            ⟨(((HB2.out.1.far hne.symm _).far hne.symm _).far hne.symm _).far hne.symm _, hA4⟩
          have hfin := ret5_box (q := w.heap.size + 1 + 1) hok (by omega) (by omega) ((((hbW.setCell (by dsimp only; omega) _).setCell (by dsimp only; omega) _).setCell (by dsimp only; omega) _).setCell (by dsimp only; omega) _) hB5 (fun b hb => hb.imp id fun h => ⟨h.1, by simp; omega⟩)
            (.slice (some ⟨g, 0, none⟩) n c') (.int .i64 h.made) (.int .i64 h.used) (.int .i64 h.live) (.int .i64 h.peak)
          exact ⟨_, by rw [HE.out], by rw [HE.out]; exact hfin.1, hfin.2⟩
      · have hb1 : (x.count == 1) = false := by simpa using h1c
        have H1 := Lib.hid h1c
        clear h1c
        have HX1 : Hid (x.slots.length ≤ 1000000) := by rw [Hid]; omega
        have hA3 : Hid (HpBox (w2.setCell ⟨g, s.n.toNat * 3, none⟩ (.int .i64 (x.count - 1))) w1.heap.size (w.heap.size + 3) (okU ok (w.heap.size + 3) w1) (some ⟨g, 0, none⟩) n c' (h.put s.n { x with count := x.count - 1 })) := by
          obtain ⟨hl, hky⟩ := HH.out
          have hA3 := HB2.out.2
          rw [hl] at hA3
          have hA4 := hA3.cll_count (x.count - 1) (by omega) (by omega)
          rw [hky, ← Hp.put_split hl hky] at hA4
          exact ⟨HB2.out.1.far hne.symm _, hA4⟩
        have hO3 : Hid ((h.put s.n { x with count := x.count - 1 }).Ok (M + 1)) := (HO.out.mono (by omega)).put _ (by simp; omega) (by simp; omega)
        have hrs3 : Rep (w2.setCell ⟨g, s.n.toNat * 3, none⟩ (.int .i64 (x.count - 1))) (fun b => okU ok (w.heap.size + 3) w1 b ∧ b ≠ g) (.sl (x.slots.map Slt.row)) (.slice sa' x.slots.length sc') := hrs2.setCell _ (fun b hb => hb.2)
        go_wp2_with fail
        refine (slices_Clone_Slot x.slots _ sa' _ sc' _ rfl (by have := HX1.out; omega) (fun b hb => by have := hok1 b hb.1; simp; omega) hrs3).mono ?_
        rintro e w3 ⟨sa3, sc3, rfl, hr3, hb3⟩
        have hB3 := Lib.hid (hA3.out.under hb3 (Nat.le_refl _) (fun b hb => by have := hok1 b hb; simp; omega))
        have hQ3 := (hQ2.far (p := ⟨g, s.n.toNat * 3, none⟩) hne'.symm (.int .i64 (x.count - 1))).under hb3 (by simp; omega)
        have hbW3 : Below w.heap.size w w3 := (hbW.setCell (p := ⟨g, s.n.toNat * 3, none⟩) (by dsimp only; omega) (.int .i64 (x.count - 1))).trans (hb3.mono (by simp; omega))
        have hs3 : w2.heap.size ≤ w3.heap.size := by have := hb3.size; simp at this; omega
        have hr3' : Rep w3 (fun b => w2.heap.size ≤ b ∧ b < w3.heap.size) (.sl (x.slots.map Slt.row)) (.slice sa3 x.slots.length sc3) := by simpa using hr3
        clear hr3 hb3 hrs3 hc2 hf2 hq2 hqf hS2 c0 c1 c2 hf hrs2
        go_wp2_with fail
        go_loopw [55] (fun i wr => ∃ (ps qs : List Slt) (h2 : Hp), Hid (x.slots = ps ++ qs ∧ (h.put s.n { x with count := x.count - 1 }).dups x.slots = h2.dups qs ∧ h2.made = h.made ∧ h2.used = h.used ∧ h2.live = h.live ∧ h2.peak = h.peak) ∧ i = .int .i64 ps.length ∧ HpBox wr w1.heap.size (w.heap.size + 3) (okU ok (w.heap.size + 3) w1) (some ⟨g, 0, none⟩) n c' h2 ∧
            Hid (h2.Ok (M + 1 + ps.length)) ∧ Rep wr (fun b => w2.heap.size ≤ b ∧ b < w3.heap.size) (.sl (x.slots.map Slt.row)) (.slice sa3 x.slots.length sc3) ∧ w3.heap.size ≤ wr.heap.size ∧ Below w.heap.size w wr ∧
            Blk wr (w.heap.size + 1 + 1) 28 #[.slice none 0 0, .int .i64 0, .int .i64 0, .int .i64 0, .int .i64 0])
          (fun i _ => x.slots.length - (intOf i).toNat)
        case atStart => exact ⟨[], x.slots, _, ⟨rfl, rfl, rfl, rfl, rfl, rfl⟩, rfl, hB3.out, by have := hO3.out; exact (by simpa using this : Hp.Ok (M + 1 + ((([] : List Slt).length : Nat) : Int)) _), hr3', Nat.le_refl _, hbW3, hQ3⟩
        case round =>
          obtain ⟨ps, qs, h2, HL, rfl, hBr, HOr, hRr, hsr, hbr, hQr⟩ := hrel
          have hqr := hQr.cell
          have hqfr := hQr.frozen
          rcases qs with _ | ⟨y, qs⟩
          · have hlen : x.slots.length ≤ ps.length := by rw [HL.out.1]; simp
            have hbc := hBr.1.cell
            have HBr := Lib.hid hBr
            have HE : Hid (h.open s keep = (h2, false, 0)) := by
              rw [Hid, Hp.open, if_pos HT.out, HX.out]
              simp only [H1.out, if_false, HL.out.2.1]
              simp [Hp.dups]
            clear hBr
            go_wp2_with fail
            refine bodyPost_ret (v := .tuple #[.agg #[.slice (some ⟨g, 0, none⟩) n c', .int .i64 h2.made, .int .i64 h2.used, .int .i64 h2.live, .int .i64 h2.peak], .bool false, .int .i64 0]) (by simp [results, Try.results37, go_sem, hqr]) rfl ?_
            have hfin := ret5_box (q := w.heap.size + 1 + 1) hok (by omega) (by omega) hbr HBr.out (fun b hb => hb.imp id fun h => ⟨h.1, by omega⟩)
              (.slice (some ⟨g, 0, none⟩) n c') (.int .i64 h2.made) (.int .i64 h2.used) (.int .i64 h2.live) (.int .i64 h2.peak)
            exact ⟨_, by rw [HE.out], by rw [HE.out]; exact hfin.1, hfin.2⟩
          · have hlt : ps.length < x.slots.length := by rw [HL.out.1]; simp
            obtain ⟨b1, o1, rfl, hob, d0, d1, rr0, rr1⟩ := Slt.at_ hRr HL.out.1
            have HBr := Lib.hid hBr
            have hokr : ∀ b, okU ok (w.heap.size + 3) w1 b → b < wr.heap.size := fun b hb => by have := hok1 b hb; omega
            have hM2 : M + 1 + ps.length ≤ 1000000000000 := by have := HX1.out; omega
            clear hBr
            go_wp2_with fail
            refine (heap_dup h2 y (M + 1 + ps.length) (okU ok (w.heap.size + 3) w1) w1.heap.size (w.heap.size + 3) (some ⟨g, 0, none⟩) n c' _ hM2 HOr.out (fun b hb => ⟨by have := hokr b hb; simp; omega, by have := hok1 b hb; omega⟩) (fun g' hg' => by simp only [Option.some.injEq, Addr.mk.injEq, and_true] at hg'; omega) (HBr.out.alloc _ hokr)).mono ?_
            rintro e w4 ⟨rfl, hg4, hB4⟩
            have hs4 : wr.heap.size < w4.heap.size := by have := hg4.size; simp at this; omega
            have hown : (Value.slice (some ⟨g, 0, none⟩) n c').ownBlock = some g := rfl
            have hQ4 := (hQr.alloc (.cells #[.int .i64 y.kind, .int .i64 y.n] 24)).grown hg4 (by rw [hown]; simp; omega)
            have hb4 : Below w.heap.size w w4 := (hbr.alloc hbr.size _).grown hg4 (by simp; have := hbr.size; omega) (fun k hk => by rw [hown] at hk; simp at hk; omega)
            have hR4 : Rep w4 (fun b => w2.heap.size ≤ b ∧ b < w3.heap.size) (.sl (x.slots.map Slt.row)) (.slice (some ⟨b1, o1, none⟩) x.slots.length sc3) :=
              (hRr.alloc _ (fun b hb => by omega)).keep fun q hq => World.cell?_of_block (hg4.block q.block (by simp; omega) (by rw [hown]; simp; omega))
            have hq4 := hQ4.cell
            have hqf4 := hQ4.frozen
            clear hqr hqfr d0 d1 hg4
            by_cases hz : (h2.dup y).2 = 0
            · have hz' : ((h2.dup y).2 == 0) = true := by simpa using hz
              have HB4 := Lib.hid (hB4 hz)
              have HL4 : Hid (x.slots = (ps ++ [y]) ++ qs ∧ (h.put s.n { x with count := x.count - 1 }).dups x.slots = (h2.dup y).1.dups qs ∧ (h2.dup y).1.made = h.made ∧ (h2.dup y).1.used = h.used ∧ (h2.dup y).1.live = h.live ∧ (h2.dup y).1.peak = h.peak) := by
                obtain ⟨l1, l2, l3, l4, l5, l6⟩ := HL.out
                refine ⟨by rw [l1]; simp, by rw [l2, Hp.dups, if_pos hz], ?_, ?_, ?_, ?_⟩
                · rw [(Hp.dup_rest hz).1, l3]
                · rw [(Hp.dup_rest hz).2.1, l4]
                · rw [(Hp.dup_rest hz).2.2.1, l5]
                · rw [(Hp.dup_rest hz).2.2.2, l6]
              have HO4 : Hid ((h2.dup y).1.Ok (M + 1 + ((ps ++ [y]).length : Nat))) := by
                have := HOr.out.dup (by omega) y
                rw [Hid]
                refine this.mono ?_
                simp
                omega
              clear hz hB4
              go_wp2_with fail
              go_roundw
              case rel => exact ⟨ps ++ [y], qs, (h2.dup y).1, HL4, by simp, HB4.out, HO4, hR4, by omega, hb4, hQ4⟩
              case measure => simp [intOf]; omega
            · have hz' : ((h2.dup y).2 == 0) = false := by simpa using hz
              have HE : Hid (h.open s keep = (Hp.zero, false, 14)) := by
                rw [Hid, Hp.open, if_pos HT.out, HX.out]
                simp only [H1.out, if_false, HL.out.2.1, Hp.dups, if_neg hz]
                simp
              clear hz hB4
              go_wp2_with fail
              refine bodyPost_ret (v := .tuple #[.agg #[.slice none 0 0, .int .i64 0, .int .i64 0, .int .i64 0, .int .i64 0], .bool false, .int .i64 14]) (by simp [results, Try.results37, go_sem, hq4]) rfl ?_
              refine ⟨_, by rw [HE.out], by rw [HE.out]; exact HpRet.zero, ?_⟩
              exact (((((hb4.setCell (by simp; omega) _).setCell (by simp; omega) _).setCell (by simp; omega) _).setCell (by simp; omega) _).setCell (by simp; omega) _)
    · have hk' : (s.kind != 2) = true := by simpa using hk
      have HE : Hid (h.open s keep = (Hp.zero, false, 14)) := by rw [Hid, Hp.open, if_neg (fun ht => hk (Hp.there_inv ht).1)]
      clear hk hx hl hky hB2 HB hR1 hb2
      go_wp2_with fail
      refine bodyPost_ret (v := .tuple #[.agg #[.slice none 0 0, .int .i64 0, .int .i64 0, .int .i64 0, .int .i64 0], .bool false, .int .i64 14]) (by simp [results, Try.results37, go_sem, hq2]) rfl ?_
      refine ⟨_, by rw [HE.out], by rw [HE.out]; exact HpRet.zero, ?_⟩
      exact (((((hbW.setCell (by simp; omega) _).setCell (by simp; omega) _).setCell (by simp; omega) _).setCell (by simp; omega) _).setCell (by simp; omega) _)
  · refine (heap_cell_none h s (fun b => b < w1.heap.size) a' n c' w1.heap.size _ (fun b hb => by simp; omega) (by simp) hR1 (fun x hx => by have : ¬ 1 ≤ x.count := fun hc => hP ⟨x, hx, hc⟩; omega)).mono ?_
    rintro e w2 ⟨rfl, hb2⟩
    have hQ2 := hQa.under hb2 (by simp; omega)
    have hS2 := (hSa.under hb2 (by simp; omega)).cell
    have hbW : Below w.heap.size w w2 := (hbw.alloc hbw.size _).trans (hb2.mono (by simp; omega))
    have hs2 : w1.heap.size < w2.heap.size := by have := hb2.size; simp at this; omega
    have hq2 := hQ2.cell
    have hqf := hQ2.frozen
    have HE : Hid (h.open s keep = (Hp.zero, false, 14)) := by rw [Hid, Hp.open, if_neg (fun ht => hP (Hp.there_inv ht).2)]
    clear hP HB hR1 hb2
    by_cases hk : s.kind = 2
    · have hk' : (s.kind != 2) = false := by simpa using hk
      clear hk
      go_wp2_with fail
      refine bodyPost_ret (v := .tuple #[.agg #[.slice none 0 0, .int .i64 0, .int .i64 0, .int .i64 0, .int .i64 0], .bool false, .int .i64 14]) (by simp [results, Try.results37, go_sem, hq2]) rfl ?_
      refine ⟨_, by rw [HE.out], by rw [HE.out]; exact HpRet.zero, ?_⟩
      exact (((((hbW.setCell (by simp; omega) _).setCell (by simp; omega) _).setCell (by simp; omega) _).setCell (by simp; omega) _).setCell (by simp; omega) _)
    · have hk' : (s.kind != 2) = true := by simpa using hk
      clear hk
      go_wp2_with fail
      refine bodyPost_ret (v := .tuple #[.agg #[.slice none 0 0, .int .i64 0, .int .i64 0, .int .i64 0, .int .i64 0], .bool false, .int .i64 14]) (by simp [results, Try.results37, go_sem, hq2]) rfl ?_
      refine ⟨_, by rw [HE.out], by rw [HE.out]; exact HpRet.zero, ?_⟩
      exact (((((hbW.setCell (by simp; omega) _).setCell (by simp; omega) _).setCell (by simp; omega) _).setCell (by simp; omega) _).setCell (by simp; omega) _)
end Go.Proofs.Ytcakhebnebcpcaa
