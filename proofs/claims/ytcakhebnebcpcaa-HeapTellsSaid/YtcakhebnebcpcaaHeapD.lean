/- xcref10.Own; cells of a heap that a call has built; heap.cell, heap.kept, xcref10.kept. -/
import Derived.Test.YtcakhebnebcpcaaHeapC
import Derived.Deep.RegionHeld3
import Derived.Deep.RegionLaw
import Derived.BigRegion
namespace Go.Proofs.Ytcakhebnebcpcaa
open Go.RowKit
set_option linter.unusedVariables false

section
variable {w : World} {ok : Nat → Prop} {base : Nat} {e : TypeId} {l ys zs : List Cll} {x : Cll} {a : Option Addr} {n c : Nat}

theorem Arr.cll (h : Arr w base e 3 ok (.slice a n c) (l.map Cll.row)) (hl : l = ys ++ x :: zs) :
    ∃ (g : Nat) (sa : Option Addr) (sc : Nat), a = some ⟨g, 0, none⟩ ∧ base ≤ g ∧ g < w.heap.size ∧ w.cell? ⟨g, ys.length * 3, none⟩ = some (.int .i64 x.count) ∧ w.cell? ⟨g, ys.length * 3 + 1, none⟩ = some (.int .i64 x.tag) ∧
      w.cell? ⟨g, ys.length * 3 + 2, none⟩ = some (.slice sa x.slots.length sc) ∧ (∀ o, w.frozen? ⟨g, o, none⟩ = false) ∧ Rep w (fun b => ok b ∧ b ≠ g) (.sl (x.slots.map Slt.row)) (.slice sa x.slots.length sc) ∧
      (-9223372036854775808 ≤ x.count ∧ x.count ≤ 9223372036854775807) ∧ (-9223372036854775808 ≤ x.tag ∧ x.tag ≤ 9223372036854775807) := by
  have hx : (l.map Cll.row)[ys.length]? = some x.row := by rw [hl]; simp
  obtain ⟨g, c', u0, hv, hb, hg, c0, hf, r0⟩ := h.get hx (show x.row[0]? = _ from rfl)
  obtain ⟨g1, c1', u1, hv1, _, _, c1, _, r1⟩ := h.get hx (show x.row[1]? = _ from rfl)
  obtain ⟨g2, c2', u2, hv2, _, _, c2, _, r2⟩ := h.get hx (show x.row[2]? = _ from rfl)
  simp only [Value.slice.injEq] at hv hv1 hv2
  obtain ⟨rfl, rfl, rfl⟩ := hv
  obtain ⟨e1, _, _⟩ := hv1
  obtain ⟨e2, _, _⟩ := hv2
  simp only [Option.some.injEq, Addr.mk.injEq, and_true] at e1 e2
  subst e1 e2
  obtain ⟨rfl, l0⟩ := r0.int_inv
  obtain ⟨rfl, l1⟩ := r1.int_inv
  obtain ⟨sa, sc, rfl, _⟩ := r2.sl_inv
  rw [List.length_map] at c2 r2
  exact ⟨g, sa, sc, rfl, hb, hg, c0, c1, c2, hf, r2, l0, l1⟩

theorem set_mid {α : Type} (ys zs : List α) (x y : α) : (ys ++ x :: zs).set ys.length y = ys ++ y :: zs := by simp

theorem Arr.cll_count {g : Nat} (h : Arr w base e 3 ok (.slice (some ⟨g, 0, none⟩) n c) ((ys ++ x :: zs).map Cll.row)) (k : Int) (h1 : -9223372036854775808 ≤ k) (h2 : k ≤ 9223372036854775807) :
    Arr (w.setCell ⟨g, ys.length * 3, none⟩ (.int .i64 k)) base e 3 ok (.slice (some ⟨g, 0, none⟩) n c) ((ys ++ { x with count := k } :: zs).map Cll.row) := by
  have := h.setF (i := ys.length) (j := 0) (g := g) (r := x.row) (d := .int k) rfl (by simp) (by omega) (.int k h1 h2)
  simpa [Cll.row] using this

theorem Arr.cll_tag {g : Nat} (h : Arr w base e 3 ok (.slice (some ⟨g, 0, none⟩) n c) ((ys ++ x :: zs).map Cll.row)) (k : Int) (h1 : -9223372036854775808 ≤ k) (h2 : k ≤ 9223372036854775807) :
    Arr (w.setCell ⟨g, ys.length * 3 + 1, none⟩ (.int .i64 k)) base e 3 ok (.slice (some ⟨g, 0, none⟩) n c) ((ys ++ { x with tag := k } :: zs).map Cll.row) := by
  have := h.setF (i := ys.length) (j := 1) (g := g) (r := x.row) (d := .int k) rfl (by simp) (by omega) (.int k h1 h2)
  simpa [Cll.row] using this

theorem Arr.cll_slots {g : Nat} (h : Arr w base e 3 ok (.slice (some ⟨g, 0, none⟩) n c) ((ys ++ x :: zs).map Cll.row)) (s : List Slt) (v : Value) (hv : Rep w (fun b => ok b ∧ b ≠ g) (.sl (s.map Slt.row)) v) :
    Arr (w.setCell ⟨g, ys.length * 3 + 2, none⟩ v) base e 3 ok (.slice (some ⟨g, 0, none⟩) n c) ((ys ++ { x with slots := s } :: zs).map Cll.row) := by
  have := h.setF (i := ys.length) (j := 2) (g := g) (r := x.row) (d := .sl (s.map Slt.row)) rfl (by simp) (by omega) hv
  simpa [Cll.row] using this
end
/-- heap.Own, as both are used. -/
theorem heap_Own' (l : List Cll) (made used live peak : Int) (ok : Nat → Prop) (a : Option Addr) (n c : Nat) (w : World) (hn : n = l.length) (hbig : n ≤ 1000000) (hs : ∀ x ∈ l, x.slots.length ≤ 8796093022208) (hok : ∀ b, ok b → b < w.heap.size) (hR : Rep w ok (.sl (l.map Cll.row)) (.slice a n c)) :
    Calls Try.prog 10 #[.agg #[.slice a n c, .int .i64 made, .int .i64 used, .int .i64 live, .int .i64 peak]] w fun e w' => ∃ a' c', e = .returned (.agg #[.slice a' n c', .int .i64 made, .int .i64 used, .int .i64 live, .int .i64 peak]) ∧
      Arr w' w.heap.size 51 3 (okU ok w.heap.size w') (.slice a' n c') (l.map Cll.row) ∧ Below w.heap.size w w' :=
  (heap_Own l made used live peak ok a n c w hn hbig hs hok hR).mono fun e w' ⟨v, he, hA, hb⟩ => by
    obtain ⟨a', c', rfl⟩ := hA.shape
    rw [List.length_map, ← hn] at he hA
    exact ⟨a', c', he, hA.weak fun b hb => .inr hb, hb⟩

theorem ref_Own_step {w wr w2 : World} {ok : Nat → Prop} {l ys zs : List Cll} {x : Cll} {g n c1 c5 : Nat} {a5 : Option Addr} {hd : Array Value} {hz : Array Value} (HL : Hid (l = ys ++ x :: zs)) (hok : ∀ b, ok b → b < w.heap.size)
    (HA : Hid (Arr wr (w.heap.size + 2) 51 3 (okU ok (w.heap.size + 2) wr) (.slice (some ⟨g, 0, none⟩) n c1) ((ys ++ x :: zs).map Cll.row))) (hwb : w.heap.size + 2 ≤ wr.heap.size) (hb : Below w.heap.size w wr) (hgb : w.heap.size + 2 ≤ g) (hgs : g < wr.heap.size)
    (hB0 : Blk wr w.heap.size 28 hd) (hB1 : Blk wr (w.heap.size + 1) 28 hz)
    (hA2 : Arr w2 (w.heap.size + 2) 24 2 (fun _ => False) (.slice a5 x.slots.length c5) (x.slots.map Slt.row)) (hgrow : (wr.alloc (.cells #[] 24)).drew.grownBy w2 (Value.slice (some ⟨wr.heap.size, 0, none⟩) 0 0).ownBlock)
    (hat : (Value.slice a5 x.slots.length c5).ownBlock = (Value.slice (some ⟨wr.heap.size, 0, none⟩) 0 0).ownBlock ∨ (Value.slice a5 x.slots.length c5).ownBlock = some (wr.heap.size + 1)) :
    Arr (w2.setCell ⟨g, ys.length * 3 + 2, none⟩ (.slice a5 x.slots.length c5)) (w.heap.size + 2) 51 3 (okU ok (w.heap.size + 2) (w2.setCell ⟨g, ys.length * 3 + 2, none⟩ (.slice a5 x.slots.length c5))) (.slice (some ⟨g, 0, none⟩) n c1) (l.map Cll.row) ∧
      Below w.heap.size w (w2.setCell ⟨g, ys.length * 3 + 2, none⟩ (.slice a5 x.slots.length c5)) ∧ Blk (w2.setCell ⟨g, ys.length * 3 + 2, none⟩ (.slice a5 x.slots.length c5)) w.heap.size 28 hd ∧
      Blk (w2.setCell ⟨g, ys.length * 3 + 2, none⟩ (.slice a5 x.slots.length c5)) (w.heap.size + 1) 28 hz := by
  have hs2 : wr.heap.size + 1 ≤ w2.heap.size := by have := hgrow.size; simpa using this
  have hb2 : Below wr.heap.size wr w2 := ((((Below.refl _ _).alloc (Nat.le_refl _) _).drew).grown hgrow (by simp) (by simp [Value.ownBlock]))
  have hA3 := HA.out.under hb2 (Nat.le_refl _) (fun b hb => by rcases hb with hb | hb <;> first | omega | (have := hok b hb; omega))
  have hA4 : Arr w2 (w.heap.size + 2) 51 3 (okU ok (w.heap.size + 2) w2) (.slice (some ⟨g, 0, none⟩) n c1) ((ys ++ x :: zs).map Cll.row) := hA3.weak fun b hb => hb.imp id fun h => ⟨h.1, by omega⟩
  have hr : Rep w2 (fun b => wr.heap.size ≤ b ∧ b < w2.heap.size) (.sl (x.slots.map Slt.row)) (.slice a5 x.slots.length c5) := by
    obtain ⟨xs, h1, h2, h3⟩ := hA2
    have : Arr w2 wr.heap.size 24 2 (fun _ => False) (.slice a5 x.slots.length c5) (x.slots.map Slt.row) := by
      refine ⟨xs, ⟨h1.1, ?_⟩, h2, h3⟩
      rcases h1.2 with hn | ⟨g', cap, cur, hv, hg', rest⟩
      · exact .inl hn
      · refine .inr ⟨g', cap, cur, hv, ?_, rest⟩
        rw [hv] at hat
        simp [Value.ownBlock] at hat
        omega
    exact this.rep (fun b h1 h2 => ⟨h1, h2⟩) (fun b h => h.elim)
  have h5 := hA4.cll_slots x.slots (.slice a5 x.slots.length c5) (hr.weak fun b hb => ⟨.inr ⟨by omega, hb.2⟩, by omega⟩)
  refine ⟨?_, ?_, ?_, ?_⟩
  · rw [HL.out]
    exact h5.weak fun b hb => hb.imp id fun h => by simpa using h
  · exact (hb.trans (hb2.mono (by omega))).setCell (by dsimp only; omega) _
  · exact (hB0.under hb2 (by omega)).far (by dsimp only; omega) _
  · exact (hB1.under hb2 (by omega)).far (by dsimp only; omega) _

set_option maxHeartbeats 2000000 in
theorem ref_Own (l : List Cll) (made used live peak : Int) (ok : Nat → Prop) (a : Option Addr) (n c : Nat) (w : World) (hn : n = l.length) (hbig : n ≤ 1000000) (hs : ∀ x ∈ l, x.slots.length ≤ 8796093022208) (hok : ∀ b, ok b → b < w.heap.size) (hR : Rep w ok (.sl (l.map Cll.row)) (.slice a n c)) :
    Calls Try.prog 36 #[.agg #[.slice a n c, .int .i64 made, .int .i64 used, .int .i64 live, .int .i64 peak]] w fun e w' => ∃ a' c', e = .returned (.agg #[.slice a' n c', .int .i64 made, .int .i64 used, .int .i64 live, .int .i64 peak]) ∧
      Arr w' w.heap.size 51 3 (okU ok w.heap.size w') (.slice a' n c') (l.map Cll.row) ∧ Below w.heap.size w w' := by
  obtain ⟨i0, hi, hz0, hz1, hz2⟩ := info_parts tInfo_Cell
  obtain ⟨j0, hj, hy0, hy1, hy2⟩ := info_parts tInfo_Slot
  have HN := Lib.hid hn
  have HS := Lib.hid hs
  clear hn hs
  go_enter Try.func36, Try.ntmps36
  go_wp2_with (at_builtin; refine wpList_arr_append _ rfl (.tmp 4) (.tmp 6) 26 rfl (w.heap.size + 2) 51 i0 _ 3 40 Try.underlying26 hi hz0 hz1 hz2 rfl (by omega) ok (.slice (some ⟨w.heap.size + 1 + 1, 0, none⟩) 0 0) [] rfl (Arr.made' _ (w.heap.size + 2) _ 3 _ _ ?c9 ?c10) a n c (l.map Cll.row) ?c1 rfl ok ?c2 ?c3 ?c4 ?c5 ?c6 ?c7 ?c8 ?_)
  case c1 => rw [HN.out]; simp
  case c2 => exact ((hR.alloc _ hok).alloc _ (fun b hb => by have := hok b hb; simp; omega)).alloc _ (fun b hb => by have := hok b hb; simp; omega)
  case c3 => intro i j r d u hr hd hu; exact hu.weak fun b hb => ⟨hb, by have := hok b hb; simp [Value.ownBlock]; omega⟩
  case c4 => exact map_row_len _ _ Cll.row_len l
  case c5 => have := HN.out; simp [maxLen]; omega
  case c6 => have := HN.out; simp; omega
  case c7 => intro b hb; have := hok b hb; simp; omega
  case c8 => simp
  case c9 => simp
  case c10 => omega
  intro v' w1 hA hg hv'
  have hb : Below (w.heap.size + 2) ((w.alloc (.cells #[.slice a n c, .int .i64 made, .int .i64 used, .int .i64 live, .int .i64 peak] 28)).alloc (.cells #[.slice none 0 0, .int .i64 0, .int .i64 0, .int .i64 0, .int .i64 0] 28)) w1 :=
    ((Below.refl _ _).alloc (by simp) _).grown hg (by simp) (by simp [Value.ownBlock])
  have hbw : Below w.heap.size w w1 := (((Below.refl _ _).alloc (Nat.le_refl _) _).alloc (by simp) _).trans (hb.mono (by omega))
  have hB0 := ((Blk.new w 28 #[.slice a n c, .int .i64 made, .int .i64 used, .int .i64 live, .int .i64 peak]).alloc (.cells #[.slice none 0 0, .int .i64 0, .int .i64 0, .int .i64 0, .int .i64 0] 28)).under hb (by omega)
  have hB1 := (Blk.new' (w.alloc (.cells #[.slice a n c, .int .i64 made, .int .i64 used, .int .i64 live, .int .i64 peak] 28)) 28 #[.slice none 0 0, .int .i64 0, .int .i64 0, .int .i64 0, .int .i64 0] (w.heap.size + 1) (by simp)).under hb (by omega)
  have hsz1 : w.heap.size + 3 ≤ w1.heap.size := by have := hg.size; simpa using this
  replace hA : Arr w1 (w.heap.size + 2) 51 3 ok v' (l.map Cll.row) := hA
  obtain ⟨a1, c1, rfl⟩ := hA.shape
  have hA' : Arr w1 (w.heap.size + 2) 51 3 (okU ok (w.heap.size + 2) w1) (.slice a1 (l.map Cll.row).length c1) (l.map Cll.row) := hA.weak fun b hb => .inl hb
  rw [List.length_map, ← HN.out] at hA'
  have hown := hA'.own
  have HA := Lib.hid hA'
  have hc0 := hB0.cell
  have hf0 := hB0.frozen
  rw [List.length_map, ← HN.out]
  clear hg hv' hb hA hA'
  have hA2 : Arr (w1.setCell ⟨w.heap.size, 0, none⟩ (.slice a1 n c1)) (w.heap.size + 2) 51 3 (okU ok (w.heap.size + 2) w1) (.slice a1 n c1) (l.map Cll.row) :=
    HA.out.setCell _ (fun e => by have := (hown _ e).1; dsimp only at this; omega) (fun b hb => by rcases hb with hb | hb <;> dsimp only <;> first | omega | (have := hok b hb; omega))
  have hA3 : Arr (w1.setCell ⟨w.heap.size, 0, none⟩ (.slice a1 n c1)) (w.heap.size + 2) 51 3 (okU ok (w.heap.size + 2) (w1.setCell ⟨w.heap.size, 0, none⟩ (.slice a1 n c1))) (.slice a1 n c1) (l.map Cll.row) := hA2.weak fun b hb => hb.imp id fun h => by simpa using h
  have hB0' : Blk (w1.setCell ⟨w.heap.size, 0, none⟩ (.slice a1 n c1)) w.heap.size 28 #[.slice a1 n c1, .int .i64 made, .int .i64 used, .int .i64 live, .int .i64 peak] := hB0.set_ 0 _
  have hB1' : Blk (w1.setCell ⟨w.heap.size, 0, none⟩ (.slice a1 n c1)) (w.heap.size + 1) 28 #[.slice none 0 0, .int .i64 0, .int .i64 0, .int .i64 0, .int .i64 0] := hB1.far (by dsimp only; omega) _
  have hbw' : Below w.heap.size w (w1.setCell ⟨w.heap.size, 0, none⟩ (.slice a1 n c1)) := hbw.setCell (Nat.le_refl _) _
  have HALL := Lib.hid (And.intro hA3 (And.intro hB0' (And.intro hB1' hbw')))
  clear hA2 hA3 hB0' hB1' hbw' hbw hB0 hB1
  go_wp2_with fail
  go_loopw [12] (fun i wr => ∃ ys zs : List Cll, Hid (l = ys ++ zs) ∧ i = .int .i64 ys.length ∧ Arr wr (w.heap.size + 2) 51 3 (okU ok (w.heap.size + 2) wr) (.slice a1 n c1) (l.map Cll.row) ∧ Below w.heap.size w wr ∧
      Blk wr w.heap.size 28 #[.slice a1 n c1, .int .i64 made, .int .i64 used, .int .i64 live, .int .i64 peak] ∧ Blk wr (w.heap.size + 1) 28 #[.slice none 0 0, .int .i64 0, .int .i64 0, .int .i64 0, .int .i64 0])
    (fun i _ => n - (intOf i).toNat)
  case atStart => obtain ⟨h1, h2, h3, h4⟩ := HALL.out; exact ⟨[], l, rfl, rfl, h1, h4, h2, h3⟩
  case round =>
    clear hc0 hf0 hown HA HALL
    obtain ⟨ys, zs, HL, rfl, hA, hb, hB0, hB1⟩ := hrel
    have hwb : w.heap.size + 2 ≤ wr.heap.size := by have := hB1.lt; omega
    have hown := hA.own
    rcases zs with _ | ⟨x, zs⟩
    · have hlen : n ≤ ys.length := by rw [HN.out, HL.out]; simp
      have hc0 := hB0.cell
      have hc1 := hB1.cell
      have hf0 := hB0.frozen
      have hf1 := hB1.frozen
      have HA := Lib.hid hA
      clear hA
      go_wp2_with fail
      refine bodyPost_ret (v := .agg #[.slice a1 n c1, .int .i64 made, .int .i64 used, .int .i64 live, .int .i64 peak]) (by simp [results, Try.results36, go_sem, hc1]) rfl ?_
      clear hc0 hc1 hf0 hf1
      refine ⟨a1, c1, rfl, ?_, ?_⟩
      · refine Arr.weak (ok := okU ok (w.heap.size + 2) wr) (Arr.base_ (base := w.heap.size + 2) ?_ (by omega)) (fun b hb => hb.imp id fun h => ⟨by omega, by simpa using h.2⟩)
        iterate 5 refine Arr.setCell ?_ _ (fun e => by have := hown _ e; dsimp only at this; omega) (fun b hb => by rcases hb with hb | hb <;> dsimp only <;> first | omega | (have := hok b hb; omega))
        exact HA.out
      · exact (((((hb.setCell (by simp) _).setCell (by simp) _).setCell (by simp) _).setCell (by simp) _).setCell (by simp) _)
    · have hlt : ys.length < n := by rw [HN.out, HL.out]; simp
      have hsx : x.slots.length ≤ 8796093022208 := HS.out x (by rw [HL.out]; simp)
      obtain ⟨g, sa, sc, rfl, hgb, hgs, c0, c1', c2, hf, hrs, r0, r1⟩ := Arr.cll hA HL.out
      have hc0 := hB0.cell 0
      have hAA := hA
      rw [HL.out] at hAA
      have HA := Lib.hid hAA
      clear hA hAA c0 c1'
      have hfa : ∀ (o : Obj) (i : Nat), (wr.alloc o).frozen? ⟨g, i, none⟩ = false := fun o i => (World.frozen?_of_block (w := wr) (a := ⟨g, i, none⟩) (Below.heap_alloc wr o g hgs)).trans (hf i)
      have hca0 : ∀ o : Obj, (wr.alloc o).cell? ⟨w.heap.size, 0, none⟩ = some (.slice (some ⟨g, 0, none⟩) n c1) := fun o => (World.cell?_alloc_lt wr o ⟨w.heap.size, 0, none⟩ (by dsimp only; omega)).trans hc0
      have hca2 : ∀ o : Obj, (wr.alloc o).cell? ⟨g, ys.length * 3 + 2, none⟩ = some (.slice sa x.slots.length sc) := fun o => (World.cell?_alloc_lt wr o ⟨g, ys.length * 3 + 2, none⟩ hgs).trans c2
      have hlt' : (ys.length : Int) < (n : Int) := by omega
      have h0' : (0 : Int) ≤ (ys.length : Int) := by omega
      go_wp2_with fail
      go_region_law
        ((refine step_arr_append _ (by rfl) (.tmp 18) (.tmp 24) 25 (by rfl) (w.heap.size + 2) 24 j0 _ 2 16 Try.underlying25 hj hy0 hy1 hy2 rfl (by omega) (fun _ => False) (.slice (some ⟨wr.heap.size, 0, none⟩) 0 0) [] (by rfl) ((Arr.made' wr (w.heap.size + 2) 24 2 _ wr.heap.size rfl hwb).drew)
            sa x.slots.length sc (x.slots.map Slt.row) (by simp) (by rfl) (fun b => okU ok (w.heap.size + 2) wr b ∧ b ≠ g) ((hrs.alloc _ (fun b hb => by rcases hb.1 with hb | hb; (have := hok b hb; omega); omega)).drew) (fun i j r d u hr hd hu => hu.flat (flat_map Slt.row Slt.flat x.slots i j r d hr hd))
            (map_row_len _ _ Slt.row_len x.slots) (by simp [maxLen]; omega) (by simp; omega) (fun b hb => hb.elim) (by simp; omega) ?_; intro v' w2 hA2 hgrow hat; obtain ⟨a5, c5, rfl⟩ := hA2.shape; have hf5 : w2.frozen? ⟨g, ys.length * 3 + 2, none⟩ = false := (hgrow.frozen_far _ (by simp; omega) (by simp [Value.ownBlock]; omega)).trans (hfa _ _); have c5' : w2.cell? ⟨g, ys.length * 3 + 2, none⟩ = some (.slice sa x.slots.length sc) := (hgrow.cell_far _ (by simp; omega) (by simp [Value.ownBlock]; omega)).trans (hca2 _); have c6' : w2.cell? ⟨w.heap.size, 0, none⟩ = some (.slice (some ⟨g, 0, none⟩) n c1) := (hgrow.cell_far _ (by simp; omega) (by simp [Value.ownBlock]; omega)).trans (hca0 _)))
      all_goals
        have hfin := ref_Own_step HL hok HA hwb hb hgb hgs hB0 hB1 (by simpa using hA2) hgrow (by simpa using hat)
        have HF := Lib.hid hfin
        clear hfin hA2 hgrow hat hf5 c5' c6' hca0 hca2 hfa hc0 c2 hf hrs hB0 hB1 hown
        go_wp2
        go_roundw
        case rel => obtain ⟨h1, h2, h3, h4⟩ := HF.out; exact ⟨ys ++ [x], zs, by rw [HL.out]; simp [Hid], by simp, h1, h2, h3, h4⟩
        case measure => simp [intOf]; omega
end Go.Proofs.Ytcakhebnebcpcaa
