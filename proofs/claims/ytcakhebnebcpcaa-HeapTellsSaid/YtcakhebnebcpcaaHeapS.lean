/- xcref10.Use. -/
import Derived.Test.YtcakhebnebcpcaaHeapR
namespace Go.Proofs.Ytcakhebnebcpcaa
open Go.RowKit
set_option linter.unusedVariables false

set_option maxHeartbeats 1000000 in
theorem ref_Use (h : Hp) (s : Slt) (tag : Int) (l : List Slt) (M : Int) (ok : Nat → Prop) (a : Option Addr) (n c : Nat) (la : Option Addr) (ln lc : Nat) (w : World) (hM : M ≤ 1000000) (hO : h.Ok M) (ht : -9223372036854775808 ≤ tag ∧ tag ≤ 9223372036854775807) (hl : ln = l.length) (hlb : ln ≤ 8796093022208)
    (hok : ∀ b, ok b → b < w.heap.size) (hR : Rep w ok (.sl (h.cells.map Cll.row)) (.slice a n c)) (hL : Rep w ok (.sl (l.map Slt.row)) (.slice la ln lc)) :
    Calls Try.prog 18 #[.agg #[.slice a n c, .int .i64 h.made, .int .i64 h.used, .int .i64 h.live, .int .i64 h.peak], .agg #[.int .i64 s.kind, .int .i64 s.n], .int .i64 tag, .slice la ln lc] w (UseSaid h s tag l ok w) := by
  have hn := hR.len_inv.1
  rw [List.length_map] at hn
  have hlen := hO.len
  have hsl : ∀ x ∈ h.cells, x.slots.length ≤ 8796093022208 := fun x hx => by have := hO.slots x hx; omega
  have hus := hO.used
  have HN := Lib.hid hn
  have HO := Lib.hid hO
  have HLn := Lib.hid hl
  clear hn hO hl
  have hR4 : ∀ o1 o2 o3 o4 : Obj, Rep ((((w.alloc o1).alloc o2).alloc o3).alloc o4) ok (.sl (h.cells.map Cll.row)) (.slice a n c) := fun _ _ _ _ => (((hR.alloc _ hok).alloc _ (fun b hb => by have := hok b hb; simp; omega)).alloc _ (fun b hb => by have := hok b hb; simp; omega)).alloc _ (fun b hb => by have := hok b hb; simp; omega)
  have hL4 : ∀ o1 o2 o3 o4 : Obj, Rep ((((w.alloc o1).alloc o2).alloc o3).alloc o4) ok (.sl (l.map Slt.row)) (.slice la ln lc) := fun _ _ _ _ => (((hL.alloc _ hok).alloc _ (fun b hb => by have := hok b hb; simp; omega)).alloc _ (fun b hb => by have := hok b hb; simp; omega)).alloc _ (fun b hb => by have := hok b hb; simp; omega)
  have hok4 : ∀ o1 o2 o3 o4 : Obj, ∀ b, ok b → b < ((((w.alloc o1).alloc o2).alloc o3).alloc o4).heap.size := fun _ _ _ _ b hb => by have := hok b hb; simp; omega
  by_cases hk : s.kind = 2
  · have hk' : (s.kind != 2) = false := by simpa using hk
    have HK := Lib.hid hk
    clear hk
    go_enter Try.func18, Try.ntmps18
    go_wp2_with fail
    refine (ref_kept h s ok a n c _ (hok4 _ _ _ _) (hR4 _ _ _ _)).mono ?_
    rintro e w0 ⟨rfl, hb0⟩
    have hH0 := Blk.under ((((Blk.new w 28 #[.slice a n c, .int .i64 h.made, .int .i64 h.used, .int .i64 h.live, .int .i64 h.peak]).alloc _).alloc _).alloc _) hb0 (by simp; omega)
    have hS0 := Blk.under (((Blk.new' (w.alloc _) 24 #[.int .i64 s.kind, .int .i64 s.n] (w.heap.size + 1) (by simp)).alloc _).alloc _) hb0 (by first | (simp; done) | (simp; omega))
    have hQ0 := Blk.under ((Blk.new' ((w.alloc _).alloc _) 28 #[.slice none 0 0, .int .i64 0, .int .i64 0, .int .i64 0, .int .i64 0] (w.heap.size + 1 + 1) (by simp)).alloc _) hb0 (by simp)
    have hZ0 := Blk.under (Blk.new' (((w.alloc _).alloc _).alloc _) 24 #[.int .i64 0, .int .i64 0] (w.heap.size + 1 + 1 + 1) (by simp)) hb0 (by simp)
    have hbw0 : Below w.heap.size w w0 := (((((Below.refl _ w).alloc (Nat.le_refl _) _).alloc (by simp) _).alloc (by simp; omega) _).alloc (by simp; omega) _).trans (hb0.mono (by simp; omega))
    have hsz0 : w.heap.size + 4 ≤ w0.heap.size := by have := hb0.size; simp at this; omega
    have hR0 := hR.under hbw0 hok
    have hL0 := hL.under hbw0 hok
    clear hb0
    by_cases hkp : h.kept s = true
    · obtain ⟨x, hx, hxc⟩ := Hp.kept_some hkp
      obtain ⟨h0, h1, ys, zs, hl, hky⟩ := Hp.at_some hx
      have HE : Hid (h.use s tag l = ({ h.put s.n ⟨1, tag, l⟩ with used := h.used + 1 }, s, 0)) := by rw [Hid, Hp.use, if_pos HK.out, if_pos hkp]
      have HKP := Lib.hid hkp
      have HH := Lib.hid (And.intro hl hky)
      obtain ⟨j0, hj, hy0, hy1, hy2⟩ := info_parts tInfo_Slot
      rw [← HN.out] at h1
      have hh0 := hH0.cell
      clear hx hxc hl hky
      go_wp2_with fail
      refine (ref_Own h.cells h.made h.used h.live h.peak ok a n c _ HN.out (by have := HN.out; omega) hsl (fun b hb => by have := hok b hb; omega) hR0).mono ?_
      rintro e w1 ⟨a', c', rfl, hA1, hb1⟩
      have hH := hH0.under hb1 (by omega)
      have hS := hS0.under hb1 (by omega)
      have hQ := hQ0.under hb1 (by omega)
      have hZ := hZ0.under hb1 (by omega)
      have hbw : Below w.heap.size w w1 := hbw0.trans (hb1.mono (by omega))
      have hsz : w0.heap.size ≤ w1.heap.size := hb1.size
      have hok1 : ∀ b, okU ok w0.heap.size w1 b → b < w1.heap.size ∧ b ≠ w.heap.size ∧ b ≠ w.heap.size + 1 ∧ b ≠ w.heap.size + 1 + 1 := fun b hb => by rcases hb with hb | hb <;> first | omega | (have := hok b hb; omega)
      have hown := hA1.own
      have hhc := hH.cell
      have hhf := hH.frozen
      obtain ⟨W, hW⟩ : ∃ W, W = (((((w1.setCell ⟨w.heap.size, 0, none⟩ (.slice a' n c')).setCell ⟨w.heap.size, 1, none⟩ (.int .i64 h.made)).setCell ⟨w.heap.size, 2, none⟩ (.int .i64 h.used)).setCell ⟨w.heap.size, 3, none⟩ (.int .i64 h.live)).setCell ⟨w.heap.size, 4, none⟩ (.int .i64 h.peak)) := ⟨_, rfl⟩
      have hWA : Arr W w0.heap.size 51 3 (okU ok w0.heap.size w1) (.slice a' n c') (h.cells.map Cll.row) := by
        rw [hW]
        iterate 5 refine Arr.setCell ?_ _ (fun e => by have := (hown _ e).1; dsimp only at this; omega) (fun b hb => by have := hok1 b hb; dsimp only; omega)
        exact hA1
      have hWP : Blk W w.heap.size 28 #[.slice a' n c', .int .i64 h.made, .int .i64 h.used, .int .i64 h.live, .int .i64 h.peak] := by
        rw [hW]
        exact ((((hH.set_ 0 _).set_ 1 _).set_ 2 _).set_ 3 _).set_ 4 _
      have hWS : Blk W (w.heap.size + 1) 24 #[.int .i64 s.kind, .int .i64 s.n] := by
        rw [hW]
        exact ((((hS.far (by dsimp only; omega) _).far (by dsimp only; omega) _).far (by dsimp only; omega) _).far (by dsimp only; omega) _).far (by dsimp only; omega) _
      have hWQ : Blk W (w.heap.size + 1 + 1) 28 #[.slice none 0 0, .int .i64 0, .int .i64 0, .int .i64 0, .int .i64 0] := by
        rw [hW]
        exact ((((hQ.far (by dsimp only; omega) _).far (by dsimp only; omega) _).far (by dsimp only; omega) _).far (by dsimp only; omega) _).far (by dsimp only; omega) _
      have hWZ : Blk W (w.heap.size + 1 + 1 + 1) 24 #[.int .i64 0, .int .i64 0] := by
        rw [hW]
        exact ((((hZ.far (by dsimp only; omega) _).far (by dsimp only; omega) _).far (by dsimp only; omega) _).far (by dsimp only; omega) _).far (by dsimp only; omega) _
      have hWb : Below w.heap.size w W := by
        rw [hW]
        exact (((((hbw.setCell (by simp) _).setCell (by simp) _).setCell (by simp) _).setCell (by simp) _).setCell (by simp) _)
      have hWs : W.heap.size = w1.heap.size := by rw [hW]; simp
      have hWL : Rep W ok (.sl (l.map Slt.row)) (.slice la ln lc) := by
        rw [hW]
        iterate 5 refine Rep.setCell ?_ _ (fun b hb => by have := hok b hb; dsimp only; omega)
        exact hL0.under hb1 (fun b hb => by have := hok b hb; omega)
      have HW := Lib.hid hW
      clear hW hh0
      go_upto_region 6 with (fail)
      have hW' := HW.out
      rw [← hW']
      clear hW' HW hhc hhf hH hQ hZ hS hA1 hL0 hR0 hH0 hS0 hQ0 hZ0 hown hb1
      obtain ⟨hl, hky⟩ := HH.out
      obtain ⟨g, sa0, sc0, rfl, hbg, hgs, x0, x1, x2, xf, _⟩ := Arr.cll hWA hl
      rw [hky] at x0 x1 x2
      have hws1 : w1.heap.size ≤ W.heap.size := by omega
      have hws2 : W.heap.size ≤ w1.heap.size := by omega
      have HXA := Lib.hid hWA
      have hne : g ≠ w.heap.size := by omega
      have hne1 : g ≠ w.heap.size + 1 := by omega
      have hsc := hWS.cell
      have hpc := hWP.cell 0
      have hscA : ∀ (o : Obj) (i : Nat), (W.alloc o).cell? ⟨w.heap.size + 1, i, none⟩ = #[.int .i64 s.kind, .int .i64 s.n][i]? := fun o i => (World.cell?_alloc_lt W o ⟨w.heap.size + 1, i, none⟩ (by dsimp only; omega)).trans (hsc i)
      have hs1 := hsc 1
      clear hl hky hWA hWs hsc
      go_region_held3 (fun w' => w'.cell? ⟨w.heap.size, 0, none⟩ = some (.slice (some ⟨g, 0, none⟩) n c') ∧ w'.cell? ⟨w.heap.size + 1, 1, none⟩ = some (.int .i64 s.n))
        (first
          | go_keep
          | (go_split_ands
             refine ⟨?_, ?_⟩
             · (rw [hgrow.cell_far _ (by simp; omega) (by simp [Value.ownBlock]; omega)]; assumption)
             · (rw [hgrow.cell_far _ (by simp; omega) (by simp [Value.ownBlock]; omega)]; assumption)))
        ((refine step_arr_append _ (by rfl) (.tmp 34) (.tmp 35) 25 (by rfl) W.heap.size 24 j0 _ 2 16 Try.underlying25 hj hy0 hy1 hy2 rfl (by omega) (fun _ => False) (.slice (some ⟨W.heap.size, 0, none⟩) 0 0) [] (by rfl) (by first | exact (Arr.made' W W.heap.size 24 2 _ W.heap.size rfl (Nat.le_refl _)).drew | exact (Arr.made' W W.heap.size 24 2 _ W.heap.size rfl (Nat.le_refl _)))
            la ln lc (l.map Slt.row) (by rw [HLn.out]; simp) (by rfl) ok (by first | exact (hWL.alloc _ (fun b hb => by have := hok b hb; omega)).drew | exact (hWL.alloc _ (fun b hb => by have := hok b hb; omega))) (fun i j r d u hr hd hu => hu.flat (flat_map Slt.row Slt.flat l i j r d hr hd))
            (map_row_len _ _ Slt.row_len l) (by have := HLn.out; simp [maxLen]; omega) (by have := HLn.out; simp; omega) (fun b hb => hb.elim) (by simp) ?_; intro v' w3 hA3 hgrow hat; have hb3 : Below W.heap.size W w3 := (by first | exact (((Below.refl _ W).alloc (Nat.le_refl _) _).drew).grown hgrow (by simp) (by simp [Value.ownBlock]) | exact ((Below.refl _ W).alloc (Nat.le_refl _) _).grown hgrow (by simp) (by simp [Value.ownBlock])); obtain ⟨sa3, sc3, hv3, hr3⟩ : ∃ sa3 sc3, v' = .slice sa3 ln sc3 ∧ Rep w3 (fun b => W.heap.size ≤ b ∧ b < w3.heap.size) (.sl (l.map Slt.row)) (.slice sa3 ln sc3) := (by
              have h1 := hA3.rep (ok' := fun b => W.heap.size ≤ b ∧ b < w3.heap.size) (fun b h1 h2 => ⟨h1, h2⟩) (fun b h => h.elim)
              obtain ⟨a', c', e, _⟩ := h1.sl_inv
              subst e
              have hle : ([] ++ l.map Slt.row).length = ln := by rw [HLn.out]; simp
              rw [hle] at h1 ⊢
              exact ⟨a', c', rfl, by simpa using h1⟩); subst hv3; have hs3 : W.heap.size ≤ w3.heap.size := hb3.size; have d0 : w3.cell? ⟨g, s.n.toNat * 3, none⟩ = some (.int .i64 x.count) := (hb3.cell (by dsimp only; omega)).trans x0; have d1 : w3.cell? ⟨g, s.n.toNat * 3 + 1, none⟩ = some (.int .i64 x.tag) := (hb3.cell (by dsimp only; omega)).trans x1; have d2 : w3.cell? ⟨g, s.n.toNat * 3 + 2, none⟩ = some (.slice sa0 x.slots.length sc0) := (hb3.cell (by dsimp only; omega)).trans x2; have df : ∀ o, w3.frozen? ⟨g, o, none⟩ = false := fun o => (hb3.frozen (by dsimp only; omega)).trans (xf o)))
      have hP3 := hWP.under hb3 hWP.lt
      have hS3 := hWS.under hb3 hWS.lt
      have hQ3 := hWQ.under hb3 hWQ.lt
      have hZ3 := hWZ.under hb3 hWZ.lt
      have hbW3 : Below w.heap.size w w3 := hWb.trans (hb3.mono hWb.size)
      have HA4 : Hid (Arr (((w3.setCell ⟨g, s.n.toNat * 3, none⟩ (.int .i64 1)).setCell ⟨g, s.n.toNat * 3 + 1, none⟩ (.int .i64 tag)).setCell ⟨g, s.n.toNat * 3 + 2, none⟩ (.slice sa3 ln sc3)) w0.heap.size 51 3 (okU ok w0.heap.size w3) (.slice (some ⟨g, 0, none⟩) n c') ((h.put s.n ⟨1, tag, l⟩).cells.map Cll.row)) := by
        obtain ⟨hl, hky⟩ := HH.out
        have hA3 := (HXA.out.under hb3 (Nat.le_refl _) (fun b hb => by have := hok1 b hb; omega)).weak (ok' := okU ok w0.heap.size w3) (fun b hb => hb.imp id fun h => ⟨h.1, by omega⟩)
        rw [hl] at hA3
        have hA4 := hA3.cll_put ⟨1, tag, l⟩ (.slice sa3 ln sc3) (by simp) ht (hr3.weak fun b hb => ⟨.inr ⟨by omega, hb.2⟩, by omega⟩)
        rw [hky, ← Hp.put_split hl hky] at hA4
        exact hA4
      have hpc3 := hP3.cell
      have hpf := hP3.frozen
      have hsc := hS3.cell
      have hqc := hQ3.cell
      have hqf := hQ3.frozen
      have hzc := hZ3.cell
      have hzf := hZ3.frozen
      have hne2 : g ≠ w.heap.size + 1 + 1 := by omega
      have hne3 : g ≠ w.heap.size + 1 + 1 + 1 := by omega
      clear x0 x1 x2 xf d0 d1 d2 df hA3 hgrow hat hr3 hb3 hpc hs1 hscA hWP hWS hWQ hWZ hWb hWL
      go_upto_region 8 with (fail)
      go_region
      all_goals
        go_wp2_with fail
        refine bodyPost_ret (v := .tuple #[.agg #[.slice (some ⟨g, 0, none⟩) n c', .int .i64 h.made, .int .i64 (h.used + 1), .int .i64 h.live, .int .i64 h.peak], .agg #[.int .i64 s.kind, .int .i64 s.n], .int .i64 0]) (by simp [results, Try.results18, go_sem, hqc, hzc]) rfl ?_
        have hR5 := (HA4.out.setCell (p := ⟨w.heap.size, 2, none⟩) (.int .i64 (h.used + 1)) (by simp [Value.ownBlock]; omega) (fun b hb => by dsimp only; rcases hb with hb | hb <;> first | omega | (have := hok b hb; omega))).rep (ok' := fun b => ok b ∨ (w0.heap.size ≤ b ∧ b < w3.heap.size)) (fun b h1 h2 => .inr ⟨h1, by simpa using h2⟩) (fun b hb => hb)
        refine ⟨_, by rw [HE.out], ?_, ?_⟩
        · rw [HE.out]
          refine ⟨_, n, c', rfl, ?_⟩
          refine Rep.weak (ok := fun b => ok b ∨ (w0.heap.size ≤ b ∧ b < w3.heap.size)) ?_ (fun b hb => hb.imp id fun h => ⟨by omega, by simp; omega⟩)
          refine Rep.drew ?_
          iterate 7 refine Rep.setCell ?_ _ (fun b hb => by dsimp only; rcases hb with hb | hb <;> first | omega | (have := hok b hb; omega))
          exact hR5
        · refine Below.drew ?_
          exact (((((((((((hbW3.setCell (by dsimp only; omega) _).setCell (by dsimp only; omega) _).setCell (by dsimp only; omega) _).setCell (by dsimp only; omega) _).setCell (by dsimp only; omega) _).setCell (by dsimp only; omega) _).setCell (by dsimp only; omega) _).setCell (by dsimp only; omega) _).setCell (by dsimp only; omega) _).setCell (by dsimp only; omega) _).setCell (by dsimp only; omega) _)
    · have hkp' : h.kept s = false := by simpa using hkp
      have HE : Hid (h.use s tag l = (Hp.zero, ⟨0, 0⟩, 14)) := by rw [Hid, Hp.use, if_pos HK.out, if_neg hkp]
      have hqc := hQ0.cell
      have hqf := hQ0.frozen
      have hzc := hZ0.cell
      have hzf := hZ0.frozen
      clear hkp
      go_wp2_with fail
      refine bodyPost_ret (v := .tuple #[.agg #[.slice none 0 0, .int .i64 0, .int .i64 0, .int .i64 0, .int .i64 0], .agg #[.int .i64 0, .int .i64 0], .int .i64 14]) (by simp [results, Try.results18, go_sem, hqc, hzc]) rfl ?_
      refine ⟨_, by rw [HE.out], by rw [HE.out]; exact HpRet.zero, ?_⟩
      exact (((((((hbw0.setCell (by dsimp only; omega) _).setCell (by dsimp only; omega) _).setCell (by dsimp only; omega) _).setCell (by dsimp only; omega) _).setCell (by dsimp only; omega) _).setCell (by dsimp only; omega) _).setCell (by dsimp only; omega) _)
  · have hk' : (s.kind != 2) = true := by simpa using hk
    have HE : Hid (h.use s tag l = h.make tag l) := by rw [Hid, Hp.use, if_neg hk]
    clear hk
    go_enter Try.func18, Try.ntmps18
    go_wp2_with fail
    refine (ref_Make h tag l M ok a n c la ln lc _ hM HO.out ht HLn.out hlb (hok4 _ _ _ _) (hR4 _ _ _ _) (hL4 _ _ _ _)).mono ?_
    rintro e w1 ⟨v, rfl, ⟨a', n', c', rfl, hR1⟩, hb1⟩
    have hQ := Blk.under ((Blk.new' ((w.alloc _).alloc _) 28 #[.slice none 0 0, .int .i64 0, .int .i64 0, .int .i64 0, .int .i64 0] (w.heap.size + 1 + 1) (by simp)).alloc _) hb1 (by simp)
    have hZ := Blk.under (Blk.new' (((w.alloc _).alloc _).alloc _) 24 #[.int .i64 0, .int .i64 0] (w.heap.size + 1 + 1 + 1) (by simp)) hb1 (by simp)
    have hbw : Below w.heap.size w w1 := (((((Below.refl _ w).alloc (Nat.le_refl _) _).alloc (by simp) _).alloc (by simp; omega) _).alloc (by simp; omega) _).trans (hb1.mono (by simp; omega))
    have hsz : w.heap.size + 4 ≤ w1.heap.size := by have := hb1.size; simp at this; omega
    have hR2 : Hid (Rep w1 (fun b => ok b ∨ (w.heap.size + 4 ≤ b ∧ b < w1.heap.size)) (.sl ((h.make tag l).1.cells.map Cll.row)) (.slice a' n' c')) := hR1.weak fun b hb => hb.imp id fun h => ⟨by have := h.1; simp at this; omega, h.2⟩
    have hqc := hQ.cell
    have hqf := hQ.frozen
    have hzc := hZ.cell
    have hzf := hZ.frozen
    clear hR1 hb1
    go_wp2_with fail
    refine bodyPost_ret (v := .tuple #[.agg #[.slice a' n' c', .int .i64 (h.make tag l).1.made, .int .i64 (h.make tag l).1.used, .int .i64 (h.make tag l).1.live, .int .i64 (h.make tag l).1.peak], .agg #[.int .i64 (h.make tag l).2.1.kind, .int .i64 (h.make tag l).2.1.n], .int .i64 (h.make tag l).2.2]) (by simp [results, Try.results18, go_sem, hqc, hzc]) rfl ?_
    refine ⟨_, by rw [HE.out], by rw [HE.out]; exact ⟨a', n', c', rfl, use_rep7 hok hR2.out _ _ _ _ _ _ _⟩, ?_⟩
    exact (((((((hbw.setCell (by dsimp only; omega) _).setCell (by dsimp only; omega) _).setCell (by dsimp only; omega) _).setCell (by dsimp only; omega) _).setCell (by dsimp only; omega) _).setCell (by dsimp only; omega) _).setCell (by dsimp only; omega) _)
end Go.Proofs.Ytcakhebnebcpcaa
