/- xcref10.Open. -/
import Derived.Test.YtcakhebnebcpcaaHeapK
import Derived.Deep.Cut
namespace Go.Proofs.Ytcakhebnebcpcaa
open Go.RowKit
set_option linter.unusedVariables false

set_option maxHeartbeats 3000000 in
theorem ref_Open (h : Hp) (s : Slt) (keep : Bool) (M : Int) (ok : Nat → Prop) (a : Option Addr) (n c : Nat) (w : World) (hM : M ≤ 1000000) (hO : h.Ok M) (hMo : 3 * M ≤ 1000000) (hok : ∀ b, ok b → b < w.heap.size) (hR : Rep w ok (.sl (h.cells.map Cll.row)) (.slice a n c)) :
    Calls Try.prog 30 #[.agg #[.slice a n c, .int .i64 h.made, .int .i64 h.used, .int .i64 h.live, .int .i64 h.peak], .agg #[.int .i64 s.kind, .int .i64 s.n], .bool keep] w (OpenSaid h s keep ok w) := by
  have hn := hR.len_inv.1
  rw [List.length_map] at hn
  have hlen := hO.len
  have hsl : ∀ x ∈ h.cells, x.slots.length ≤ 8796093022208 := fun x hx => by have := hO.slots x hx; omega
  have HN := Lib.hid hn
  have HO := Lib.hid hO
  clear hn hO
  go_enter Try.func30, Try.ntmps30
  go_wp2_with fail
  refine (ref_There h s ok a n c _ (fun b hb => by have := hok b hb; simp; omega) (((hR.alloc _ hok).alloc _ (fun b hb => by have := hok b hb; simp; omega)).alloc _ (fun b hb => by have := hok b hb; simp; omega))).mono ?_
  rintro e w0 ⟨rfl, hb0⟩
  have hS0 := (Blk.under ((Blk.new' (w.alloc _) 24 #[.int .i64 s.kind, .int .i64 s.n] (w.heap.size + 1) (by simp)).alloc _) hb0 (by simp))
  have hQ0 := Blk.under (Blk.new' ((w.alloc _).alloc _) 28 #[.slice none 0 0, .int .i64 0, .int .i64 0, .int .i64 0, .int .i64 0] (w.heap.size + 1 + 1) (by simp)) hb0 (by simp)
  have hH0 := Blk.under (((Blk.new w 28 #[.slice a n c, .int .i64 h.made, .int .i64 h.used, .int .i64 h.live, .int .i64 h.peak]).alloc _).alloc _) hb0 (by simp; omega)
  have hbw0 : Below w.heap.size w w0 := ((((Below.refl _ w).alloc (Nat.le_refl _) _).alloc (by simp) _).alloc (by simp; omega) _).trans (hb0.mono (by simp; omega))
  have hsz0 : w.heap.size + 3 ≤ w0.heap.size := by have := hb0.size; simp at this; omega
  have hR0 := hR.under hbw0 hok
  have hh0 := hH0.cell
  have hq0 := hQ0.cell
  have hqf0 := hQ0.frozen
  clear hb0
  by_cases ht : h.there s = true
  · obtain ⟨hk, x, hx, hxc⟩ := Hp.there_inv ht
    obtain ⟨h0, h1, ys, zs, hl, hky⟩ := Hp.at_some hx
    have hxm : x ∈ h.cells := by rw [hl]; simp
    have hct := HO.out.count x hxm
    have hslx := HO.out.slots x hxm
    have hlv := HO.out.live
    rw [← HN.out] at h1
    have HH := Lib.hid (And.intro hl hky)
    have HX := Lib.hid hx
    have HT := Lib.hid ht
    clear hx hl hky hk hxm
    go_wp2_with fail
    refine (ref_Own h.cells h.made h.used h.live h.peak ok a n c _ HN.out (by have := HN.out; omega) hsl (fun b hb => by have := hok b hb; omega) hR0).mono ?_
    rintro e w1 ⟨a', c', rfl, hA1, hb1⟩
    have hS := hS0.under hb1 (by omega)
    have hQ := hQ0.under hb1 (by omega)
    have hH := hH0.under hb1 (by omega)
    have hbw : Below w.heap.size w w1 := hbw0.trans (hb1.mono (by omega))
    have hsz : w0.heap.size ≤ w1.heap.size := hb1.size
    have hok1 : ∀ b, okU ok w0.heap.size w1 b → b < w1.heap.size ∧ b ≠ w.heap.size ∧ b ≠ w.heap.size + 1 ∧ b ≠ w.heap.size + 1 + 1 := fun b hb => by rcases hb with hb | hb <;> first | omega | (have := hok b hb; omega)
    have hown := hA1.own
    obtain ⟨W, hW⟩ : ∃ W, W = (((((w1.setCell ⟨w.heap.size, 0, none⟩ (.slice a' n c')).setCell ⟨w.heap.size, 1, none⟩ (.int .i64 h.made)).setCell ⟨w.heap.size, 2, none⟩ (.int .i64 h.used)).setCell ⟨w.heap.size, 3, none⟩ (.int .i64 h.live)).setCell ⟨w.heap.size, 4, none⟩ (.int .i64 h.peak)) := ⟨_, rfl⟩
    have hWA : Arr W w0.heap.size 51 3 (okU ok w0.heap.size w1) (.slice a' n c') (h.cells.map Cll.row) := by
      rw [hW]
      iterate 5 refine Arr.setCell ?_ _ (fun e => by have := (hown _ e).1; dsimp only at this; omega) (fun b hb => by have := hok1 b hb; dsimp only; omega)
      exact hA1
    have hWH : Blk W w.heap.size 28 #[.slice a' n c', .int .i64 h.made, .int .i64 h.used, .int .i64 h.live, .int .i64 h.peak] := by
      rw [hW]
      exact ((((hH.set_ 0 _).set_ 1 _).set_ 2 _).set_ 3 _).set_ 4 _
    have hWS : Blk W (w.heap.size + 1) 24 #[.int .i64 s.kind, .int .i64 s.n] := by
      rw [hW]
      exact ((((hS.far (by dsimp only; omega) _).far (by dsimp only; omega) _).far (by dsimp only; omega) _).far (by dsimp only; omega) _).far (by dsimp only; omega) _
    have hWQ : Blk W (w.heap.size + 1 + 1) 28 #[.slice none 0 0, .int .i64 0, .int .i64 0, .int .i64 0, .int .i64 0] := by
      rw [hW]
      exact ((((hQ.far (by dsimp only; omega) _).far (by dsimp only; omega) _).far (by dsimp only; omega) _).far (by dsimp only; omega) _).far (by dsimp only; omega) _
    have hWb : Below w.heap.size w W := by
      rw [hW]
      exact (((((hbw.setCell (by simp) _).setCell (by simp) _).setCell (by simp) _).setCell (by simp) _).setCell (by simp) _)
    have hWs : W.heap.size = w1.heap.size := by rw [hW]; simp
    -- the walk over the stores ends where 'h.Cells[s.N]' is read: that takes the cells behind the stores
    obtain ⟨hl, hky⟩ := HH.out
    obtain ⟨g, sa, sc, rfl, hbg, hgs, c0, c1, c2, hf, hrs, _⟩ := Arr.cll hA1 hl
    rw [hky] at c0 c1 c2
    have hne : g ≠ w.heap.size := by omega
    have hne' : g ≠ w.heap.size + 1 + 1 := by omega
    have hne'' : g ≠ w.heap.size + 1 := by omega
    have hsc := hS.cell
    have hhc := hH.cell
    have hhf := hH.frozen
    have HW := Lib.hid hW
    have HWA := Lib.hid hWA
    have hsW : W.heap.size = w1.heap.size := hWs
    clear hW hl hky hA1 hWA hh0 hq0 hqf0 hb1 hsW hsc
    have HsW := Lib.hid hWs
    clear hWs
    go_upto_region 4 with (fail)
    have hW' := HW.out
    rw [← hW']
    clear hW' HW hhc hhf c0 c1 c2 hf
    have hsc := hWS.cell
    have hhc := hWH.cell
    have hhf := hWH.frozen
    have hqc := hWQ.cell
    have hqf := hWQ.frozen
    obtain ⟨hl, hky⟩ := HH.out
    have hWA := HWA.out
    obtain ⟨g', sa', sc', hg', _, hgW, c0, c1, c2, hf, hrs2, r0, r1⟩ := Arr.cll hWA hl
    simp only [Option.some.injEq, Addr.mk.injEq, and_true] at hg'
    subst hg'
    rw [hky] at c0 c1 c2
    go_upto_region 5 with (fail)
    obtain ⟨V, hV⟩ : ∃ V, V = W.alloc (.cells #[.int .i64 x.count, .int .i64 x.tag, .slice sa' x.slots.length sc'] 51) := ⟨_, rfl⟩
    have hokW : ∀ b, okU ok w0.heap.size w1 b → b < W.heap.size := fun b hb => by have := hok1 b hb; have := HsW.out; omega
    have hVS : Blk V (w.heap.size + 1) 24 #[.int .i64 s.kind, .int .i64 s.n] := by rw [hV]; exact hWS.alloc _
    have hVH : Blk V w.heap.size 28 #[.slice (some ⟨g, 0, none⟩) n c', .int .i64 h.made, .int .i64 h.used, .int .i64 h.live, .int .i64 h.peak] := by rw [hV]; exact hWH.alloc _
    have hVQ : Blk V (w.heap.size + 1 + 1) 28 #[.slice none 0 0, .int .i64 0, .int .i64 0, .int .i64 0, .int .i64 0] := by rw [hV]; exact hWQ.alloc _
    have hVC : Blk V W.heap.size 51 #[.int .i64 x.count, .int .i64 x.tag, .slice sa' x.slots.length sc'] := by rw [hV]; exact Blk.new _ _ _
    have HVA : Hid (Arr V w0.heap.size 51 3 (okU ok w0.heap.size w1) (.slice (some ⟨g, 0, none⟩) n c') (h.cells.map Cll.row)) := by rw [hV]; exact HWA.out.alloc _ hokW
    have hVb : Below w.heap.size w V := by rw [hV]; exact hWb.alloc hWb.size _
    have hrsV : Rep V (fun b => okU ok w0.heap.size w1 b ∧ b ≠ g) (.sl (x.slots.map Slt.row)) (.slice sa' x.slots.length sc') := by rw [hV]; exact hrs2.alloc _ (fun b hb => hokW b hb.1)
    have hVs : V.heap.size = W.heap.size + 1 := by rw [hV]; simp
    rw [← hV]
    clear hV hsc hhc hhf hqc hqf c0 c1 c2 hf hWS hWH hWQ HWA hWb hrs2 hQ0 hH0 hS0 hS hQ hH
    have hsc := hVS.cell
    have hhc := hVH.cell
    have hhf := hVH.frozen
    have hqc := hVQ.cell
    have hqf := hVQ.frozen
    have hcc := hVC.cell
    obtain ⟨hl, hky⟩ := HH.out
    have hVA := HVA.out
    obtain ⟨g', sa2, sc2, hg', _, hgV, c0, c1, c2, hf, _⟩ := Arr.cll hVA hl
    simp only [Option.some.injEq, Addr.mk.injEq, and_true] at hg'
    subst hg'
    rw [hky] at c0 c1 c2
    have hsV : W.heap.size < V.heap.size := by omega
    have HsV := Lib.hid hVs
    clear hl hky hVA hVs
    by_cases h1c : x.count = 1
    · have hbc : (x.count == 1) = true := by simpa using h1c
      have H1 := Lib.hid h1c
      clear h1c
      have hA3 : Hid (Arr (((V.setCell ⟨g, s.n.toNat * 3, none⟩ (.int .i64 0)).setCell ⟨g, s.n.toNat * 3 + 1, none⟩ (.int .i64 0)).setCell ⟨g, s.n.toNat * 3 + 2, none⟩ (.slice none 0 0)) w0.heap.size 51 3 (okU ok w0.heap.size w1) (.slice (some ⟨g, 0, none⟩) n c') ((ys ++ Cll.zero :: zs).map Cll.row)) := by
        obtain ⟨hl, hky⟩ := HH.out
        have hA3 := HVA.out
        rw [hl] at hA3
        have hA4 := hA3.cll_put Cll.zero (.slice none 0 0) (by simp [Cll.zero]) (by simp [Cll.zero]) (.empty none 0 (fun _ => rfl) (Nat.zero_le _))
        rw [hky] at hA4
        exact hA4
      cases keep
      · have HE : Hid (h.open s false = ({ h.put s.n Cll.zero with live := h.live - 1 }, true, 0)) := by rw [Hid, Hp.open, if_pos HT.out, HX.out]; simp [H1.out]
        go_wp2_with fail
        refine bodyPost_ret (v := .tuple #[.agg #[.slice (some ⟨g, 0, none⟩) n c', .int .i64 h.made, .int .i64 h.used, .int .i64 (h.live - 1), .int .i64 h.peak], .bool true, .int .i64 0]) (by simp [results, Try.results30, go_sem, hqc]) rfl ?_
        obtain ⟨hl, hky⟩ := HH.out
        have hA4 := hA3.out
        rw [← Hp.put_split hl hky] at hA4
        have hR5 := (hA4.setCell (p := ⟨w.heap.size, 3, none⟩) (.int .i64 (h.live - 1)) (by simp [Value.ownBlock]; exact hne) (fun b hb => by have := hok1 b hb; dsimp only; omega)).rep (ok' := fun b => ok b ∨ (w0.heap.size ≤ b ∧ b < V.heap.size)) (fun b h1 h2 => .inr ⟨h1, by simpa using h2⟩) (fun b hb => hb.imp id fun h => ⟨h.1, by have := HsW.out; omega⟩)
        have hfin := ret5 (q := w.heap.size + 1 + 1) (h := { h.put s.n Cll.zero with live := h.live - 1 }) hok (by omega) (by omega) ((((hVb.setCell (by dsimp only; omega) _).setCell (by dsimp only; omega) _).setCell (by dsimp only; omega) _).setCell (by dsimp only; omega) _) (hR5.weak (ok' := fun b => ok b ∨ (w0.heap.size ≤ b ∧ b < ((((V.setCell ⟨g, s.n.toNat * 3, none⟩ (.int .i64 0)).setCell ⟨g, s.n.toNat * 3 + 1, none⟩ (.int .i64 0)).setCell ⟨g, s.n.toNat * 3 + 2, none⟩ (.slice none 0 0)).setCell ⟨w.heap.size, 3, none⟩ (.int .i64 (h.live - 1))).heap.size)) (fun b hb => hb.imp id fun h => ⟨h.1, by simpa using h.2⟩))
          (.slice (some ⟨g, 0, none⟩) n c') (.int .i64 h.made) (.int .i64 h.used) (.int .i64 (h.live - 1)) (.int .i64 h.peak)
        exact ⟨_, by rw [HE.out], by rw [HE.out]; exact hfin.1, hfin.2⟩
      · have HE : Hid (h.open s true = (h.put s.n { Cll.zero with count := -1 }, true, 0)) := by rw [Hid, Hp.open, if_pos HT.out, HX.out]; simp [H1.out]
        go_wp2_with fail
        refine bodyPost_ret (v := .tuple #[.agg #[.slice (some ⟨g, 0, none⟩) n c', .int .i64 h.made, .int .i64 h.used, .int .i64 h.live, .int .i64 h.peak], .bool true, .int .i64 0]) (by simp [results, Try.results30, go_sem, hqc]) rfl ?_
        obtain ⟨hl, hky⟩ := HH.out
        have hA4 := hA3.out.cll_count (-1) (by omega) (by omega)
        rw [hky, ← Hp.put_split hl hky] at hA4
        have hR5 := hA4.rep (ok' := fun b => ok b ∨ (w0.heap.size ≤ b ∧ b < V.heap.size)) (fun b h1 h2 => .inr ⟨h1, by simpa using h2⟩) (fun b hb => hb.imp id fun h => ⟨h.1, by have := HsW.out; omega⟩)
        have hfin := ret5 (q := w.heap.size + 1 + 1) (h := h.put s.n { Cll.zero with count := -1 }) hok (by omega) (by omega) ((((hVb.setCell (by dsimp only; omega) _).setCell (by dsimp only; omega) _).setCell (by dsimp only; omega) _).setCell (by dsimp only; omega) _) (hR5.weak (ok' := fun b => ok b ∨ (w0.heap.size ≤ b ∧ b < ((((V.setCell ⟨g, s.n.toNat * 3, none⟩ (.int .i64 0)).setCell ⟨g, s.n.toNat * 3 + 1, none⟩ (.int .i64 0)).setCell ⟨g, s.n.toNat * 3 + 2, none⟩ (.slice none 0 0)).setCell ⟨g, s.n.toNat * 3, none⟩ (.int .i64 (-1))).heap.size)) (fun b hb => hb.imp id fun h => ⟨h.1, by simpa using h.2⟩))
          (.slice (some ⟨g, 0, none⟩) n c') (.int .i64 h.made) (.int .i64 h.used) (.int .i64 h.live) (.int .i64 h.peak)
        exact ⟨_, by rw [HE.out], by rw [HE.out]; exact hfin.1, hfin.2⟩
    · have hbc : (x.count == 1) = false := by simpa using h1c
      have H1 := Lib.hid h1c
      clear h1c
      have HX1 : Hid ((x.slots.length : Int) ≤ M) := hslx
      obtain ⟨X, hX⟩ : ∃ X, X = V.setCell ⟨g, s.n.toNat * 3, none⟩ (.int .i64 (x.count - 1)) := ⟨_, rfl⟩
      have hRX : Rep X (okU ok w0.heap.size X) (.sl ((h.put s.n { x with count := x.count - 1 }).cells.map Cll.row)) (.slice (some ⟨g, 0, none⟩) n c') := by
        obtain ⟨hl, hky⟩ := HH.out
        have hA3 := HVA.out
        rw [hl] at hA3
        have hA4 := hA3.cll_count (x.count - 1) (by omega) (by omega)
        rw [hky, ← Hp.put_split hl hky, ← hX] at hA4
        exact hA4.rep (fun b h1 h2 => .inr ⟨h1, h2⟩) (fun b hb => hb.imp id fun h => ⟨h.1, by have := HsW.out; rw [hX]; simp; omega⟩)
      have hO3 : Hid ((h.put s.n { x with count := x.count - 1 }).Ok (M + 1)) := (HO.out.mono (by omega)).put _ (by simp; omega) (by simp; omega)
      have hrsX : Rep X (okU ok w0.heap.size X) (.sl (x.slots.map Slt.row)) (.slice sa' x.slots.length sc') := by
        rw [hX]
        exact (hrsV.setCell _ (fun b hb => hb.2)).weak fun b hb => hb.1.imp id fun h => ⟨h.1, by have := HsW.out; simp; omega⟩
      have hXH : Blk X w.heap.size 28 #[.slice (some ⟨g, 0, none⟩) n c', .int .i64 h.made, .int .i64 h.used, .int .i64 h.live, .int .i64 h.peak] := by rw [hX]; exact hVH.far hne.symm _
      have hXQ : Blk X (w.heap.size + 1 + 1) 28 #[.slice none 0 0, .int .i64 0, .int .i64 0, .int .i64 0, .int .i64 0] := by rw [hX]; exact hVQ.far hne'.symm _
      have hXb : Below w.heap.size w X := by rw [hX]; exact hVb.setCell (by dsimp only; omega) _
      have hXs : w0.heap.size ≤ X.heap.size := by rw [hX]; simp; have := HsW.out; omega
      have HXX := Lib.hid hX
      clear hX
      go_wp2_with fail
      rw [← HXX.out]
      clear hsc hhc hhf hqc hqf hcc c0 c1 c2 hf hrsV hVS hVH hVQ hVC HVA hsV HXX
      go_loopw [61] (fun i wr => ∃ (ps qs : List Slt) (h2 : Hp) (ac : Option Addr) (nc cc : Nat), Hid (x.slots = ps ++ qs ∧ (h.put s.n { x with count := x.count - 1 }).dups x.slots = h2.dups qs) ∧ i = .int .i64 ps.length ∧
          Blk wr w.heap.size 28 #[.slice ac nc cc, .int .i64 h2.made, .int .i64 h2.used, .int .i64 h2.live, .int .i64 h2.peak] ∧ Rep wr (okU ok w0.heap.size wr) (.sl (h2.cells.map Cll.row)) (.slice ac nc cc) ∧
          Hid (h2.Ok (M + 1 + ps.length)) ∧ Rep wr (okU ok w0.heap.size wr) (.sl (x.slots.map Slt.row)) (.slice sa' x.slots.length sc') ∧ Below w.heap.size w wr ∧ w0.heap.size ≤ wr.heap.size ∧
          Blk wr (w.heap.size + 1 + 1) 28 #[.slice none 0 0, .int .i64 0, .int .i64 0, .int .i64 0, .int .i64 0])
        (fun i _ => x.slots.length - (intOf i).toNat)
      case atStart => exact ⟨[], x.slots, _, _, _, _, ⟨rfl, rfl⟩, rfl, hXH, hRX, by have := hO3.out; exact (by simpa using this : Hp.Ok (M + 1 + ((([] : List Slt).length : Nat) : Int)) _), hrsX, hXb, hXs, hXQ⟩
      case round =>
        clear hXH hRX hrsX hXb hXs hXQ
        obtain ⟨ps, qs, h2, ac, nc, cc, HL, rfl, hHr, hRh, HOr, hRr, hbr, hsr, hQr⟩ := hrel
        have hqr := hQr.cell
        have hqfr := hQr.frozen
        have hhr := hHr.cell
        have hokr : ∀ b, okU ok w0.heap.size wr b → b < wr.heap.size := fun b hb => by rcases hb with hb | hb <;> first | omega | (have := hok b hb; omega)
        rcases qs with _ | ⟨y, qs⟩
        · have hlen : x.slots.length ≤ ps.length := by rw [HL.out.1]; simp
          have HE : Hid (h.open s keep = (h2, false, 0)) := by
            rw [Hid, Hp.open, if_pos HT.out, HX.out]
            simp only [H1.out, if_false, HL.out.2]
            simp [Hp.dups]
          go_wp2_with fail
          refine bodyPost_ret (v := .tuple #[.agg #[.slice ac nc cc, .int .i64 h2.made, .int .i64 h2.used, .int .i64 h2.live, .int .i64 h2.peak], .bool false, .int .i64 0]) (by simp [results, Try.results30, go_sem, hqr]) rfl ?_
          have hfin := ret5 (q := w.heap.size + 1 + 1) (h := h2) hok (by omega) (by omega) hbr hRh
            (.slice ac nc cc) (.int .i64 h2.made) (.int .i64 h2.used) (.int .i64 h2.live) (.int .i64 h2.peak)
          exact ⟨_, by rw [HE.out], by rw [HE.out]; exact hfin.1, hfin.2⟩
        · have hlt : ps.length < x.slots.length := by rw [HL.out.1]; simp
          obtain ⟨b1, o1, rfl, hob, d0, d1, rr0, rr1⟩ := Slt.at_ hRr HL.out.1
          have hha : ∀ (o : Obj) (i : Nat), (wr.alloc o).cell? ⟨w.heap.size, i, none⟩ = #[.slice ac nc cc, .int .i64 h2.made, .int .i64 h2.used, .int .i64 h2.live, .int .i64 h2.peak][i]? := fun o i => (World.cell?_alloc_lt wr o ⟨w.heap.size, i, none⟩ (by dsimp only; omega)).trans (hhr i)
          have hM2 : M + 1 + ps.length ≤ 1000000 := by have := HX1.out; omega
          go_wp2_with fail
          refine (ref_Dup h2 y (M + 1 + ps.length) (okU ok w0.heap.size wr) ac nc cc _ hM2 HOr.out (fun b hb => by have := hokr b hb; simp; omega) (hRh.alloc _ hokr)).mono ?_
          rintro e w4 ⟨v, rfl, ⟨ad, nd, cd, rfl, hRd⟩, hb4⟩
          have hHB4 := (hHr.alloc (.cells #[.int .i64 y.kind, .int .i64 y.n] 24)).under hb4 (by simp; omega)
          have hH4 := hHB4.cell
          have hHf4 := hHB4.frozen
          have hQ4 := (hQr.alloc (.cells #[.int .i64 y.kind, .int .i64 y.n] 24)).under hb4 (by simp; omega)
          have hq4 := hQ4.cell
          have hqf4 := hQ4.frozen
          have hb4' : Below w.heap.size w w4 := (hbr.alloc hbr.size _).trans (hb4.mono (by simp; have := hbr.size; omega))
          have hs4 : wr.heap.size < w4.heap.size := by have := hb4.size; simp at this; omega
          have hR4 : Rep w4 (okU ok w0.heap.size wr) (.sl (x.slots.map Slt.row)) (.slice (some ⟨b1, o1, none⟩) x.slots.length sc') := (hRr.alloc _ hokr).under hb4 (fun b hb => by have := hokr b hb; simp; omega)
          have hRd4 : Rep w4 (okU ok w0.heap.size w4) (.sl ((h2.dup y).1.cells.map Cll.row)) (.slice ad nd cd) := hRd.weak fun b hb => by
            rcases hb with (hb | hb) | hb
            · exact .inl hb
            · exact .inr ⟨hb.1, by omega⟩
            · exact .inr ⟨by have := hb.1; simp at this; omega, hb.2⟩
          have hok4 : ∀ b, okU ok w0.heap.size w4 b → b < w4.heap.size ∧ b ≠ w.heap.size := fun b hb => by rcases hb with hb | hb <;> first | omega | (have := hok b hb; omega)
          have hHa4 : ∀ (o : Obj) (i : Nat), (w4.alloc o).cell? ⟨w.heap.size, i, none⟩ = #[.slice ac nc cc, .int .i64 h2.made, .int .i64 h2.used, .int .i64 h2.live, .int .i64 h2.peak][i]? := fun o i => (World.cell?_alloc_lt w4 o ⟨w.heap.size, i, none⟩ (by dsimp only; omega)).trans (hH4 i)
          have hHg4 : ∀ (o : Obj) (i : Nat), (w4.alloc o).frozen? ⟨w.heap.size, i, none⟩ = false := fun o i => (World.frozen?_of_block (w := w4) (a := ⟨w.heap.size, i, none⟩) (Below.heap_alloc w4 o _ (by dsimp only; omega))).trans (hHf4 i)
          have hQa4 : ∀ (o : Obj) (i : Nat), (w4.alloc o).cell? ⟨w.heap.size + 1 + 1, i, none⟩ = #[.slice none 0 0, .int .i64 0, .int .i64 0, .int .i64 0, .int .i64 0][i]? := fun o i => (World.cell?_alloc_lt w4 o ⟨w.heap.size + 1 + 1, i, none⟩ (by dsimp only; omega)).trans (hq4 i)
          have hQg4 : ∀ (o : Obj) (i : Nat), (w4.alloc o).frozen? ⟨w.heap.size + 1 + 1, i, none⟩ = false := fun o i => (World.frozen?_of_block (w := w4) (a := ⟨w.heap.size + 1 + 1, i, none⟩) (Below.heap_alloc w4 o _ (by dsimp only; omega))).trans (hqf4 i)
          clear hqr hqfr hhr hha d0 d1 hb4 hRd
          by_cases hz : (h2.dup y).2 = 0
          · have hz' : ((h2.dup y).2 != 0) = false := by simpa using hz
            have HL4 : Hid (x.slots = (ps ++ [y]) ++ qs ∧ (h.put s.n { x with count := x.count - 1 }).dups x.slots = (h2.dup y).1.dups qs) := ⟨by rw [HL.out.1]; simp, by rw [HL.out.2, Hp.dups, if_pos hz]⟩
            have HO4 : Hid ((h2.dup y).1.Ok (M + 1 + ((ps ++ [y]).length : Nat))) := by
              have := HOr.out.dup (by omega) y
              rw [Hid]
              refine this.mono ?_
              simp
              omega
            have HR4 := Lib.hid (And.intro hR4 (And.intro hRd4 (And.intro hHB4 (And.intro hQ4 hb4'))))
            clear hz hR4 hRd4 hRr hRh hHr hQr hHB4 hQ4 hb4' HL HOr
            go_wp2_with fail
            go_roundw
            case rel =>
              obtain ⟨hR4, hRd4, hHB4, hQ4, hb4'⟩ := HR4.out
              refine ⟨ps ++ [y], qs, (h2.dup y).1, ad, nd, cd, HL4, by simp, ?_, ?_, HO4, ?_, ?_, ?_, ?_⟩
              · exact (((((hHB4.alloc _).set_ 0 _).set_ 1 _).set_ 2 _).set_ 3 _).set_ 4 _
              · refine Rep.weak (ok := okU ok w0.heap.size w4) ?_ (fun b hb => hb.imp id fun h => ⟨h.1, by simp; omega⟩)
                iterate 5 refine Rep.setCell ?_ _ (fun b hb => (hok4 b hb).2)
                exact hRd4.alloc _ (fun b hb => (hok4 b hb).1)
              · refine Rep.weak (ok := okU ok w0.heap.size wr) ?_ (fun b hb => hb.imp id fun h => ⟨h.1, by simp; omega⟩)
                iterate 5 refine Rep.setCell ?_ _ (fun b hb => by dsimp only; rcases hb with hb | hb <;> first | omega | (have := hok b hb; omega))
                exact hR4.alloc _ (fun b hb => by have := hokr b hb; omega)
              · exact (((((hb4'.alloc hb4'.size _).setCell (by simp) _).setCell (by simp) _).setCell (by simp) _).setCell (by simp) _).setCell (by simp) _
              · simp; omega
              · exact (((((hQ4.alloc _).far (by dsimp only; omega) _).far (by dsimp only; omega) _).far (by dsimp only; omega) _).far (by dsimp only; omega) _).far (by dsimp only; omega) _
            case measure => simp [intOf]; omega
          · have hz' : ((h2.dup y).2 != 0) = true := by simpa using hz
            have HE : Hid (h.open s keep = (Hp.zero, false, 14)) := by
              rw [Hid, Hp.open, if_pos HT.out, HX.out]
              simp only [H1.out, if_false, HL.out.2, Hp.dups, if_neg hz]
              simp
            have HE2 : Hid ((h2.dup y).2 = 14) := by rw [Hid, Hp.dup_bad hz]
            have HQ4 := Lib.hid hb4'
            clear hz hR4 hRd4 hRr hRh hHr hQr hHB4 hQ4 hb4' HL HOr
            go_wp2_with fail
            refine bodyPost_ret (v := .tuple #[.agg #[.slice none 0 0, .int .i64 0, .int .i64 0, .int .i64 0, .int .i64 0], .bool false, .int .i64 (h2.dup y).2]) (by simp [results, Try.results30, go_sem, hQa4]) rfl ?_
            refine ⟨_, by rw [HE.out, HE2.out], by rw [HE.out]; exact HpRet.zero, ?_⟩
            have hb5 := HQ4.out
            exact ((((((hb5.alloc hb5.size _).setCell (by simp; omega) _).setCell (by simp; omega) _).setCell (by simp; omega) _).setCell (by simp; omega) _).setCell (by simp; omega) _)
  · have ht' : h.there s = false := by simpa using ht
    have HE : Hid (h.open s keep = (Hp.zero, false, 14)) := by rw [Hid, Hp.open, if_neg ht]
    clear ht
    go_wp2_with fail
    refine bodyPost_ret (v := .tuple #[.agg #[.slice none 0 0, .int .i64 0, .int .i64 0, .int .i64 0, .int .i64 0], .bool false, .int .i64 14]) (by simp [results, Try.results30, go_sem, hq0]) rfl ?_
    refine ⟨_, by rw [HE.out], by rw [HE.out]; exact HpRet.zero, ?_⟩
    exact (((((hbw0.setCell (by simp; omega) _).setCell (by simp; omega) _).setCell (by simp; omega) _).setCell (by simp; omega) _).setCell (by simp; omega) _)
end Go.Proofs.Ytcakhebnebcpcaa
