/- xcref10.Free. -/
import Derived.Test.YtcakhebnebcpcaaHeapI
namespace Go.Proofs.Ytcakhebnebcpcaa
open Go.RowKit
set_option linter.unusedVariables false

set_option maxHeartbeats 1000000 in
theorem ref_Free (h : Hp) (s : Slt) (M : Int) (ok : Nat → Prop) (a : Option Addr) (n c : Nat) (w : World) (hM : M ≤ 1000000) (hO : h.Ok M) (hok : ∀ b, ok b → b < w.heap.size) (hR : Rep w ok (.sl (h.cells.map Cll.row)) (.slice a n c)) :
    Calls Try.prog 26 #[.agg #[.slice a n c, .int .i64 h.made, .int .i64 h.used, .int .i64 h.live, .int .i64 h.peak], .agg #[.int .i64 s.kind, .int .i64 s.n]] w (FreeSaid h s ok w) := by
  have hn := hR.len_inv.1
  rw [List.length_map] at hn
  have hlen := hO.len
  have hsl : ∀ x ∈ h.cells, x.slots.length ≤ 8796093022208 := fun x hx => by have := hO.slots x hx; omega
  have hokB : ∀ (o1 o2 o3 : Obj), ∀ b, ok b → b < (((w.alloc o1).alloc o2).alloc o3).heap.size := fun _ _ _ b hb => by have := hok b hb; simp; omega
  have HN := Lib.hid hn
  have HO := Lib.hid hO
  clear hn hO
  go_enter Try.func26, Try.ntmps26
  go_wp2_with fail
  refine (ref_Own h.cells h.made h.used h.live h.peak ok a n c _ HN.out (by have := HN.out; omega) hsl (hokB _ _ _) (((hR.alloc _ hok).alloc _ (fun b hb => by have := hok b hb; simp; omega)).alloc _ (fun b hb => by have := hok b hb; simp; omega))).mono ?_
  rintro e w1 ⟨a', c', rfl, hA, hb1⟩
  have hS := (Blk.under ((Blk.new' (w.alloc _) 24 #[.int .i64 s.kind, .int .i64 s.n] (w.heap.size + 1) (by simp)).alloc _) hb1 (by simp))
  have hQ := Blk.under (Blk.new' ((w.alloc _).alloc _) 28 #[.slice none 0 0, .int .i64 0, .int .i64 0, .int .i64 0, .int .i64 0] (w.heap.size + 1 + 1) (by simp)) hb1 (by simp)
  have hH := Blk.under (((Blk.new w 28 #[.slice a n c, .int .i64 h.made, .int .i64 h.used, .int .i64 h.live, .int .i64 h.peak]).alloc _).alloc _) hb1 (by simp; omega)
  have hbw : Below w.heap.size w w1 := ((((Below.refl _ w).alloc (Nat.le_refl _) _).alloc (by simp) _).alloc (by simp; omega) _).trans (hb1.mono (by simp; omega))
  have hsz : w.heap.size + 3 ≤ w1.heap.size := by have := hb1.size; simp at this; omega
  have hA1 : Arr w1 (w.heap.size + 3) 51 3 (okU ok (w.heap.size + 3) w1) (.slice a' n c') (h.cells.map Cll.row) := by simpa using hA
  have hok1 : ∀ b, okU ok (w.heap.size + 3) w1 b → b < w1.heap.size ∧ b ≠ w.heap.size ∧ b ≠ w.heap.size + 1 ∧ b ≠ w.heap.size + 1 + 1 := fun b hb => by rcases hb with hb | hb <;> first | omega | (have := hok b hb; omega)
  have hsc := hS.cell
  have hhc := hH.cell
  have hhf := hH.frozen
  have hqc := hQ.cell
  have hqf := hQ.frozen
  clear hA hb1
  have hown := hA1.own
  obtain ⟨W, hW⟩ : ∃ W, W = (((((w1.setCell ⟨w.heap.size, 0, none⟩ (.slice a' n c')).setCell ⟨w.heap.size, 1, none⟩ (.int .i64 h.made)).setCell ⟨w.heap.size, 2, none⟩ (.int .i64 h.used)).setCell ⟨w.heap.size, 3, none⟩ (.int .i64 h.live)).setCell ⟨w.heap.size, 4, none⟩ (.int .i64 h.peak)) := ⟨_, rfl⟩
  have hWA : Arr W (w.heap.size + 3) 51 3 (okU ok (w.heap.size + 3) w1) (.slice a' n c') (h.cells.map Cll.row) := by
    rw [hW]
    iterate 5 refine Arr.setCell ?_ _ (fun e => by have := (hown _ e).1; dsimp only at this; omega) (fun b hb => by have := hok1 b hb; dsimp only; omega)
    exact hA1
  have hWH : Blk W w.heap.size 28 #[.slice a' n c', .int .i64 h.made, .int .i64 h.used, .int .i64 h.live, .int .i64 h.peak] := by
    rw [hW]
    exact ((((hH.set_ 0 _).set_ 1 _).set_ 2 _).set_ 3 _).set_ 4 _
  have hWS : Blk W (w.heap.size + 1) 24 #[.int .i64 s.kind, .int .i64 s.n] := by
    rw [hW]
    exact ((((hS.far (by dsimp only; omega) _).far (by dsimp only; omega) _).far (by dsimp only; omega) _).far (by dsimp only; omega) _).far (by dsimp only; omega) _
  have hWQ : Blk W (w.heap.size + 1 + 1) 28 #[.slice none 0 0, .int .i64 0, .int .i64 0, .int .i64 0, .int .i64 0] := by
    rw [hW]
    exact ((((hQ.far (by dsimp only; omega) _).far (by dsimp only; omega) _).far (by dsimp only; omega) _).far (by dsimp only; omega) _).far (by dsimp only; omega) _
  have hWb : Below w.heap.size w W := by
    rw [hW]
    exact (((((hbw.setCell (by simp) _).setCell (by simp) _).setCell (by simp) _).setCell (by simp) _).setCell (by simp) _)
  have hWs : W.heap.size = w1.heap.size := by rw [hW]; simp
  have HW := Lib.hid hW
  clear hW
  have hWR : Rep W (okU ok (w.heap.size + 3) w1) (.sl (h.cells.map Cll.row)) (.slice a' n c') := hWA.rep (fun b h1 h2 => .inr ⟨h1, by omega⟩) (fun b hb => hb)
  by_cases hk : s.kind = 2
  · have hk' : (s.kind != 2) = false := by simpa using hk
    have HK := Lib.hid hk
    clear hk
    go_wp2_with fail
    have hW' := HW.out
    rw [← hW']
    clear hW' HW hsc hhc hhf hqc hqf
    refine (ref_kept h s (okU ok (w.heap.size + 3) w1) a' n c' W (fun b hb => by have := hok1 b hb; omega) hWR).mono ?_
    rintro e w2 ⟨rfl, hb2⟩
    have hS2 := (hWS.under hb2 hWS.lt).cell
    have hHB := (hWH.under hb2 hWH.lt)
    have hH2 := hHB.cell
    have hHf := hHB.frozen
    have hQ2 := hWQ.under hb2 hWQ.lt
    have hq2 := hQ2.cell
    have hqf2 := hQ2.frozen
    have hA2 := hWA.under hb2 (Nat.le_refl _) (fun b hb => by have := hok1 b hb; omega)
    have hbW2 : Below w.heap.size w w2 := hWb.trans (hb2.mono hWb.size)
    have hs2 : w1.heap.size ≤ w2.heap.size := by have := hb2.size; omega
    by_cases ht : h.kept s = true
    · obtain ⟨x, hx, hxc⟩ := Hp.kept_some ht
      have HE : Hid (h.free s = ({ h.put s.n Cll.zero with live := h.live - 1 }, 0)) := by rw [Hid, Hp.free, if_pos HK.out, if_pos ht]
      obtain ⟨h0, h1, ys, zs, hl, hky⟩ := Hp.at_some hx
      rw [← HN.out] at h1
      obtain ⟨g, sa, sc, rfl, hbg, hgs, c0, c1, c2, hf, _⟩ := Arr.cll hA2 hl
      rw [hky] at c0 c1 c2
      have hne : g ≠ w.heap.size := by omega
      have hne' : g ≠ w.heap.size + 1 + 1 := by omega
      have hne'' : g ≠ w.heap.size + 1 := by omega
      have hlv := HO.out.live
      have HH := Lib.hid (And.intro hl hky)
      have HA2 := Lib.hid hA2
      clear hx hxc hl hky hA2 hWA hA1 hWR
      go_wp2_with fail
      refine bodyPost_ret (v := .tuple #[.agg #[.slice (some ⟨g, 0, none⟩) n c', .int .i64 h.made, .int .i64 h.used, .int .i64 (h.live - 1), .int .i64 h.peak], .int .i64 0]) (by simp [results, Try.results26, go_sem, hq2]) rfl ?_
      obtain ⟨hl, hky⟩ := HH.out
      have hA3 := HA2.out
      rw [hl] at hA3
      have hA4 := hA3.cll_put Cll.zero (.slice none 0 0) (by simp [Cll.zero]) (by simp [Cll.zero]) (.empty none 0 (fun _ => rfl) (Nat.zero_le _))
      rw [hky, ← Hp.put_split hl hky] at hA4
      have hB5 : HpBox ((((w2.setCell ⟨g, s.n.toNat * 3, none⟩ (.int .i64 0)).setCell ⟨g, s.n.toNat * 3 + 1, none⟩ (.int .i64 0)).setCell ⟨g, s.n.toNat * 3 + 2, none⟩ (.slice none 0 0)).setCell ⟨w.heap.size, 3, none⟩ (.int .i64 (h.live - 1)))
          w.heap.size (w.heap.size + 3) (okU ok (w.heap.size + 3) w1) (some ⟨g, 0, none⟩) n c' { h.put s.n Cll.zero with live := h.live - 1 } :=
        ⟨(((hHB.far hne.symm _).far hne.symm _).far hne.symm _).set_ 3 _, hA4.setCell _ (by simp [Value.ownBlock]; exact hne) (fun b hb => by have := hok1 b hb; dsimp only; omega)⟩
      have hfin := ret5_box (q := w.heap.size + 1 + 1) hok (by omega) (by omega) ((((hbW2.setCell (by dsimp only; omega) _).setCell (by dsimp only; omega) _).setCell (by dsimp only; omega) _).setCell (by dsimp only; omega) _) hB5 (fun b hb => hb.imp id fun h => ⟨h.1, by simp; omega⟩)
        (.slice (some ⟨g, 0, none⟩) n c') (.int .i64 h.made) (.int .i64 h.used) (.int .i64 (h.live - 1)) (.int .i64 h.peak)
      exact ⟨_, by rw [HE.out], by rw [HE.out]; exact hfin.1, hfin.2⟩
    · have ht' : h.kept s = false := by simpa using ht
      have HE : Hid (h.free s = (Hp.zero, 14)) := by rw [Hid, Hp.free, if_pos HK.out, if_neg ht]
      clear ht
      go_wp2_with fail
      refine bodyPost_ret (v := .tuple #[.agg #[.slice none 0 0, .int .i64 0, .int .i64 0, .int .i64 0, .int .i64 0], .int .i64 14]) (by simp [results, Try.results26, go_sem, hq2]) rfl ?_
      refine ⟨_, by rw [HE.out], by rw [HE.out]; exact HpRet.zero, ?_⟩
      exact (((((hbW2.setCell (by simp; omega) _).setCell (by simp; omega) _).setCell (by simp; omega) _).setCell (by simp; omega) _).setCell (by simp; omega) _)
  · have hk' : (s.kind != 2) = true := by simpa using hk
    have HE : Hid (h.free s = (h, 0)) := by simp [Hid, Hp.free, hk]
    clear hk
    go_wp2_with fail
    have hW' := HW.out
    rw [← hW']
    clear hW' HW hsc hhc hhf hqc hqf
    have hq2 := hWQ.cell
    refine bodyPost_ret (v := .tuple #[.agg #[.slice a' n c', .int .i64 h.made, .int .i64 h.used, .int .i64 h.live, .int .i64 h.peak], .int .i64 0]) (by simp [results, Try.results26, go_sem, hq2]) rfl ?_
    have hfin := ret5 (q := w.heap.size + 1 + 1) (h := h) hok (by omega) (by omega) hWb (hWR.weak (ok' := fun b => ok b ∨ (w.heap.size + 3 ≤ b ∧ b < W.heap.size)) (fun b hb => hb.imp id fun h => ⟨h.1, by omega⟩))
      (.slice a' n c') (.int .i64 h.made) (.int .i64 h.used) (.int .i64 h.live) (.int .i64 h.peak)
    exact ⟨_, by rw [HE.out], by rw [HE.out]; exact hfin.1, hfin.2⟩
end Go.Proofs.Ytcakhebnebcpcaa
