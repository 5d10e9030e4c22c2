/- xcref10.Dup. -/
import Derived.Test.YtcakhebnebcpcaaHeapG
namespace Go.Proofs.Ytcakhebnebcpcaa
open Go.RowKit
set_option linter.unusedVariables false

theorem Hp.dup_there {h : Hp} {s : Slt} (hk : s.kind = 2) : h.dup s = if h.there s = true then ((match h.at s.n with | some x => (h.put s.n { x with count := x.count + 1 }, 0) | none => (Hp.zero, 14) : Hp × Int)) else (Hp.zero, 14) := by
  unfold Hp.dup Hp.there
  rw [if_pos hk]
  rcases hx : h.at s.n with _ | x
  · simp
  · by_cases hc : 1 ≤ x.count
    · have : 0 < x.count := by omega
      simp [hk, hc, this]
    · have : ¬ 0 < x.count := by omega
      simp [hk, hc, this]

set_option maxHeartbeats 1000000 in
theorem ref_Dup (h : Hp) (s : Slt) (M : Int) (ok : Nat → Prop) (a : Option Addr) (n c : Nat) (w : World) (hM : M ≤ 1000000) (hO : h.Ok M) (hok : ∀ b, ok b → b < w.heap.size) (hR : Rep w ok (.sl (h.cells.map Cll.row)) (.slice a n c)) :
    Calls Try.prog 20 #[.agg #[.slice a n c, .int .i64 h.made, .int .i64 h.used, .int .i64 h.live, .int .i64 h.peak], .agg #[.int .i64 s.kind, .int .i64 s.n]] w (DupSaid h s ok w) := by
  have hn := hR.len_inv.1
  rw [List.length_map] at hn
  have hlen := hO.len
  have hsl : ∀ x ∈ h.cells, x.slots.length ≤ 8796093022208 := fun x hx => by have := hO.slots x hx; omega
  have hokB : ∀ (o1 o2 o3 : Obj), ∀ b, ok b → b < (((w.alloc o1).alloc o2).alloc o3).heap.size := fun _ _ _ b hb => by have := hok b hb; simp; omega
  have HN := Lib.hid hn
  have HO := Lib.hid hO
  clear hn hO
  go_enter Try.func20, Try.ntmps20
  go_wp2_with fail
  refine (ref_Own h.cells h.made h.used h.live h.peak ok a n c _ HN.out (by have := HN.out; omega) hsl (hokB _ _ _) (((hR.alloc _ hok).alloc _ (fun b hb => by have := hok b hb; simp; omega)).alloc _ (fun b hb => by have := hok b hb; simp; omega))).mono ?_
  rintro e w1 ⟨a', c', rfl, hA, hb1⟩
  have hS := (Blk.under ((Blk.new' (w.alloc _) 24 #[.int .i64 s.kind, .int .i64 s.n] (w.heap.size + 1) (by simp)).alloc _) hb1 (by simp))
  have hQ := Blk.under (Blk.new' ((w.alloc _).alloc _) 28 #[.slice none 0 0, .int .i64 0, .int .i64 0, .int .i64 0, .int .i64 0] (w.heap.size + 1 + 1) (by simp)) hb1 (by simp)
  have hH := Blk.under (((Blk.new w 28 #[.slice a n c, .int .i64 h.made, .int .i64 h.used, .int .i64 h.live, .int .i64 h.peak]).alloc _).alloc _) hb1 (by simp; omega)
  have hbw : Below w.heap.size w w1 := ((((Below.refl _ w).alloc (Nat.le_refl _) _).alloc (by simp) _).alloc (by simp; omega) _).trans (hb1.mono (by simp; omega))
  have hsz : w.heap.size + 3 ≤ w1.heap.size := by have := hb1.size; simp at this; omega
  have hA1 : Arr w1 (w.heap.size + 3) 51 3 (okU ok (w.heap.size + 3) w1) (.slice a' n c') (h.cells.map Cll.row) := by simpa using hA
  have hok1 : ∀ b, okU ok (w.heap.size + 3) w1 b → b < w1.heap.size ∧ b ≠ w.heap.size ∧ b ≠ w.heap.size + 1 ∧ b ≠ w.heap.size + 1 + 1 := fun b hb => by rcases hb with hb | hb <;> first | omega | (have := hok b hb; omega)
  have hsc := hS.cell
  have hhc := hH.cell
  have hhf := hH.frozen
  have hqc := hQ.cell
  have hqf := hQ.frozen
  clear hA hb1
  have hown := hA1.own
  obtain ⟨W, hW⟩ : ∃ W, W = (((((w1.setCell ⟨w.heap.size, 0, none⟩ (.slice a' n c')).setCell ⟨w.heap.size, 1, none⟩ (.int .i64 h.made)).setCell ⟨w.heap.size, 2, none⟩ (.int .i64 h.used)).setCell ⟨w.heap.size, 3, none⟩ (.int .i64 h.live)).setCell ⟨w.heap.size, 4, none⟩ (.int .i64 h.peak)) := ⟨_, rfl⟩
  have hWA : Arr W (w.heap.size + 3) 51 3 (okU ok (w.heap.size + 3) w1) (.slice a' n c') (h.cells.map Cll.row) := by
    rw [hW]
    iterate 5 refine Arr.setCell ?_ _ (fun e => by have := (hown _ e).1; dsimp only at this; omega) (fun b hb => by have := hok1 b hb; dsimp only; omega)
    exact hA1
  have hWH : Blk W w.heap.size 28 #[.slice a' n c', .int .i64 h.made, .int .i64 h.used, .int .i64 h.live, .int .i64 h.peak] := by
    rw [hW]
    exact ((((hH.set_ 0 _).set_ 1 _).set_ 2 _).set_ 3 _).set_ 4 _
  have hWS : Blk W (w.heap.size + 1) 24 #[.int .i64 s.kind, .int .i64 s.n] := by
    rw [hW]
    exact ((((hS.far (by dsimp only; omega) _).far (by dsimp only; omega) _).far (by dsimp only; omega) _).far (by dsimp only; omega) _).far (by dsimp only; omega) _
  have hWQ : Blk W (w.heap.size + 1 + 1) 28 #[.slice none 0 0, .int .i64 0, .int .i64 0, .int .i64 0, .int .i64 0] := by
    rw [hW]
    exact ((((hQ.far (by dsimp only; omega) _).far (by dsimp only; omega) _).far (by dsimp only; omega) _).far (by dsimp only; omega) _).far (by dsimp only; omega) _
  have hWb : Below w.heap.size w W := by
    rw [hW]
    exact (((((hbw.setCell (by simp) _).setCell (by simp) _).setCell (by simp) _).setCell (by simp) _).setCell (by simp) _)
  have hWs : W.heap.size = w1.heap.size := by rw [hW]; simp
  have HW := Lib.hid hW
  clear hW
  have hWR : Rep W (okU ok (w.heap.size + 3) w1) (.sl (h.cells.map Cll.row)) (.slice a' n c') := hWA.rep (fun b h1 h2 => .inr ⟨h1, by omega⟩) (fun b hb => hb)
  have fin : ∀ (W2 : World) (h2 : Hp), Below W.heap.size W W2 ∨ Below (w.heap.size + 3) W W2 → Rep W2 (okU ok (w.heap.size + 3) w1) (.sl (h2.cells.map Cll.row)) (.slice a' n c') → True := fun _ _ _ _ => trivial
  clear fin
  by_cases hk : s.kind = 2
  · have hk' : (s.kind == 2) = true := by simpa using hk
    have HK := Lib.hid hk
    clear hk
    go_wp2_with fail
    have hW' := HW.out
    rw [← hW']
    clear hW' HW hsc hhc hhf hqc hqf
    refine (ref_There h s (okU ok (w.heap.size + 3) w1) a' n c' W (fun b hb => by have := hok1 b hb; omega) hWR).mono ?_
    rintro e w2 ⟨rfl, hb2⟩
    have hS2 := (hWS.under hb2 hWS.lt).cell
    have hH2 := (hWH.under hb2 hWH.lt).cell
    have hQ2 := hWQ.under hb2 hWQ.lt
    have hq2 := hQ2.cell
    have hqf2 := hQ2.frozen
    have hA2 := hWA.under hb2 (Nat.le_refl _) (fun b hb => by have := hok1 b hb; omega)
    have hbW2 : Below w.heap.size w w2 := hWb.trans (hb2.mono hWb.size)
    have hs2 : w1.heap.size ≤ w2.heap.size := by have := hb2.size; omega
    by_cases ht : h.there s = true
    · rcases hx : h.at s.n with _ | x
      · simp [Hp.there, hx] at ht
      · have HE : Hid (h.dup s = (h.put s.n { x with count := x.count + 1 }, 0)) := by rw [Hid, Hp.dup_there HK.out, if_pos ht, hx]
        obtain ⟨h0, h1, ys, zs, hl, hky⟩ := Hp.at_some hx
        rw [← HN.out] at h1
        have hcb := (HO.out.count x (by rw [hl]; simp))
        obtain ⟨g, sa, sc, rfl, hbg, hgs, c0, _, _, hf, _⟩ := Arr.cll hA2 hl
        rw [hky] at c0
        have HH := Lib.hid (And.intro hx (And.intro hl hky))
        have HA2 := Lib.hid hA2
        clear hx hl hky hA2 hWA hA1 hWR
        go_wp2_with fail
        refine bodyPost_ret (v := .tuple #[.agg #[.slice (some ⟨g, 0, none⟩) n c', .int .i64 h.made, .int .i64 h.used, .int .i64 h.live, .int .i64 h.peak], .int .i64 0]) (by simp [results, Try.results20, go_sem, hq2]) rfl ?_
        obtain ⟨_, hl, hky⟩ := HH.out
        have hA3 := HA2.out
        rw [hl] at hA3
        have hA4 := hA3.cll_count (x.count + 1) (by omega) (by omega)
        rw [hky, ← Hp.put_split hl hky] at hA4
        have hR4 := hA4.rep (ok' := fun b => okU ok (w.heap.size + 3) w2 b) (fun b h1 h2 => .inr ⟨h1, by simpa using h2⟩) (fun b hb => hb.imp id fun h => ⟨h.1, by omega⟩)
        refine ⟨_, by rw [HE.out], ?_, ?_⟩
        · rw [HE.out]
          refine ⟨_, n, c', rfl, ?_⟩
          refine Rep.weak (ok := okU ok (w.heap.size + 3) w2) ?_ (fun b hb => hb.imp id fun h => ⟨by omega, by simp; omega⟩)
          iterate 5 refine Rep.setCell ?_ _ (fun b hb => by rcases hb with hb | hb <;> dsimp only <;> first | omega | (have := hok b hb; omega))
          exact hR4
        · exact ((((((hbW2.setCell (by dsimp only; omega) _).setCell (by simp; omega) _).setCell (by simp; omega) _).setCell (by simp; omega) _).setCell (by simp; omega) _).setCell (by simp; omega) _)
    · have ht' : h.there s = false := by simpa using ht
      have HE : Hid (h.dup s = (Hp.zero, 14)) := by rw [Hid, Hp.dup_there HK.out, if_neg ht]
      clear ht
      go_wp2_with fail
      refine bodyPost_ret (v := .tuple #[.agg #[.slice none 0 0, .int .i64 0, .int .i64 0, .int .i64 0, .int .i64 0], .int .i64 14]) (by simp [results, Try.results20, go_sem, hq2]) rfl ?_
      refine ⟨_, by rw [HE.out], by rw [HE.out]; exact HpRet.zero, ?_⟩
      exact (((((hbW2.setCell (by simp; omega) _).setCell (by simp; omega) _).setCell (by simp; omega) _).setCell (by simp; omega) _).setCell (by simp; omega) _)
  · have hk' : (s.kind == 2) = false := by simpa using hk
    have HE : Hid (h.dup s = (h, 0)) := by simp [Hid, Hp.dup, hk]
    clear hk
    go_wp2_with fail
    have hW' := HW.out
    rw [← hW']
    clear hW' HW hsc hhc hhf hqc hqf
    have hq2 := hWQ.cell
    refine bodyPost_ret (v := .tuple #[.agg #[.slice a' n c', .int .i64 h.made, .int .i64 h.used, .int .i64 h.live, .int .i64 h.peak], .int .i64 0]) (by simp [results, Try.results20, go_sem, hq2]) rfl ?_
    refine ⟨_, by rw [HE.out], ?_, ?_⟩
    · rw [HE.out]
      refine ⟨a', n, c', rfl, ?_⟩
      refine Rep.weak (ok := okU ok (w.heap.size + 3) w1) ?_ (fun b hb => hb.imp id fun h => ⟨by omega, by simp; omega⟩)
      iterate 5 refine Rep.setCell ?_ _ (fun b hb => by have := hok1 b hb; dsimp only; omega)
      exact hWR
    · exact (((((hWb.setCell (by simp; omega) _).setCell (by simp; omega) _).setCell (by simp; omega) _).setCell (by simp; omega) _).setCell (by simp; omega) _)
end Go.Proofs.Ytcakhebnebcpcaa
