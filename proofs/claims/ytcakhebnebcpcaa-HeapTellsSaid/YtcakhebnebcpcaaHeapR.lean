/- heap.Use. -/
import Derived.Test.YtcakhebnebcpcaaHeapQ
namespace Go.Proofs.Ytcakhebnebcpcaa
open Go.RowKit
set_option linter.unusedVariables false

/-- A cell in a token's room. -/
def Hp.use (h : Hp) (s : Slt) (tag : Int) (l : List Slt) : Hp × Slt × Int :=
  if s.kind = 2 then
    if h.kept s = true then ({ h.put s.n ⟨1, tag, l⟩ with used := h.used + 1 }, s, 0) else (Hp.zero, ⟨0, 0⟩, 14)
  else h.make tag l
def UseSaid (h : Hp) (s : Slt) (tag : Int) (l : List Slt) (ok : Nat → Prop) (w : World) (e : Ending) (w' : World) : Prop :=
  ∃ v, e = .returned (.tuple #[v, .agg #[.int .i64 (h.use s tag l).2.1.kind, .int .i64 (h.use s tag l).2.1.n], .int .i64 (h.use s tag l).2.2]) ∧ HpRet w w' ok v (h.use s tag l).1 ∧ Below w.heap.size w w'

theorem use_rep7 {w w1 : World} {ok : Nat → Prop} {d : D} {v : Value} (hok : ∀ b, ok b → b < w.heap.size) (hR : Rep w1 (fun b => ok b ∨ (w.heap.size + 4 ≤ b ∧ b < w1.heap.size)) d v) (v0 v1 v2 v3 v4 v5 v6 : Value) :
    Rep (((((((w1.setCell ⟨w.heap.size + 1 + 1, 0, none⟩ v0).setCell ⟨w.heap.size + 1 + 1, 1, none⟩ v1).setCell ⟨w.heap.size + 1 + 1, 2, none⟩ v2).setCell ⟨w.heap.size + 1 + 1, 3, none⟩ v3).setCell ⟨w.heap.size + 1 + 1, 4, none⟩ v4).setCell ⟨w.heap.size + 1 + 1 + 1, 0, none⟩ v5).setCell ⟨w.heap.size + 1 + 1 + 1, 1, none⟩ v6)
      (okU ok w.heap.size (((((((w1.setCell ⟨w.heap.size + 1 + 1, 0, none⟩ v0).setCell ⟨w.heap.size + 1 + 1, 1, none⟩ v1).setCell ⟨w.heap.size + 1 + 1, 2, none⟩ v2).setCell ⟨w.heap.size + 1 + 1, 3, none⟩ v3).setCell ⟨w.heap.size + 1 + 1, 4, none⟩ v4).setCell ⟨w.heap.size + 1 + 1 + 1, 0, none⟩ v5).setCell ⟨w.heap.size + 1 + 1 + 1, 1, none⟩ v6)) d v := by
  refine Rep.weak (ok := fun b => ok b ∨ (w.heap.size + 4 ≤ b ∧ b < w1.heap.size)) ?_ (fun b hb => hb.imp id fun h => ⟨by omega, by simp; omega⟩)
  iterate 7 refine Rep.setCell ?_ _ (fun b hb => by dsimp only; rcases hb with hb | hb <;> first | omega | (have := hok b hb; omega))
  exact hR

set_option maxHeartbeats 1000000 in
theorem heap_Use (h : Hp) (s : Slt) (tag : Int) (l : List Slt) (M : Int) (ok : Nat → Prop) (a : Option Addr) (n c : Nat) (la : Option Addr) (ln lc : Nat) (w : World) (hM : M ≤ 1000000) (hO : h.Ok M) (ht : -9223372036854775808 ≤ tag ∧ tag ≤ 9223372036854775807) (hl : ln = l.length) (hlb : ln ≤ 8796093022208)
    (hok : ∀ b, ok b → b < w.heap.size) (hR : Rep w ok (.sl (h.cells.map Cll.row)) (.slice a n c)) (hL : Rep w ok (.sl (l.map Slt.row)) (.slice la ln lc)) :
    Calls Try.prog 17 #[.agg #[.slice a n c, .int .i64 h.made, .int .i64 h.used, .int .i64 h.live, .int .i64 h.peak], .agg #[.int .i64 s.kind, .int .i64 s.n], .int .i64 tag, .slice la ln lc] w (UseSaid h s tag l ok w) := by
  have hn := hR.len_inv.1
  rw [List.length_map] at hn
  have hlen := hO.len
  have hsl : ∀ x ∈ h.cells, x.slots.length ≤ 8796093022208 := fun x hx => by have := hO.slots x hx; omega
  have hus := hO.used
  have HN := Lib.hid hn
  have HO := Lib.hid hO
  have HLn := Lib.hid hl
  clear hn hO hl
  have hR4 : ∀ o1 o2 o3 o4 : Obj, Rep ((((w.alloc o1).alloc o2).alloc o3).alloc o4) ok (.sl (h.cells.map Cll.row)) (.slice a n c) := fun _ _ _ _ => (((hR.alloc _ hok).alloc _ (fun b hb => by have := hok b hb; simp; omega)).alloc _ (fun b hb => by have := hok b hb; simp; omega)).alloc _ (fun b hb => by have := hok b hb; simp; omega)
  have hL4 : ∀ o1 o2 o3 o4 : Obj, Rep ((((w.alloc o1).alloc o2).alloc o3).alloc o4) ok (.sl (l.map Slt.row)) (.slice la ln lc) := fun _ _ _ _ => (((hL.alloc _ hok).alloc _ (fun b hb => by have := hok b hb; simp; omega)).alloc _ (fun b hb => by have := hok b hb; simp; omega)).alloc _ (fun b hb => by have := hok b hb; simp; omega)
  have hok4 : ∀ o1 o2 o3 o4 : Obj, ∀ b, ok b → b < ((((w.alloc o1).alloc o2).alloc o3).alloc o4).heap.size := fun _ _ _ _ b hb => by have := hok b hb; simp; omega
  by_cases hk : s.kind = 2
  · have hk' : (s.kind != 2) = false := by simpa using hk
    have HK := Lib.hid hk
    clear hk
    go_enter Try.func17, Try.ntmps17
    go_wp2_with fail
    refine (heap_Own' h.cells h.made h.used h.live h.peak ok a n c _ HN.out (by have := HN.out; omega) hsl (hok4 _ _ _ _) (hR4 _ _ _ _)).mono ?_
    rintro e w1 ⟨a', c', rfl, hA, hb1⟩
    have hS := Blk.under (((Blk.new' (w.alloc _) 24 #[.int .i64 s.kind, .int .i64 s.n] (w.heap.size + 1) (by simp)).alloc _).alloc _) hb1 (by first | (simp; done) | (simp; omega))
    have hQ := Blk.under ((Blk.new' ((w.alloc _).alloc _) 28 #[.slice none 0 0, .int .i64 0, .int .i64 0, .int .i64 0, .int .i64 0] (w.heap.size + 1 + 1) (by simp)).alloc _) hb1 (by simp)
    have hZ := Blk.under (Blk.new' (((w.alloc _).alloc _).alloc _) 24 #[.int .i64 0, .int .i64 0] (w.heap.size + 1 + 1 + 1) (by simp)) hb1 (by simp)
    have hbw : Below w.heap.size w w1 := (((((Below.refl _ w).alloc (Nat.le_refl _) _).alloc (by simp) _).alloc (by simp; omega) _).alloc (by simp; omega) _).trans (hb1.mono (by simp; omega))
    have hsz : w.heap.size + 4 ≤ w1.heap.size := by have := hb1.size; simp at this; omega
    have hA1 : Arr w1 (w.heap.size + 4) 51 3 (okU ok (w.heap.size + 4) w1) (.slice a' n c') (h.cells.map Cll.row) := by simpa using hA
    have hok1 : ∀ b, okU ok (w.heap.size + 4) w1 b → b < w1.heap.size := fun b hb => by rcases hb with hb | hb <;> first | omega | (have := hok b hb; omega)
    have hL1 := hL.under hbw hok
    have hA1own : ∀ g, (Value.slice a' n c').ownBlock = some g → w.heap.size + 4 ≤ g ∧ g < w1.heap.size := hA1.own
    clear hA hb1
    obtain ⟨W, hW⟩ : ∃ W, W = w1.alloc (.cells #[.slice a' n c', .int .i64 h.made, .int .i64 h.used, .int .i64 h.live, .int .i64 h.peak] 28) := ⟨_, rfl⟩
    have hWP : Blk W w1.heap.size 28 #[.slice a' n c', .int .i64 h.made, .int .i64 h.used, .int .i64 h.live, .int .i64 h.peak] := by rw [hW]; exact Blk.new _ _ _
    have hWA : Arr W (w.heap.size + 4) 51 3 (okU ok (w.heap.size + 4) w1) (.slice a' n c') (h.cells.map Cll.row) := by rw [hW]; exact hA1.alloc _ hok1
    have hWS : Blk W (w.heap.size + 1) 24 #[.int .i64 s.kind, .int .i64 s.n] := by rw [hW]; exact hS.alloc _
    have hWQ : Blk W (w.heap.size + 1 + 1) 28 #[.slice none 0 0, .int .i64 0, .int .i64 0, .int .i64 0, .int .i64 0] := by rw [hW]; exact hQ.alloc _
    have hWZ : Blk W (w.heap.size + 1 + 1 + 1) 24 #[.int .i64 0, .int .i64 0] := by rw [hW]; exact hZ.alloc _
    have hWb : Below w.heap.size w W := by rw [hW]; exact hbw.alloc hbw.size _
    have hWs : W.heap.size = w1.heap.size + 1 := by rw [hW]; simp
    have hWL : Rep W ok (.sl (l.map Slt.row)) (.slice la ln lc) := by rw [hW]; exact hL1.alloc _ (fun b hb => by have := hok b hb; omega)
    have hWR : Rep W (fun b => b < w1.heap.size) (.sl (h.cells.map Cll.row)) (.slice a' n c') := by rw [hW]; exact (hA1.rep (ok' := fun b => b < w1.heap.size) (fun b _ h => h) hok1).alloc _ (fun b hb => hb)
    have hsc := hS.cell
    go_upto_region 4 with (fail)
    rw [← hW]
    clear hW hsc hS hQ hZ hA1 hL1
    have hsc := hWS.cell
    have hpc := hWP.cell
    go_wp2_with fail
    clear hsc hpc
    by_cases hkp : h.kept s = true
    · obtain ⟨x, hx, hxc⟩ := Hp.kept_some hkp
      obtain ⟨h0, h1, ys, zs, hl, hky⟩ := Hp.at_some hx
      obtain ⟨g, _, _, rfl, hbg, _⟩ := Arr.cll hWA hl
      have HE : Hid (h.use s tag l = ({ h.put s.n ⟨1, tag, l⟩ with used := h.used + 1 }, s, 0)) := by rw [Hid, Hp.use, if_pos HK.out, if_pos hkp]
      have hg1 := (hA1own g rfl).2
      refine (heap_kept_some h s x (fun b => b < w1.heap.size) g 0 n c' w1.heap.size W (fun b hb => by omega) (hWP.cell 0) hWR hx hxc).mono ?_
      rintro e w2 ⟨rfl, hb2⟩
      have hP2 := hWP.under hb2 hWP.lt
      have hS2 := hWS.under hb2 hWS.lt
      have hQ2 := hWQ.under hb2 hWQ.lt
      have hZ2 := hWZ.under hb2 hWZ.lt
      have hL2 := hWL.under hb2 (fun b hb => by have := hok b hb; have := hWb.size; omega)
      have hA2 := hWA.under hb2 (Nat.le_refl _) (fun b hb => by have := hok1 b hb; omega)
      have hbW2 : Below w.heap.size w w2 := hWb.trans (hb2.mono hWb.size)
      have hs2 : w1.heap.size < w2.heap.size := by have := hb2.size; omega
      have HH := Lib.hid (And.intro hl hky)
      clear hx hxc hl hky hWP hWS hWQ hWZ hWL hWA hWR hWb hWs hb2 hkp
      go_wp2_with fail
      refine (slices_Clone_Slot l ok la _ lc _ HLn.out (by omega) (fun b hb => by have := hok b hb; omega) hL2).mono ?_
      rintro e w3 ⟨sa3, sc3, rfl, hr3, hb3⟩
      have hs3 : w2.heap.size ≤ w3.heap.size := hb3.size
      have hP3 := hP2.under hb3 hP2.lt
      have hS3 := hS2.under hb3 hS2.lt
      have hQ3 := hQ2.under hb3 hQ2.lt
      have hZ3 := hZ2.under hb3 hZ2.lt
      have hbW3 : Below w.heap.size w w3 := hbW2.trans (hb3.mono hbW2.size)
      have hA3 := (hA2.under hb3 (Nat.le_refl _) (fun b hb => by have := hok1 b hb; omega)).weak (ok' := fun b => ok b ∨ (w.heap.size + 4 ≤ b ∧ b < w3.heap.size ∧ b ≠ w1.heap.size)) (fun b hb => hb.imp id fun h => ⟨h.1, by omega, by omega⟩)
      obtain ⟨hl, hky⟩ := HH.out
      obtain ⟨g', sa', sc', hg', _, _, c0, c1, c2, hf, _⟩ := Arr.cll hA3 hl
      simp only [Option.some.injEq, Addr.mk.injEq, and_true] at hg'
      subst hg'
      rw [hky] at c0 c1 c2
      rw [hl] at hA3
      have hA4 := hA3.cll_put ⟨1, tag, l⟩ (.slice sa3 ln sc3) (by simp) ht (hr3.weak fun b hb => ⟨.inr ⟨by omega, hb.2, by omega⟩, by omega⟩)
      rw [hky, ← Hp.put_split hl hky] at hA4
      have HA4 := Lib.hid hA4
      have hpc := hP3.cell
      have hpf := hP3.frozen
      have hsc := hS3.cell
      have hqc := hQ3.cell
      have hqf := hQ3.frozen
      have hzc := hZ3.cell
      have hzf := hZ3.frozen
      have hne : g ≠ w1.heap.size := by omega
      have hne1 : g ≠ w.heap.size + 1 := by omega
      have hne2 : g ≠ w.heap.size + 1 + 1 := by omega
      have hne3 : g ≠ w.heap.size + 1 + 1 + 1 := by omega
      have hnp1 : w1.heap.size ≠ w.heap.size + 1 := by omega
      have hnp2 : w1.heap.size ≠ w.heap.size + 1 + 1 := by omega
      have hnp3 : w1.heap.size ≠ w.heap.size + 1 + 1 + 1 := by omega
      clear hP2 hS2 hQ2 hZ2 hL2 hA2 hbW2 hr3 hb3 hA3 hA4 hl hky
      go_wp2_with fail
      go_region
      all_goals
        go_wp2_with fail
        refine bodyPost_ret (v := .tuple #[.agg #[.slice (some ⟨g, 0, none⟩) n c', .int .i64 h.made, .int .i64 (h.used + 1), .int .i64 h.live, .int .i64 h.peak], .agg #[.int .i64 s.kind, .int .i64 s.n], .int .i64 0]) (by simp [results, Try.results17, go_sem, hqc, hzc]) rfl ?_
        have hR5 := (HA4.out.setCell (p := ⟨w1.heap.size, 2, none⟩) (.int .i64 (h.used + 1)) (by simp [Value.ownBlock]; omega) (fun b hb => by dsimp only; rcases hb with hb | hb <;> first | omega | (have := hok b hb; omega))).rep (ok' := fun b => ok b ∨ (w.heap.size + 4 ≤ b ∧ b < w3.heap.size)) (fun b h1 h2 => .inr ⟨h1, by simpa using h2⟩) (fun b hb => hb.imp id fun h => ⟨h.1, h.2.1⟩)
        refine ⟨_, by rw [HE.out], ?_, ?_⟩
        · rw [HE.out]
          refine ⟨_, n, c', rfl, ?_⟩
          refine Rep.weak (ok := fun b => ok b ∨ (w.heap.size + 4 ≤ b ∧ b < w3.heap.size)) ?_ (fun b hb => hb.imp id fun h => ⟨by omega, by simp; omega⟩)
          refine Rep.drew ?_
          iterate 7 refine Rep.setCell ?_ _ (fun b hb => by dsimp only; rcases hb with hb | hb <;> first | omega | (have := hok b hb; omega))
          exact hR5
        · refine Below.drew ?_
          exact (((((((((((hbW3.setCell (by dsimp only; omega) _).setCell (by dsimp only; omega) _).setCell (by dsimp only; omega) _).setCell (by dsimp only; omega) _).setCell (by dsimp only; omega) _).setCell (by dsimp only; omega) _).setCell (by dsimp only; omega) _).setCell (by dsimp only; omega) _).setCell (by dsimp only; omega) _).setCell (by dsimp only; omega) _).setCell (by dsimp only; omega) _)
    · have HE : Hid (h.use s tag l = (Hp.zero, ⟨0, 0⟩, 14)) := by rw [Hid, Hp.use, if_pos HK.out, if_neg hkp]
      refine (heap_kept_none h s (fun b => b < w1.heap.size) a' n c' w1.heap.size W (fun b hb => by omega) (hWP.cell 0) hWR (Hp.kept_none hkp)).mono ?_
      rintro e w2 ⟨rfl, hb2⟩
      have hQ2 := hWQ.under hb2 hWQ.lt
      have hZ2 := hWZ.under hb2 hWZ.lt
      have hbW2 : Below w.heap.size w w2 := hWb.trans (hb2.mono hWb.size)
      have hqc := hQ2.cell
      have hqf := hQ2.frozen
      have hzc := hZ2.cell
      have hzf := hZ2.frozen
      clear hkp hWs
      go_wp2_with fail
      refine bodyPost_ret (v := .tuple #[.agg #[.slice none 0 0, .int .i64 0, .int .i64 0, .int .i64 0, .int .i64 0], .agg #[.int .i64 0, .int .i64 0], .int .i64 14]) (by simp [results, Try.results17, go_sem, hqc, hzc]) rfl ?_
      refine ⟨_, by rw [HE.out], by rw [HE.out]; exact HpRet.zero, ?_⟩
      exact (((((((hbW2.setCell (by dsimp only; omega) _).setCell (by dsimp only; omega) _).setCell (by dsimp only; omega) _).setCell (by dsimp only; omega) _).setCell (by dsimp only; omega) _).setCell (by dsimp only; omega) _).setCell (by dsimp only; omega) _)
  · have hk' : (s.kind != 2) = true := by simpa using hk
    have HE : Hid (h.use s tag l = h.make tag l) := by rw [Hid, Hp.use, if_neg hk]
    clear hk
    go_enter Try.func17, Try.ntmps17
    go_wp2_with fail
    refine (heap_Make h tag l M ok a n c la ln lc _ hM HO.out ht HLn.out hlb (hok4 _ _ _ _) (hR4 _ _ _ _) (hL4 _ _ _ _)).mono ?_
    rintro e w1 ⟨v, rfl, ⟨a', n', c', rfl, hR1⟩, hb1⟩
    have hQ := Blk.under ((Blk.new' ((w.alloc _).alloc _) 28 #[.slice none 0 0, .int .i64 0, .int .i64 0, .int .i64 0, .int .i64 0] (w.heap.size + 1 + 1) (by simp)).alloc _) hb1 (by simp)
    have hZ := Blk.under (Blk.new' (((w.alloc _).alloc _).alloc _) 24 #[.int .i64 0, .int .i64 0] (w.heap.size + 1 + 1 + 1) (by simp)) hb1 (by simp)
    have hbw : Below w.heap.size w w1 := (((((Below.refl _ w).alloc (Nat.le_refl _) _).alloc (by simp) _).alloc (by simp; omega) _).alloc (by simp; omega) _).trans (hb1.mono (by simp; omega))
    have hsz : w.heap.size + 4 ≤ w1.heap.size := by have := hb1.size; simp at this; omega
    have hR2 : Hid (Rep w1 (fun b => ok b ∨ (w.heap.size + 4 ≤ b ∧ b < w1.heap.size)) (.sl ((h.make tag l).1.cells.map Cll.row)) (.slice a' n' c')) := hR1.weak fun b hb => hb.imp id fun h => ⟨by have := h.1; simp at this; omega, h.2⟩
    have hqc := hQ.cell
    have hqf := hQ.frozen
    have hzc := hZ.cell
    have hzf := hZ.frozen
    clear hR1 hb1
    go_wp2_with fail
    refine bodyPost_ret (v := .tuple #[.agg #[.slice a' n' c', .int .i64 (h.make tag l).1.made, .int .i64 (h.make tag l).1.used, .int .i64 (h.make tag l).1.live, .int .i64 (h.make tag l).1.peak], .agg #[.int .i64 (h.make tag l).2.1.kind, .int .i64 (h.make tag l).2.1.n], .int .i64 (h.make tag l).2.2]) (by simp [results, Try.results17, go_sem, hqc, hzc]) rfl ?_
    refine ⟨_, by rw [HE.out], by rw [HE.out]; exact ⟨a', n', c', rfl, use_rep7 hok hR2.out _ _ _ _ _ _ _⟩, ?_⟩
    exact (((((((hbw.setCell (by dsimp only; omega) _).setCell (by dsimp only; omega) _).setCell (by dsimp only; omega) _).setCell (by dsimp only; omega) _).setCell (by dsimp only; omega) _).setCell (by dsimp only; omega) _).setCell (by dsimp only; omega) _)
end Go.Proofs.Ytcakhebnebcpcaa
