/- heap.Make. -/
import Derived.Test.YtcakhebnebcpcaaHeapO
import Derived.Deep.Cut
namespace Go.Proofs.Ytcakhebnebcpcaa
open Go.RowKit
set_option linter.unusedVariables false

/-- A heap with a cell more. -/
def Hp.make (h : Hp) (tag : Int) (l : List Slt) : Hp × Slt × Int :=
  if 200 ≤ h.live then (Hp.zero, ⟨0, 0⟩, 13)
  else (⟨h.cells.take (room h.cells) ++ ⟨1, tag, l⟩ :: h.cells.drop (room h.cells + 1), h.made + 1, h.used, h.live + 1, max h.peak (h.live + 1)⟩, ⟨2, room h.cells⟩, 0)
def MakeSaid (h : Hp) (tag : Int) (l : List Slt) (ok : Nat → Prop) (w : World) (e : Ending) (w' : World) : Prop :=
  ∃ v, e = .returned (.tuple #[v, .agg #[.int .i64 (h.make tag l).2.1.kind, .int .i64 (h.make tag l).2.1.n], .int .i64 (h.make tag l).2.2]) ∧ HpRet w w' ok v (h.make tag l).1 ∧ Below w.heap.size w w'

set_option maxHeartbeats 1000000 in
theorem heap_Make (hp : Hp) (tag : Int) (l : List Slt) (M : Int) (ok : Nat → Prop) (a : Option Addr) (n c : Nat) (la : Option Addr) (ln lc : Nat) (w : World) (hM : M ≤ 1000000) (hO : hp.Ok M) (ht : -9223372036854775808 ≤ tag ∧ tag ≤ 9223372036854775807) (hl : ln = l.length) (hlb : ln ≤ 8796093022208)
    (hok : ∀ b, ok b → b < w.heap.size) (hR : Rep w ok (.sl (hp.cells.map Cll.row)) (.slice a n c)) (hL : Rep w ok (.sl (l.map Slt.row)) (.slice la ln lc)) :
    Calls Try.prog 14 #[.agg #[.slice a n c, .int .i64 hp.made, .int .i64 hp.used, .int .i64 hp.live, .int .i64 hp.peak], .int .i64 tag, .slice la ln lc] w (MakeSaid hp tag l ok w) := by
  have hn := hR.len_inv.1
  rw [List.length_map] at hn
  have hlen := hO.len
  have hsl : ∀ x ∈ hp.cells, x.slots.length ≤ 8796093022208 := fun x hx => by have := hO.slots x hx; omega
  have hmd := hO.made
  have hlv := hO.live
  have hpk := hO.peak
  have hus := hO.used
  have HN := Lib.hid hn
  have HO := Lib.hid hO
  have HLn := Lib.hid hl
  clear hn hO hl
  by_cases hf : 200 ≤ hp.live
  · have HE : Hid (hp.make tag l = (Hp.zero, ⟨0, 0⟩, 13)) := by rw [Hid, Hp.make, if_pos hf]
    go_enter Try.func14, Try.ntmps14
    go_wp2_with fail
    refine bodyPost_ret (v := .tuple #[.agg #[.slice none 0 0, .int .i64 0, .int .i64 0, .int .i64 0, .int .i64 0], .agg #[.int .i64 0, .int .i64 0], .int .i64 13]) (by simp [results, Try.results14, go_sem]) rfl ?_
    refine ⟨_, by rw [HE.out], by rw [HE.out]; exact HpRet.zero, ?_⟩
    exact (((Below.refl _ w).alloc (Nat.le_refl _) _).alloc (by simp) _).alloc (by simp; omega) _
  · obtain ⟨i0, hi, hz0, hz1, hz2⟩ := info_parts tInfo_Cell
    have hokB : ∀ (o1 o2 o3 : Obj), ∀ b, ok b → b < (((w.alloc o1).alloc o2).alloc o3).heap.size := fun _ _ _ b hb => by have := hok b hb; simp; omega
    go_enter Try.func14, Try.ntmps14
    go_wp2_with fail
    refine (heap_Own' hp.cells hp.made hp.used hp.live hp.peak ok a n c _ HN.out (by have := HN.out; omega) hsl (hokB _ _ _) (((hR.alloc _ hok).alloc _ (fun b hb => by have := hok b hb; simp; omega)).alloc _ (fun b hb => by have := hok b hb; simp; omega))).mono ?_
    rintro e w1 ⟨a', c', rfl, hA, hb1⟩
    have hQ := Blk.under ((Blk.new' (w.alloc _) 28 #[.slice none 0 0, .int .i64 0, .int .i64 0, .int .i64 0, .int .i64 0] (w.heap.size + 1) (by simp)).alloc _) hb1 (by simp)
    have hZ := Blk.under (Blk.new' ((w.alloc _).alloc _) 24 #[.int .i64 0, .int .i64 0] (w.heap.size + 1 + 1) (by simp)) hb1 (by simp)
    have hbw : Below w.heap.size w w1 := ((((Below.refl _ w).alloc (Nat.le_refl _) _).alloc (by simp) _).alloc (by simp; omega) _).trans (hb1.mono (by simp; omega))
    have hsz : w.heap.size + 3 ≤ w1.heap.size := by have := hb1.size; simp at this; omega
    have hA1 : Arr w1 (w.heap.size + 3) 51 3 (okU ok (w.heap.size + 3) w1) (.slice a' n c') (hp.cells.map Cll.row) := by simpa using hA
    have hok1 : ∀ b, okU ok (w.heap.size + 3) w1 b → b < w1.heap.size := fun b hb => by rcases hb with hb | hb <;> first | omega | (have := hok b hb; omega)
    have hL1 := hL.under hbw hok
    clear hA hb1
    obtain ⟨W, hW⟩ : ∃ W, W = w1.alloc (.cells #[.slice a' n c', .int .i64 hp.made, .int .i64 hp.used, .int .i64 hp.live, .int .i64 hp.peak] 28) := ⟨_, rfl⟩
    have hWP : Blk W w1.heap.size 28 #[.slice a' n c', .int .i64 hp.made, .int .i64 hp.used, .int .i64 hp.live, .int .i64 hp.peak] := by rw [hW]; exact Blk.new _ _ _
    have hWA : Arr W (w.heap.size + 3) 51 3 (okU ok (w.heap.size + 3) w1) (.slice a' n c') (hp.cells.map Cll.row) := by rw [hW]; exact hA1.alloc _ hok1
    have hWQ : Blk W (w.heap.size + 1) 28 #[.slice none 0 0, .int .i64 0, .int .i64 0, .int .i64 0, .int .i64 0] := by rw [hW]; exact hQ.alloc _
    have hWZ : Blk W (w.heap.size + 1 + 1) 24 #[.int .i64 0, .int .i64 0] := by rw [hW]; exact hZ.alloc _
    have hWb : Below w.heap.size w W := by rw [hW]; exact hbw.alloc hbw.size _
    have hWs : W.heap.size = w1.heap.size + 1 := by rw [hW]; simp
    have hWL : Rep W ok (.sl (l.map Slt.row)) (.slice la ln lc) := by rw [hW]; exact hL1.alloc _ (fun b hb => by have := hok b hb; omega)
    have hWR : Rep W (fun b => b < w1.heap.size) (.sl (hp.cells.map Cll.row)) (.slice a' n c') := by rw [hW]; exact (hA1.rep (ok' := fun b => b < w1.heap.size) (fun b _ hp => hp) hok1).alloc _ (fun b hb => hb)
    go_upto_region 4 with (fail)
    rw [← hW]
    clear hW
    have hcpW := hWP.cell
    have hA1own : ∀ g, (Value.slice a' n c').ownBlock = some g → g < w1.heap.size := fun g hg => (hA1.own g hg).2
    go_wp2_with fail
    clear hcpW
    refine (heap_Index hp.cells (fun b => b < w1.heap.size) a' n c' W (fun b hb => by omega) hWR).mono ?_
    rintro e w2 ⟨rfl, hb2⟩
    have hP2 := hWP.under hb2 hWP.lt
    have hQ2 := hWQ.under hb2 hWQ.lt
    have hZ2 := hWZ.under hb2 hWZ.lt
    have hL2 := hWL.under hb2 (fun b hb => by have := hok b hb; have := hWb.size; omega)
    have hA2 := hWA.under hb2 (Nat.le_refl _) (fun b hb => by have := hok1 b hb; omega)
    have hbW2 : Below w.heap.size w w2 := hWb.trans (hb2.mono hWb.size)
    have hs2 : w1.heap.size < w2.heap.size := by have := hb2.size; omega
    have hcp2 := hP2.cell
    have hfp2 := hP2.frozen
    clear hWP hWA hWQ hWZ hWb hWs hWL hWR hb2 hQ hZ hA1 hL1
    by_cases hr : room hp.cells < hp.cells.length
    · obtain ⟨k, hk⟩ : ∃ k, k = room hp.cells := ⟨_, rfl⟩
      have HR : Hid (roomI hp.cells = (k : Int)) := by rw [Hid, roomI, if_pos hr, hk]
      obtain ⟨ys, zs, hyz, hyk⟩ := split_at (List.getElem?_eq_getElem hr)
      obtain ⟨x, hxx⟩ : ∃ x, x = hp.cells[room hp.cells] := ⟨_, rfl⟩
      rw [← hxx] at hyz
      have hkl : (0 : Int) ≤ (k : Int) := by omega
      have hkn : k < n := by rw [HN.out, hk]; exact hr
      have HK : Hid (k = ys.length) := by rw [Hid, hk, hyk]
      have HF : Hid (hp.cells.take (room hp.cells) ++ ⟨1, tag, l⟩ :: hp.cells.drop (room hp.cells + 1) = ys ++ ⟨1, tag, l⟩ :: zs) := by
        rw [Hid, ← hyk]
        conv => lhs; rw [hyz]
        simp
      rw [hyz] at hA2
      have HKR : Hid (room hp.cells = k) := hk.symm
      clear hk hr hyz hyk hxx
      rw [HR.out]
      go_upto_region 8 with (fail)
      obtain ⟨g, sa, sc, rfl, hbg, hgs, _⟩ := Arr.cll hA2 rfl
      have hgne : g ≠ w1.heap.size := by have := hA1own g rfl; omega
      obtain ⟨X, n2, c2, hX⟩ : ∃ X n2 c2, X = w2 ∧ n2 = n ∧ c2 = c' := ⟨_, _, _, rfl, rfl, rfl⟩
      obtain ⟨rfl, rfl, rfl⟩ := hX
      have HXA := Lib.hid hA2
      have hXP := hP2
      have hXQ := hQ2
      have hXZ := hZ2
      have hXL := hL2
      have hXb := hbW2
      have hXs := hs2
      clear hA2 hP2 hQ2 hZ2 hL2 hbW2 hs2 hcp2 hfp2
      -- the room is there: its cell is made
      have hne : g ≠ w1.heap.size := hgne
      have hgX : g < X.heap.size := hgs
      have hcp := hXP.cell 0
      obtain ⟨sa0, sc0, x0, x1, x2, xf⟩ : ∃ sa sc, X.cell? ⟨g, k * 3, none⟩ = some (.int .i64 x.count) ∧ X.cell? ⟨g, k * 3 + 1, none⟩ = some (.int .i64 x.tag) ∧ X.cell? ⟨g, k * 3 + 2, none⟩ = some (.slice sa x.slots.length sc) ∧ (∀ o, X.frozen? ⟨g, o, none⟩ = false) := by
        obtain ⟨g', sa, sc, hg', _, _, c0, c1, c2, hf, _⟩ := Arr.cll HXA.out rfl
        simp only [Option.some.injEq, Addr.mk.injEq, and_true] at hg'
        subst hg'
        rw [HK.out]
        exact ⟨sa, sc, c0, c1, c2, hf⟩
      have hkn' : (k : Int) < (n2 : Int) := by omega
      have hk0' : (0 : Int) ≤ (k : Int) := by omega
      go_region_held3 (fun w' => w'.cell? ⟨w1.heap.size, 0, none⟩ = some (.slice (some ⟨g, 0, none⟩) n2 c2))
        (first
          | go_keep
          | (rw [hb3.cell (by simp; omega)]; assumption))
        ((go_at_call 31; refine (slices_Clone_Slot l ok la _ lc _ HLn.out (by omega) (fun b hb => by have := hok b hb; have := hXb.size; simp; omega) (by first | exact hXL.drew | exact hXL)).mono ?_; rintro e w3 ⟨sa3, sc3, rfl, hr3, hb3⟩; have d0 : w3.cell? ⟨g, k * 3, none⟩ = some (.int .i64 x.count) := (hb3.cell (by simp; omega)).trans x0; have d1 : w3.cell? ⟨g, k * 3 + 1, none⟩ = some (.int .i64 x.tag) := (hb3.cell (by simp; omega)).trans x1; have d2 : w3.cell? ⟨g, k * 3 + 2, none⟩ = some (.slice sa0 x.slots.length sc0) := (hb3.cell (by simp; omega)).trans x2; have df : ∀ o, w3.frozen? ⟨g, o, none⟩ = false := fun o => (hb3.frozen (by simp; omega)).trans (xf o)))
      obtain ⟨Y, hY⟩ : ∃ Y, Y = ((w3.setCell ⟨g, k * 3, none⟩ (.int .i64 1)).setCell ⟨g, k * 3 + 1, none⟩ (.int .i64 tag)).setCell ⟨g, k * 3 + 2, none⟩ (.slice sa3 ln sc3) := ⟨_, rfl⟩
      have hs3 : X.heap.size ≤ w3.heap.size := by have := hb3.size; simpa using this
      have hb3' : Below X.heap.size X w3 := (Below.drew (Below.refl _ _)).trans (hb3.mono (by simp))
      have hokX : ∀ b, okU ok (w.heap.size + 3) w1 b → b < X.heap.size ∧ b ≠ w1.heap.size := fun b hb => by have := hok1 b hb; omega
      have hYA : Arr Y (w.heap.size + 3) 51 3 (fun b => ok b ∨ (w.heap.size + 3 ≤ b ∧ b < w3.heap.size ∧ b ≠ w1.heap.size)) (.slice (some ⟨g, 0, none⟩) n2 c2) ((ys ++ ⟨1, tag, l⟩ :: zs).map Cll.row) := by
        have h1 := (HXA.out.under hb3' (Nat.le_refl _) (fun b hb => (hokX b hb).1)).weak (ok' := (fun b => ok b ∨ (w.heap.size + 3 ≤ b ∧ b < w3.heap.size ∧ b ≠ w1.heap.size))) (fun b hb => hb.imp id fun hp => ⟨hp.1, by omega, by omega⟩)
        have hr : Rep w3 (fun b => (ok b ∨ (w.heap.size + 3 ≤ b ∧ b < w3.heap.size ∧ b ≠ w1.heap.size)) ∧ b ≠ g) (.sl (l.map Slt.row)) (.slice sa3 ln sc3) := hr3.weak fun b hb => ⟨.inr ⟨by have := hb.1; simp at this; omega, hb.2, by have := hb.1; simp at this; omega⟩, by have := hb.1; simp at this; omega⟩
        have h2 := h1.cll_put ⟨1, tag, l⟩ (.slice sa3 ln sc3) (by simp) ht hr
        rw [← HK.out, ← hY] at h2
        exact h2
      have hYP : Blk Y w1.heap.size 28 #[.slice (some ⟨g, 0, none⟩) n2 c2, .int .i64 hp.made, .int .i64 hp.used, .int .i64 hp.live, .int .i64 hp.peak] := by
        rw [hY]; exact (((hXP.under hb3' hXP.lt).far (by dsimp only; omega) _).far (by dsimp only; omega) _).far (by dsimp only; omega) _
      have hYQ : Blk Y (w.heap.size + 1) 28 #[.slice none 0 0, .int .i64 0, .int .i64 0, .int .i64 0, .int .i64 0] := by
        rw [hY]; exact (((hXQ.under hb3' hXQ.lt).far (by dsimp only; omega) _).far (by dsimp only; omega) _).far (by dsimp only; omega) _
      have hYZ : Blk Y (w.heap.size + 1 + 1) 24 #[.int .i64 0, .int .i64 0] := by
        rw [hY]; exact (((hXZ.under hb3' hXZ.lt).far (by dsimp only; omega) _).far (by dsimp only; omega) _).far (by dsimp only; omega) _
      have hYb : Below w.heap.size w Y := by
        rw [hY]; exact (((hXb.trans (hb3'.mono hXb.size)).setCell (by dsimp only; omega) _).setCell (by dsimp only; omega) _).setCell (by dsimp only; omega) _
      have hYs : Y.heap.size = w3.heap.size := by rw [hY]; simp
      rw [← hY]
      clear hY
      have HYS := Lib.hid hYs
      have hpc := hYP.cell
      have hpf := hYP.frozen
      have hqc := hYQ.cell
      have hqf := hYQ.frozen
      have hzc := hYZ.cell
      have hzf := hYZ.frozen
      have HYA := Lib.hid hYA
      have HE : Hid (hp.make tag l = (⟨ys ++ ⟨1, tag, l⟩ :: zs, hp.made + 1, hp.used, hp.live + 1, max hp.peak (hp.live + 1)⟩, ⟨2, k⟩, 0)) := by rw [Hid, Hp.make, if_neg (by omega), HF.out, HKR.out]
      clear hYs hYA x0 x1 x2 xf d0 d1 d2 df hcp hr3 hb3
      go_wp2_with fail
      all_goals
        have HP5 : Hid (HpBox (((Y.setCell ⟨w1.heap.size, 1, none⟩ (.int .i64 (hp.made + 1))).setCell ⟨w1.heap.size, 3, none⟩ (.int .i64 (hp.live + 1))).setCell ⟨w1.heap.size, 4, none⟩ (.int .i64 (max hp.peak (hp.live + 1)))) w1.heap.size (w.heap.size + 3) (fun b => ok b ∨ (w.heap.size + 3 ≤ b ∧ b < w3.heap.size ∧ b ≠ w1.heap.size)) (some ⟨g, 0, none⟩) n2 c2 ⟨ys ++ ⟨1, tag, l⟩ :: zs, hp.made + 1, hp.used, hp.live + 1, max hp.peak (hp.live + 1)⟩) := by
          have hg' : (Value.slice (some (⟨g, 0, none⟩ : Addr)) n2 c2).ownBlock ≠ some w1.heap.size := by simp [Value.ownBlock]; omega
          have hx' : ∀ b, (ok b ∨ (w.heap.size + 3 ≤ b ∧ b < w3.heap.size ∧ b ≠ w1.heap.size)) → b ≠ w1.heap.size := fun b hb => by rcases hb with hb | hb <;> first | omega | (have := hok b hb; omega)
          exact ⟨((hYP.set_ 1 _).set_ 3 _).set_ 4 _, ((HYA.out.setCell _ hg' hx').setCell _ hg' hx').setCell _ hg' hx'⟩
      · have hmx : max hp.peak (hp.live + 1) = hp.live + 1 := by omega
        rw [hmx] at HP5 HE
        refine bodyPost_ret (v := .tuple #[.agg #[.slice (some ⟨g, 0, none⟩) n2 c2, .int .i64 (hp.made + 1), .int .i64 hp.used, .int .i64 (hp.live + 1), .int .i64 (hp.live + 1)], .agg #[.int .i64 2, .int .i64 k], .int .i64 0]) (by simp [results, Try.results14, go_sem, hqc, hzc]) rfl ?_
        refine ⟨_, by rw [HE.out], ?_, ?_⟩
        · rw [HE.out]
          refine ⟨_, n2, c2, rfl, ?_⟩
          have hR5 := HP5.out.rep (ok' := fun b => ok b ∨ (w.heap.size + 3 ≤ b ∧ b < w3.heap.size)) (fun b h1 h2 => .inr ⟨h1, by have := HYS.out; simp at h2; omega⟩) (fun b hb => hb.imp id fun hp => ⟨hp.1, hp.2.1⟩)
          refine Rep.weak (ok := fun b => ok b ∨ (w.heap.size + 3 ≤ b ∧ b < w3.heap.size)) ?_ (fun b hb => hb.imp id fun hp => ⟨by omega, by have := HYS.out; simp; omega⟩)
          iterate 7 refine Rep.setCell ?_ _ (fun b hb => by dsimp only; rcases hb with hb | hb <;> first | omega | (have := hok b hb; omega))
          exact hR5
        · exact ((((((((((hYb.setCell (by dsimp only; omega) _).setCell (by dsimp only; omega) _).setCell (by dsimp only; omega) _).setCell (by dsimp only; omega) _).setCell (by dsimp only; omega) _).setCell (by dsimp only; omega) _).setCell (by dsimp only; omega) _).setCell (by dsimp only; omega) _).setCell (by dsimp only; omega) _).setCell (by dsimp only; omega) _)
      · have hmx : max hp.peak (hp.live + 1) = hp.peak := by omega
        rw [hmx] at HP5 HE
        refine bodyPost_ret (v := .tuple #[.agg #[.slice (some ⟨g, 0, none⟩) n2 c2, .int .i64 (hp.made + 1), .int .i64 hp.used, .int .i64 (hp.live + 1), .int .i64 hp.peak], .agg #[.int .i64 2, .int .i64 k], .int .i64 0]) (by simp [results, Try.results14, go_sem, hqc, hzc]) rfl ?_
        refine ⟨_, by rw [HE.out], ?_, ?_⟩
        · rw [HE.out]
          refine ⟨_, n2, c2, rfl, ?_⟩
          have hR5 := HP5.out.rep (ok' := fun b => ok b ∨ (w.heap.size + 3 ≤ b ∧ b < w3.heap.size)) (fun b h1 h2 => .inr ⟨h1, by have := HYS.out; simp at h2; omega⟩) (fun b hb => hb.imp id fun hp => ⟨hp.1, hp.2.1⟩)
          refine Rep.weak (ok := fun b => ok b ∨ (w.heap.size + 3 ≤ b ∧ b < w3.heap.size)) ?_ (fun b hb => hb.imp id fun hp => ⟨by omega, by have := HYS.out; simp; omega⟩)
          iterate 7 refine Rep.setCell ?_ _ (fun b hb => by dsimp only; rcases hb with hb | hb <;> first | omega | (have := hok b hb; omega))
          exact hR5
        · exact ((((((((((hYb.setCell (by dsimp only; omega) _).setCell (by dsimp only; omega) _).setCell (by dsimp only; omega) _).setCell (by dsimp only; omega) _).setCell (by dsimp only; omega) _).setCell (by dsimp only; omega) _).setCell (by dsimp only; omega) _).setCell (by dsimp only; omega) _).setCell (by dsimp only; omega) _).setCell (by dsimp only; omega) _)
    · have HR : Hid (roomI hp.cells = -1) := by rw [Hid, roomI, if_neg hr]
      have hrr : room hp.cells = hp.cells.length := by have := room_le hp.cells; omega
      obtain ⟨k, hk⟩ : ∃ k, k = n := ⟨_, rfl⟩
      have HKR : Hid (room hp.cells = k) := by rw [Hid, hk, HN.out, hrr]
      have HK : Hid (k = hp.cells.length) := by rw [Hid, hk, HN.out]
      have HF : Hid (hp.cells.take (room hp.cells) ++ ⟨1, tag, l⟩ :: hp.cells.drop (room hp.cells + 1) = hp.cells ++ ⟨1, tag, l⟩ :: []) := by
        rw [Hid, hrr, List.take_length, List.drop_eq_nil_of_le (by omega)]
      subst hk
      have HA2 := Lib.hid hA2
      have hown2 := hA2.own
      clear hr hrr hA2
      rw [HR.out]
      have hbz : RepRow w2 (fun b => okU ok (w.heap.size + 3) w1 b ∧ (Value.slice a' k c').ownBlock ≠ some b) Cll.zero.row [.int .i64 0, .int .i64 0, .slice none 0 0] := Cll.repRow (x := Cll.zero) (.empty none 0 (fun _ => rfl) (Nat.zero_le _)) (by simp [Cll.zero]) (by simp [Cll.zero])
      go_upto_region 8 with (at_builtin; refine wpList_arr_push _ rfl (.tmp 27) (.tmp 29) 26 rfl (w.heap.size + 3) 51 i0 _ 3 40 Try.underlying26 hi hz0 hz1 hz2 rfl (by omega) (okU ok (w.heap.size + 3) w1) (.slice a' k c') (hp.cells.map Cll.row) rfl _ _ HA2.out _ rfl ?d7 Cll.zero.row rfl hbz ?d3 ?d4 ?d5 ?d6 ?_)
      case d7 => rfl
      case d3 => simp [maxLen]; omega
      case d4 => simp; omega
      case d5 => intro b hb; have := hok1 b hb; omega
      case d6 => omega
      intro g cap w4 hA4 hg4 hv4 hlt4
      have hgrow : ∀ q, (Value.slice a' k c').ownBlock = some q → w.heap.size + 3 ≤ q ∧ q < w1.heap.size := fun q hq => ⟨(hown2 q hq).1, hA1own q hq⟩
      have hs4 : w2.heap.size < w4.heap.size := by have := hg4.size; simp at this; omega
      have hnp : (Value.slice a' k c').ownBlock ≠ some w1.heap.size := fun e => by have := (hgrow _ e).2; omega
      have hP4 := (hP2.alloc (.cells #[.int .i64 0, .int .i64 0, .slice none 0 0] 51)).grown hg4 hnp.symm
      have hQ4 := (hQ2.alloc (.cells #[.int .i64 0, .int .i64 0, .slice none 0 0] 51)).grown hg4 (fun e => by have := (hgrow _ e.symm).1; omega)
      have hZ4 := (hZ2.alloc (.cells #[.int .i64 0, .int .i64 0, .slice none 0 0] 51)).grown hg4 (fun e => by have := (hgrow _ e.symm).1; omega)
      have hbW4 : Below w.heap.size w w4 := (hbW2.alloc hbW2.size _).grown hg4 (by simp; have := hbW2.size; omega) (fun q hq => by have := (hgrow _ hq).1; omega)
      have hL4 : Rep w4 ok (.sl (l.map Slt.row)) (.slice la ln lc) := hL2.under (B := w.heap.size) ⟨hg4.os, hg4.tape, hg4.output, by omega, fun q hq => (hg4.block q (by simp; omega) (fun e => by have := (hgrow _ e.symm).1; omega)).trans (Below.heap_alloc w2 _ q (by omega))⟩ hok
      have hgr : w.heap.size + 3 ≤ g ∧ g ≠ w1.heap.size ∧ g < w4.heap.size := by
        rcases hv4 with e | e
        · have := hgrow _ e; omega
        · omega
      have hcp4 := hP4.cell
      have hfp4 := hP4.frozen
      have HA4 := Lib.hid hA4
      clear hcp2 hfp2 hA4 hg4 hv4
      go_upto_region 8 with (fail)
      obtain ⟨n2, hn2⟩ : ∃ n2, n2 = hp.cells.length + 1 := ⟨_, rfl⟩
      obtain ⟨c2, hc2⟩ : ∃ c2, c2 = cap := ⟨_, rfl⟩
      subst hc2
      rw [← hn2]
      obtain ⟨X, hX⟩ : ∃ X, X = w4.setCell ⟨w1.heap.size, 0, none⟩ (.slice (some ⟨g, 0, none⟩) n2 c2) := ⟨_, rfl⟩
      have hgne : g ≠ w1.heap.size := hgr.2.1
      have hbg : w.heap.size + 3 ≤ g := hgr.1
      have hgs : g < X.heap.size := by rw [hX]; simp; exact hgr.2.2
      have hXs : w1.heap.size < X.heap.size := by rw [hX]; simp; omega
      have hkn : k < n2 := by rw [hn2, HK.out]; omega
      have hkl : (0 : Int) ≤ (k : Int) := by omega
      obtain ⟨ys, hys⟩ : ∃ ys, ys = hp.cells := ⟨_, rfl⟩
      obtain ⟨zs, hzs⟩ : ∃ zs : List Cll, zs = [] := ⟨_, rfl⟩
      obtain ⟨x, hx⟩ : ∃ x, x = Cll.zero := ⟨_, rfl⟩
      have HXA : Hid (Arr X (w.heap.size + 3) 51 3 (okU ok (w.heap.size + 3) w1) (.slice (some ⟨g, 0, none⟩) n2 c2) ((ys ++ x :: zs).map Cll.row)) := by
        have h4 := HA4.out
        rw [Hid, hX, hys, hzs, hx, hn2]
        have h5 := h4.setCell (p := ⟨w1.heap.size, 0, none⟩) (.slice (some ⟨g, 0, none⟩) (hp.cells.length + 1) c2) (by simp [Value.ownBlock]; omega) (fun b hb => by have := hok1 b hb; dsimp only; omega)
        simpa using h5
      have HKo := HK.out
      have HFo := HF.out
      clear HK HF
      rw [← hys] at HKo
      rw [← hzs] at HFo
      have HF : Hid (hp.cells.take (room hp.cells) ++ ⟨1, tag, l⟩ :: hp.cells.drop (room hp.cells + 1) = ys ++ ⟨1, tag, l⟩ :: zs) := by rw [Hid, HFo, hys]
      have HK : Hid (k = ys.length) := HKo
      have hXP : Blk X w1.heap.size 28 #[.slice (some ⟨g, 0, none⟩) n2 c2, .int .i64 hp.made, .int .i64 hp.used, .int .i64 hp.live, .int .i64 hp.peak] := by rw [hX]; exact hP4.set_ 0 _
      have hXQ : Blk X (w.heap.size + 1) 28 #[.slice none 0 0, .int .i64 0, .int .i64 0, .int .i64 0, .int .i64 0] := by rw [hX]; exact hQ4.far (by dsimp only; omega) _
      have hXZ : Blk X (w.heap.size + 1 + 1) 24 #[.int .i64 0, .int .i64 0] := by rw [hX]; exact hZ4.far (by dsimp only; omega) _
      have hXb : Below w.heap.size w X := by rw [hX]; exact hbW4.setCell (by dsimp only; omega) _
      have hXL : Rep X ok (.sl (l.map Slt.row)) (.slice la ln lc) := by rw [hX]; exact hL4.setCell _ (fun b hb => by have := hok b hb; dsimp only; omega)
      have HNk := HN
      rw [← hX]
      clear hX hn2 hys hzs hx HKo HFo hcp4 hfp4 HA4 hP4 hQ4 hZ4 hbW4 hL4 hP2 hQ2 hZ2 hL2 hbW2 HA2 hgr hown2
      -- the room is there: its cell is made
      have hne : g ≠ w1.heap.size := hgne
      have hgX : g < X.heap.size := hgs
      have hcp := hXP.cell 0
      obtain ⟨sa0, sc0, x0, x1, x2, xf⟩ : ∃ sa sc, X.cell? ⟨g, k * 3, none⟩ = some (.int .i64 x.count) ∧ X.cell? ⟨g, k * 3 + 1, none⟩ = some (.int .i64 x.tag) ∧ X.cell? ⟨g, k * 3 + 2, none⟩ = some (.slice sa x.slots.length sc) ∧ (∀ o, X.frozen? ⟨g, o, none⟩ = false) := by
        obtain ⟨g', sa, sc, hg', _, _, c0, c1, c2, hf, _⟩ := Arr.cll HXA.out rfl
        simp only [Option.some.injEq, Addr.mk.injEq, and_true] at hg'
        subst hg'
        rw [HK.out]
        exact ⟨sa, sc, c0, c1, c2, hf⟩
      have hkn' : (k : Int) < (n2 : Int) := by omega
      have hk0' : (0 : Int) ≤ (k : Int) := by omega
      go_region_held3 (fun w' => w'.cell? ⟨w1.heap.size, 0, none⟩ = some (.slice (some ⟨g, 0, none⟩) n2 c2))
        (first
          | go_keep
          | (rw [hb3.cell (by simp; omega)]; assumption))
        ((go_at_call 31; refine (slices_Clone_Slot l ok la _ lc _ HLn.out (by omega) (fun b hb => by have := hok b hb; have := hXb.size; simp; omega) (by first | exact hXL.drew | exact hXL)).mono ?_; rintro e w3 ⟨sa3, sc3, rfl, hr3, hb3⟩; have d0 : w3.cell? ⟨g, k * 3, none⟩ = some (.int .i64 x.count) := (hb3.cell (by simp; omega)).trans x0; have d1 : w3.cell? ⟨g, k * 3 + 1, none⟩ = some (.int .i64 x.tag) := (hb3.cell (by simp; omega)).trans x1; have d2 : w3.cell? ⟨g, k * 3 + 2, none⟩ = some (.slice sa0 x.slots.length sc0) := (hb3.cell (by simp; omega)).trans x2; have df : ∀ o, w3.frozen? ⟨g, o, none⟩ = false := fun o => (hb3.frozen (by simp; omega)).trans (xf o)))
      obtain ⟨Y, hY⟩ : ∃ Y, Y = ((w3.setCell ⟨g, k * 3, none⟩ (.int .i64 1)).setCell ⟨g, k * 3 + 1, none⟩ (.int .i64 tag)).setCell ⟨g, k * 3 + 2, none⟩ (.slice sa3 ln sc3) := ⟨_, rfl⟩
      have hs3 : X.heap.size ≤ w3.heap.size := by have := hb3.size; simpa using this
      have hb3' : Below X.heap.size X w3 := (Below.drew (Below.refl _ _)).trans (hb3.mono (by simp))
      have hokX : ∀ b, okU ok (w.heap.size + 3) w1 b → b < X.heap.size ∧ b ≠ w1.heap.size := fun b hb => by have := hok1 b hb; omega
      have hYA : Arr Y (w.heap.size + 3) 51 3 (fun b => ok b ∨ (w.heap.size + 3 ≤ b ∧ b < w3.heap.size ∧ b ≠ w1.heap.size)) (.slice (some ⟨g, 0, none⟩) n2 c2) ((ys ++ ⟨1, tag, l⟩ :: zs).map Cll.row) := by
        have h1 := (HXA.out.under hb3' (Nat.le_refl _) (fun b hb => (hokX b hb).1)).weak (ok' := (fun b => ok b ∨ (w.heap.size + 3 ≤ b ∧ b < w3.heap.size ∧ b ≠ w1.heap.size))) (fun b hb => hb.imp id fun hp => ⟨hp.1, by omega, by omega⟩)
        have hr : Rep w3 (fun b => (ok b ∨ (w.heap.size + 3 ≤ b ∧ b < w3.heap.size ∧ b ≠ w1.heap.size)) ∧ b ≠ g) (.sl (l.map Slt.row)) (.slice sa3 ln sc3) := hr3.weak fun b hb => ⟨.inr ⟨by have := hb.1; simp at this; omega, hb.2, by have := hb.1; simp at this; omega⟩, by have := hb.1; simp at this; omega⟩
        have h2 := h1.cll_put ⟨1, tag, l⟩ (.slice sa3 ln sc3) (by simp) ht hr
        rw [← HK.out, ← hY] at h2
        exact h2
      have hYP : Blk Y w1.heap.size 28 #[.slice (some ⟨g, 0, none⟩) n2 c2, .int .i64 hp.made, .int .i64 hp.used, .int .i64 hp.live, .int .i64 hp.peak] := by
        rw [hY]; exact (((hXP.under hb3' hXP.lt).far (by dsimp only; omega) _).far (by dsimp only; omega) _).far (by dsimp only; omega) _
      have hYQ : Blk Y (w.heap.size + 1) 28 #[.slice none 0 0, .int .i64 0, .int .i64 0, .int .i64 0, .int .i64 0] := by
        rw [hY]; exact (((hXQ.under hb3' hXQ.lt).far (by dsimp only; omega) _).far (by dsimp only; omega) _).far (by dsimp only; omega) _
      have hYZ : Blk Y (w.heap.size + 1 + 1) 24 #[.int .i64 0, .int .i64 0] := by
        rw [hY]; exact (((hXZ.under hb3' hXZ.lt).far (by dsimp only; omega) _).far (by dsimp only; omega) _).far (by dsimp only; omega) _
      have hYb : Below w.heap.size w Y := by
        rw [hY]; exact (((hXb.trans (hb3'.mono hXb.size)).setCell (by dsimp only; omega) _).setCell (by dsimp only; omega) _).setCell (by dsimp only; omega) _
      have hYs : Y.heap.size = w3.heap.size := by rw [hY]; simp
      rw [← hY]
      clear hY
      have HYS := Lib.hid hYs
      have hpc := hYP.cell
      have hpf := hYP.frozen
      have hqc := hYQ.cell
      have hqf := hYQ.frozen
      have hzc := hYZ.cell
      have hzf := hYZ.frozen
      have HYA := Lib.hid hYA
      have HE : Hid (hp.make tag l = (⟨ys ++ ⟨1, tag, l⟩ :: zs, hp.made + 1, hp.used, hp.live + 1, max hp.peak (hp.live + 1)⟩, ⟨2, k⟩, 0)) := by rw [Hid, Hp.make, if_neg (by omega), HF.out, HKR.out]
      clear hYs hYA x0 x1 x2 xf d0 d1 d2 df hcp hr3 hb3
      go_wp2_with fail
      all_goals
        have HP5 : Hid (HpBox (((Y.setCell ⟨w1.heap.size, 1, none⟩ (.int .i64 (hp.made + 1))).setCell ⟨w1.heap.size, 3, none⟩ (.int .i64 (hp.live + 1))).setCell ⟨w1.heap.size, 4, none⟩ (.int .i64 (max hp.peak (hp.live + 1)))) w1.heap.size (w.heap.size + 3) (fun b => ok b ∨ (w.heap.size + 3 ≤ b ∧ b < w3.heap.size ∧ b ≠ w1.heap.size)) (some ⟨g, 0, none⟩) n2 c2 ⟨ys ++ ⟨1, tag, l⟩ :: zs, hp.made + 1, hp.used, hp.live + 1, max hp.peak (hp.live + 1)⟩) := by
          have hg' : (Value.slice (some (⟨g, 0, none⟩ : Addr)) n2 c2).ownBlock ≠ some w1.heap.size := by simp [Value.ownBlock]; omega
          have hx' : ∀ b, (ok b ∨ (w.heap.size + 3 ≤ b ∧ b < w3.heap.size ∧ b ≠ w1.heap.size)) → b ≠ w1.heap.size := fun b hb => by rcases hb with hb | hb <;> first | omega | (have := hok b hb; omega)
          exact ⟨((hYP.set_ 1 _).set_ 3 _).set_ 4 _, ((HYA.out.setCell _ hg' hx').setCell _ hg' hx').setCell _ hg' hx'⟩
      · have hmx : max hp.peak (hp.live + 1) = hp.live + 1 := by omega
        rw [hmx] at HP5 HE
        refine bodyPost_ret (v := .tuple #[.agg #[.slice (some ⟨g, 0, none⟩) n2 c2, .int .i64 (hp.made + 1), .int .i64 hp.used, .int .i64 (hp.live + 1), .int .i64 (hp.live + 1)], .agg #[.int .i64 2, .int .i64 k], .int .i64 0]) (by simp [results, Try.results14, go_sem, hqc, hzc]) rfl ?_
        refine ⟨_, by rw [HE.out], ?_, ?_⟩
        · rw [HE.out]
          refine ⟨_, n2, c2, rfl, ?_⟩
          have hR5 := HP5.out.rep (ok' := fun b => ok b ∨ (w.heap.size + 3 ≤ b ∧ b < w3.heap.size)) (fun b h1 h2 => .inr ⟨h1, by have := HYS.out; simp at h2; omega⟩) (fun b hb => hb.imp id fun hp => ⟨hp.1, hp.2.1⟩)
          refine Rep.weak (ok := fun b => ok b ∨ (w.heap.size + 3 ≤ b ∧ b < w3.heap.size)) ?_ (fun b hb => hb.imp id fun hp => ⟨by omega, by have := HYS.out; simp; omega⟩)
          iterate 7 refine Rep.setCell ?_ _ (fun b hb => by dsimp only; rcases hb with hb | hb <;> first | omega | (have := hok b hb; omega))
          exact hR5
        · exact ((((((((((hYb.setCell (by dsimp only; omega) _).setCell (by dsimp only; omega) _).setCell (by dsimp only; omega) _).setCell (by dsimp only; omega) _).setCell (by dsimp only; omega) _).setCell (by dsimp only; omega) _).setCell (by dsimp only; omega) _).setCell (by dsimp only; omega) _).setCell (by dsimp only; omega) _).setCell (by dsimp only; omega) _)
      · have hmx : max hp.peak (hp.live + 1) = hp.peak := by omega
        rw [hmx] at HP5 HE
        refine bodyPost_ret (v := .tuple #[.agg #[.slice (some ⟨g, 0, none⟩) n2 c2, .int .i64 (hp.made + 1), .int .i64 hp.used, .int .i64 (hp.live + 1), .int .i64 hp.peak], .agg #[.int .i64 2, .int .i64 k], .int .i64 0]) (by simp [results, Try.results14, go_sem, hqc, hzc]) rfl ?_
        refine ⟨_, by rw [HE.out], ?_, ?_⟩
        · rw [HE.out]
          refine ⟨_, n2, c2, rfl, ?_⟩
          have hR5 := HP5.out.rep (ok' := fun b => ok b ∨ (w.heap.size + 3 ≤ b ∧ b < w3.heap.size)) (fun b h1 h2 => .inr ⟨h1, by have := HYS.out; simp at h2; omega⟩) (fun b hb => hb.imp id fun hp => ⟨hp.1, hp.2.1⟩)
          refine Rep.weak (ok := fun b => ok b ∨ (w.heap.size + 3 ≤ b ∧ b < w3.heap.size)) ?_ (fun b hb => hb.imp id fun hp => ⟨by omega, by have := HYS.out; simp; omega⟩)
          iterate 7 refine Rep.setCell ?_ _ (fun b hb => by dsimp only; rcases hb with hb | hb <;> first | omega | (have := hok b hb; omega))
          exact hR5
        · exact ((((((((((hYb.setCell (by dsimp only; omega) _).setCell (by dsimp only; omega) _).setCell (by dsimp only; omega) _).setCell (by dsimp only; omega) _).setCell (by dsimp only; omega) _).setCell (by dsimp only; omega) _).setCell (by dsimp only; omega) _).setCell (by dsimp only; omega) _).setCell (by dsimp only; omega) _).setCell (by dsimp only; omega) _)
end Go.Proofs.Ytcakhebnebcpcaa
