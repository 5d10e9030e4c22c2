/- heap.Take, xcref10.Take, heap.Hold, xcref10.Hold. -/
import Derived.Test.YtcakhebnebcpcaaHeapL
namespace Go.Proofs.Ytcakhebnebcpcaa
open Go.RowKit
set_option linter.unusedVariables false

def TakeSaid (h : Hp) (s : Slt) (ok : Nat → Prop) (w : World) (e : Ending) (w' : World) : Prop :=
  ∃ v, e = .returned (.tuple #[v, .int .i64 (h.open s false).2.2]) ∧ HpRet w w' ok v (h.open s false).1 ∧ Below w.heap.size w w'
def Hp.hold (h : Hp) (s : Slt) : Hp × Slt × Int := ((h.open s true).1, if (h.open s true).2.1 then s else ⟨0, 0⟩, (h.open s true).2.2)
def HoldSaid (h : Hp) (s : Slt) (ok : Nat → Prop) (w : World) (e : Ending) (w' : World) : Prop :=
  ∃ v, e = .returned (.tuple #[v, .agg #[.int .i64 (h.hold s).2.1.kind, .int .i64 (h.hold s).2.1.n], .int .i64 (h.hold s).2.2]) ∧ HpRet w w' ok v (h.hold s).1 ∧ Below w.heap.size w w'

theorem Hp.open_err (h : Hp) (s : Slt) (keep : Bool) (hm : (h.open s keep).2.1 = true) : (h.open s keep).2.2 = 0 := by
  unfold Hp.open at hm ⊢
  by_cases ht : h.there s = true
  · rw [if_pos ht] at hm ⊢
    rcases hx : h.at s.n with _ | x
    · rw [hx] at hm; simp at hm
    · rw [hx] at hm
      by_cases h1 : x.count = 1
      · simp [h1]
      · by_cases h2 : ((h.put s.n { x with count := x.count - 1 }).dups x.slots).2 = 0
        · simp [h1, h2] at hm
        · simp [h1, h2] at hm
  · rw [if_neg ht] at hm; simp at hm

set_option maxHeartbeats 1000000 in
theorem heap_Take (h : Hp) (s : Slt) (M : Int) (ok : Nat → Prop) (a : Option Addr) (n c : Nat) (w : World) (hM : M ≤ 1000000) (hO : h.Ok M) (hMo : 3 * M ≤ 1000000) (hok : ∀ b, ok b → b < w.heap.size) (hR : Rep w ok (.sl (h.cells.map Cll.row)) (.slice a n c)) :
    Calls Try.prog 23 #[.agg #[.slice a n c, .int .i64 h.made, .int .i64 h.used, .int .i64 h.live, .int .i64 h.peak], .agg #[.int .i64 s.kind, .int .i64 s.n]] w (TakeSaid h s ok w) := by
  have HO := Lib.hid hO
  clear hO
  go_enter Try.func23, Try.ntmps23
  go_wp2_with fail
  refine (heap_open h s false M ok a n c _ hM HO.out (fun b hb => by have := hok b hb; simp; omega) (((hR.alloc _ hok).alloc _ (fun b hb => by have := hok b hb; simp; omega)).alloc _ (fun b hb => by have := hok b hb; simp; omega))).mono ?_
  rintro e w1 ⟨v, rfl, ⟨a', n', c', rfl, hR1⟩, hb1⟩
  have hQ := Blk.under (Blk.new' ((w.alloc _).alloc _) 28 #[.slice none 0 0, .int .i64 0, .int .i64 0, .int .i64 0, .int .i64 0] (w.heap.size + 1 + 1) (by simp)) hb1 (by simp)
  have hbw : Below w.heap.size w w1 := ((((Below.refl _ w).alloc (Nat.le_refl _) _).alloc (by simp) _).alloc (by simp; omega) _).trans (hb1.mono (by simp; omega))
  have hsz : w.heap.size + 3 ≤ w1.heap.size := by have := hb1.size; simp at this; omega
  have hq := (hQ.alloc (.cells #[.slice a' n' c', .int .i64 (h.open s false).1.made, .int .i64 (h.open s false).1.used, .int .i64 (h.open s false).1.live, .int .i64 (h.open s false).1.peak] 28)).cell
  have hqf := (hQ.alloc (.cells #[.slice a' n' c', .int .i64 (h.open s false).1.made, .int .i64 (h.open s false).1.used, .int .i64 (h.open s false).1.live, .int .i64 (h.open s false).1.peak] 28)).frozen
  have hR2 : Rep w1 (fun b => ok b ∨ (w.heap.size + 3 ≤ b ∧ b < w1.heap.size)) (.sl ((h.open s false).1.cells.map Cll.row)) (.slice a' n' c') := hR1.weak fun b hb => hb.imp id fun h => ⟨by have := h.1; simp at this; omega, h.2⟩
  clear hR1 hb1
  go_wp2_with fail
  refine bodyPost_ret (v := .tuple #[.agg #[.slice a' n' c', .int .i64 (h.open s false).1.made, .int .i64 (h.open s false).1.used, .int .i64 (h.open s false).1.live, .int .i64 (h.open s false).1.peak], .int .i64 (h.open s false).2.2]) (by simp [results, Try.results23, go_sem, hq]) rfl ?_
  have hfin := ret5 (q := w.heap.size + 1 + 1) (B := w.heap.size + 3) (h := (h.open s false).1) hok (by omega) (by omega) (hbw.alloc hbw.size (.cells #[.slice a' n' c', .int .i64 (h.open s false).1.made, .int .i64 (h.open s false).1.used, .int .i64 (h.open s false).1.live, .int .i64 (h.open s false).1.peak] 28))
    ((hR2.alloc _ (fun b hb => by rcases hb with hb | hb <;> first | omega | (have := hok b hb; omega))).weak (ok' := fun b => ok b ∨ (w.heap.size + 3 ≤ b ∧ b < (w1.alloc (.cells #[.slice a' n' c', .int .i64 (h.open s false).1.made, .int .i64 (h.open s false).1.used, .int .i64 (h.open s false).1.live, .int .i64 (h.open s false).1.peak] 28)).heap.size)) (fun b hb => hb.imp id fun h => ⟨h.1, by simp; omega⟩))
    (.slice a' n' c') (.int .i64 (h.open s false).1.made) (.int .i64 (h.open s false).1.used) (.int .i64 (h.open s false).1.live) (.int .i64 (h.open s false).1.peak)
  exact ⟨_, rfl, hfin.1, hfin.2⟩

set_option maxHeartbeats 1000000 in
theorem ref_Take (h : Hp) (s : Slt) (M : Int) (ok : Nat → Prop) (a : Option Addr) (n c : Nat) (w : World) (hM : M ≤ 1000000) (hO : h.Ok M) (hMo : 3 * M ≤ 1000000) (hok : ∀ b, ok b → b < w.heap.size) (hR : Rep w ok (.sl (h.cells.map Cll.row)) (.slice a n c)) :
    Calls Try.prog 24 #[.agg #[.slice a n c, .int .i64 h.made, .int .i64 h.used, .int .i64 h.live, .int .i64 h.peak], .agg #[.int .i64 s.kind, .int .i64 s.n]] w (TakeSaid h s ok w) := by
  have HO := Lib.hid hO
  clear hO
  go_enter Try.func24, Try.ntmps24
  go_wp2_with fail
  refine (ref_Open h s false M ok a n c _ hM HO.out hMo (fun b hb => by have := hok b hb; simp; omega) (((hR.alloc _ hok).alloc _ (fun b hb => by have := hok b hb; simp; omega)).alloc _ (fun b hb => by have := hok b hb; simp; omega))).mono ?_
  rintro e w1 ⟨v, rfl, ⟨a', n', c', rfl, hR1⟩, hb1⟩
  have hQ := Blk.under (Blk.new' ((w.alloc _).alloc _) 28 #[.slice none 0 0, .int .i64 0, .int .i64 0, .int .i64 0, .int .i64 0] (w.heap.size + 1 + 1) (by simp)) hb1 (by simp)
  have hbw : Below w.heap.size w w1 := ((((Below.refl _ w).alloc (Nat.le_refl _) _).alloc (by simp) _).alloc (by simp; omega) _).trans (hb1.mono (by simp; omega))
  have hsz : w.heap.size + 3 ≤ w1.heap.size := by have := hb1.size; simp at this; omega
  have hq := (hQ.alloc (.cells #[.slice a' n' c', .int .i64 (h.open s false).1.made, .int .i64 (h.open s false).1.used, .int .i64 (h.open s false).1.live, .int .i64 (h.open s false).1.peak] 28)).cell
  have hqf := (hQ.alloc (.cells #[.slice a' n' c', .int .i64 (h.open s false).1.made, .int .i64 (h.open s false).1.used, .int .i64 (h.open s false).1.live, .int .i64 (h.open s false).1.peak] 28)).frozen
  have hR2 : Rep w1 (fun b => ok b ∨ (w.heap.size + 3 ≤ b ∧ b < w1.heap.size)) (.sl ((h.open s false).1.cells.map Cll.row)) (.slice a' n' c') := hR1.weak fun b hb => hb.imp id fun h => ⟨by have := h.1; simp at this; omega, h.2⟩
  clear hR1 hb1
  go_wp2_with fail
  refine bodyPost_ret (v := .tuple #[.agg #[.slice a' n' c', .int .i64 (h.open s false).1.made, .int .i64 (h.open s false).1.used, .int .i64 (h.open s false).1.live, .int .i64 (h.open s false).1.peak], .int .i64 (h.open s false).2.2]) (by simp [results, Try.results24, go_sem, hq]) rfl ?_
  have hfin := ret5 (q := w.heap.size + 1 + 1) (B := w.heap.size + 3) (h := (h.open s false).1) hok (by omega) (by omega) (hbw.alloc hbw.size (.cells #[.slice a' n' c', .int .i64 (h.open s false).1.made, .int .i64 (h.open s false).1.used, .int .i64 (h.open s false).1.live, .int .i64 (h.open s false).1.peak] 28))
    ((hR2.alloc _ (fun b hb => by rcases hb with hb | hb <;> first | omega | (have := hok b hb; omega))).weak (ok' := fun b => ok b ∨ (w.heap.size + 3 ≤ b ∧ b < (w1.alloc (.cells #[.slice a' n' c', .int .i64 (h.open s false).1.made, .int .i64 (h.open s false).1.used, .int .i64 (h.open s false).1.live, .int .i64 (h.open s false).1.peak] 28)).heap.size)) (fun b hb => hb.imp id fun h => ⟨h.1, by simp; omega⟩))
    (.slice a' n' c') (.int .i64 (h.open s false).1.made) (.int .i64 (h.open s false).1.used) (.int .i64 (h.open s false).1.live) (.int .i64 (h.open s false).1.peak)
  exact ⟨_, rfl, hfin.1, hfin.2⟩

set_option maxHeartbeats 600000 in
theorem heap_Hold (h : Hp) (s : Slt) (M : Int) (ok : Nat → Prop) (a : Option Addr) (n c : Nat) (w : World) (hM : M ≤ 1000000) (hO : h.Ok M) (hMo : 3 * M ≤ 1000000) (hok : ∀ b, ok b → b < w.heap.size) (hR : Rep w ok (.sl (h.cells.map Cll.row)) (.slice a n c)) :
    Calls Try.prog 16 #[.agg #[.slice a n c, .int .i64 h.made, .int .i64 h.used, .int .i64 h.live, .int .i64 h.peak], .agg #[.int .i64 s.kind, .int .i64 s.n]] w (HoldSaid h s ok w) := by
  have HO := Lib.hid hO
  clear hO
  have hb4 : ∀ b, ok b → b < w.heap.size + 4 := fun b hb => by have := hok b hb; omega
  go_enter Try.func16, Try.ntmps16
  go_wp2_with fail
  refine (heap_open h s true M ok a n c _ hM HO.out (fun b hb => by have := hok b hb; simp; omega) ((((hR.alloc _ hok).alloc _ (fun b hb => by have := hok b hb; simp; omega)).alloc _ (fun b hb => by have := hok b hb; simp; omega)).alloc _ (fun b hb => by have := hok b hb; simp; omega))).mono ?_
  rintro e w1 ⟨v, rfl, ⟨a', n', c', rfl, hR1⟩, hb1⟩
  have hS := Blk.under (((Blk.new' (w.alloc _) 24 #[.int .i64 s.kind, .int .i64 s.n] (w.heap.size + 1) (by simp)).alloc _).alloc _) hb1 (by first | (simp; done) | (simp; omega))
  have hQ := Blk.under ((Blk.new' ((w.alloc _).alloc _) 28 #[.slice none 0 0, .int .i64 0, .int .i64 0, .int .i64 0, .int .i64 0] (w.heap.size + 1 + 1) (by simp)).alloc _) hb1 (by simp)
  have hZ := Blk.under (Blk.new' (((w.alloc _).alloc _).alloc _) 24 #[.int .i64 0, .int .i64 0] (w.heap.size + 1 + 1 + 1) (by simp)) hb1 (by simp)
  have hbw : Below w.heap.size w w1 := (((((Below.refl _ w).alloc (Nat.le_refl _) _).alloc (by simp) _).alloc (by simp; omega) _).alloc (by simp; omega) _).trans (hb1.mono (by simp; omega))
  have hsz : w.heap.size + 4 ≤ w1.heap.size := by have := hb1.size; simp at this; omega
  have hsc := (hS.alloc (.cells #[.slice a' n' c', .int .i64 (h.open s true).1.made, .int .i64 (h.open s true).1.used, .int .i64 (h.open s true).1.live, .int .i64 (h.open s true).1.peak] 28)).cell
  have hq := (hQ.alloc (.cells #[.slice a' n' c', .int .i64 (h.open s true).1.made, .int .i64 (h.open s true).1.used, .int .i64 (h.open s true).1.live, .int .i64 (h.open s true).1.peak] 28)).cell
  have hqf := (hQ.alloc (.cells #[.slice a' n' c', .int .i64 (h.open s true).1.made, .int .i64 (h.open s true).1.used, .int .i64 (h.open s true).1.live, .int .i64 (h.open s true).1.peak] 28)).frozen
  have hz := (hZ.alloc (.cells #[.slice a' n' c', .int .i64 (h.open s true).1.made, .int .i64 (h.open s true).1.used, .int .i64 (h.open s true).1.live, .int .i64 (h.open s true).1.peak] 28)).cell
  have hzf := (hZ.alloc (.cells #[.slice a' n' c', .int .i64 (h.open s true).1.made, .int .i64 (h.open s true).1.used, .int .i64 (h.open s true).1.live, .int .i64 (h.open s true).1.peak] 28)).frozen
  have hR2 : Rep w1 (fun b => ok b ∨ (w.heap.size + 4 ≤ b ∧ b < w1.heap.size)) (.sl ((h.open s true).1.cells.map Cll.row)) (.slice a' n' c') := hR1.weak fun b hb => hb.imp id fun h => ⟨by have := h.1; simp at this; omega, h.2⟩
  clear hR1 hb1
  have herr := Hp.open_err h s true
  cases hm : (h.open s true).2.1
  · have HE : Hid ((h.hold s).2 = (⟨0, 0⟩, (h.open s true).2.2)) := by simp [Hid, Hp.hold, hm]
    clear herr
    by_cases he : (h.open s true).2.2 = 0
    all_goals
      first
      | have he' : ((h.open s true).2.2 != 0) = false := by simpa using he
      | have he' : ((h.open s true).2.2 != 0) = true := by simpa using he
    all_goals
      clear he
      go_wp2_with fail
      refine bodyPost_ret (v := .tuple #[.agg #[.slice a' n' c', .int .i64 (h.open s true).1.made, .int .i64 (h.open s true).1.used, .int .i64 (h.open s true).1.live, .int .i64 (h.open s true).1.peak], .agg #[.int .i64 0, .int .i64 0], .int .i64 (h.open s true).2.2]) (by simp [results, Try.results16, go_sem, hq, hz]) rfl ?_
      refine ⟨_, by rw [HE.out]; rfl, ⟨a', n', c', rfl, ?_⟩, ?_⟩
      · refine Rep.weak (ok := fun b => ok b ∨ (w.heap.size + 4 ≤ b ∧ b < w1.heap.size)) ?_ (fun b hb => hb.imp id fun h => ⟨by omega, by simp; omega⟩)
        iterate 7 refine Rep.setCell ?_ _ (fun b hb => by dsimp only; rcases hb with hb | hb <;> first | omega | (have := hok b hb; omega))
        exact (hR2.alloc _ (fun b hb => by rcases hb with hb | hb <;> first | omega | (have := hok b hb; omega)))
      · exact ((((((((hbw.alloc hbw.size _).setCell (by first | (simp; done) | (simp; omega)) _).setCell (by first | (simp; done) | (simp; omega)) _).setCell (by first | (simp; done) | (simp; omega)) _).setCell (by first | (simp; done) | (simp; omega)) _).setCell (by first | (simp; done) | (simp; omega)) _).setCell (by first | (simp; done) | (simp; omega)) _).setCell (by first | (simp; done) | (simp; omega)) _)

  · have h0 : (h.open s true).2.2 = 0 := herr hm
    have HE : Hid ((h.hold s).2 = (s, 0)) := by simp [Hid, Hp.hold, hm, h0]
    have HZ := Lib.hid h0
    have he' : ((h.open s true).2.2 != 0) = false := by simp [h0]
    clear herr h0
    go_wp2_with fail
    go_region
    all_goals
      go_wp2_with fail
      refine bodyPost_ret (v := .tuple #[.agg #[.slice a' n' c', .int .i64 (h.open s true).1.made, .int .i64 (h.open s true).1.used, .int .i64 (h.open s true).1.live, .int .i64 (h.open s true).1.peak], .agg #[.int .i64 s.kind, .int .i64 s.n], .int .i64 0]) (by simp [results, Try.results16, go_sem, hq, hz]) rfl ?_
      refine ⟨_, by rw [HE.out]; rfl, ⟨a', n', c', rfl, ?_⟩, ?_⟩
      · refine Rep.weak (ok := fun b => ok b ∨ (w.heap.size + 4 ≤ b ∧ b < w1.heap.size)) ?_ (fun b hb => hb.imp id fun h => ⟨by omega, by simp; omega⟩)
        refine Rep.drew ?_
        iterate 7 refine Rep.setCell ?_ _ (fun b hb => by dsimp only; rcases hb with hb | hb <;> first | omega | (have := hok b hb; omega))
        exact (hR2.alloc _ (fun b hb => by rcases hb with hb | hb <;> first | omega | (have := hok b hb; omega)))
      · refine Below.drew ?_
        exact ((((((((hbw.alloc hbw.size _).setCell (by first | (simp; done) | (simp; omega)) _).setCell (by first | (simp; done) | (simp; omega)) _).setCell (by first | (simp; done) | (simp; omega)) _).setCell (by first | (simp; done) | (simp; omega)) _).setCell (by first | (simp; done) | (simp; omega)) _).setCell (by first | (simp; done) | (simp; omega)) _).setCell (by first | (simp; done) | (simp; omega)) _)


set_option maxHeartbeats 600000 in
theorem ref_Hold (h : Hp) (s : Slt) (M : Int) (ok : Nat → Prop) (a : Option Addr) (n c : Nat) (w : World) (hM : M ≤ 1000000) (hO : h.Ok M) (hMo : 3 * M ≤ 1000000) (hok : ∀ b, ok b → b < w.heap.size) (hR : Rep w ok (.sl (h.cells.map Cll.row)) (.slice a n c)) :
    Calls Try.prog 8 #[.agg #[.slice a n c, .int .i64 h.made, .int .i64 h.used, .int .i64 h.live, .int .i64 h.peak], .agg #[.int .i64 s.kind, .int .i64 s.n]] w (HoldSaid h s ok w) := by
  have HO := Lib.hid hO
  clear hO
  have hb4 : ∀ b, ok b → b < w.heap.size + 4 := fun b hb => by have := hok b hb; omega
  go_enter Try.func8, Try.ntmps8
  go_wp2_with fail
  refine (ref_Open h s true M ok a n c _ hM HO.out hMo (fun b hb => by have := hok b hb; simp; omega) ((((hR.alloc _ hok).alloc _ (fun b hb => by have := hok b hb; simp; omega)).alloc _ (fun b hb => by have := hok b hb; simp; omega)).alloc _ (fun b hb => by have := hok b hb; simp; omega))).mono ?_
  rintro e w1 ⟨v, rfl, ⟨a', n', c', rfl, hR1⟩, hb1⟩
  have hS := Blk.under (((Blk.new' (w.alloc _) 24 #[.int .i64 s.kind, .int .i64 s.n] (w.heap.size + 1) (by simp)).alloc _).alloc _) hb1 (by first | (simp; done) | (simp; omega))
  have hQ := Blk.under ((Blk.new' ((w.alloc _).alloc _) 28 #[.slice none 0 0, .int .i64 0, .int .i64 0, .int .i64 0, .int .i64 0] (w.heap.size + 1 + 1) (by simp)).alloc _) hb1 (by simp)
  have hZ := Blk.under (Blk.new' (((w.alloc _).alloc _).alloc _) 24 #[.int .i64 0, .int .i64 0] (w.heap.size + 1 + 1 + 1) (by simp)) hb1 (by simp)
  have hbw : Below w.heap.size w w1 := (((((Below.refl _ w).alloc (Nat.le_refl _) _).alloc (by simp) _).alloc (by simp; omega) _).alloc (by simp; omega) _).trans (hb1.mono (by simp; omega))
  have hsz : w.heap.size + 4 ≤ w1.heap.size := by have := hb1.size; simp at this; omega
  have hsc := (hS.alloc (.cells #[.slice a' n' c', .int .i64 (h.open s true).1.made, .int .i64 (h.open s true).1.used, .int .i64 (h.open s true).1.live, .int .i64 (h.open s true).1.peak] 28)).cell
  have hq := (hQ.alloc (.cells #[.slice a' n' c', .int .i64 (h.open s true).1.made, .int .i64 (h.open s true).1.used, .int .i64 (h.open s true).1.live, .int .i64 (h.open s true).1.peak] 28)).cell
  have hqf := (hQ.alloc (.cells #[.slice a' n' c', .int .i64 (h.open s true).1.made, .int .i64 (h.open s true).1.used, .int .i64 (h.open s true).1.live, .int .i64 (h.open s true).1.peak] 28)).frozen
  have hz := (hZ.alloc (.cells #[.slice a' n' c', .int .i64 (h.open s true).1.made, .int .i64 (h.open s true).1.used, .int .i64 (h.open s true).1.live, .int .i64 (h.open s true).1.peak] 28)).cell
  have hzf := (hZ.alloc (.cells #[.slice a' n' c', .int .i64 (h.open s true).1.made, .int .i64 (h.open s true).1.used, .int .i64 (h.open s true).1.live, .int .i64 (h.open s true).1.peak] 28)).frozen
  have hR2 : Rep w1 (fun b => ok b ∨ (w.heap.size + 4 ≤ b ∧ b < w1.heap.size)) (.sl ((h.open s true).1.cells.map Cll.row)) (.slice a' n' c') := hR1.weak fun b hb => hb.imp id fun h => ⟨by have := h.1; simp at this; omega, h.2⟩
  clear hR1 hb1
  have herr := Hp.open_err h s true
  cases hm : (h.open s true).2.1
  · have HE : Hid ((h.hold s).2 = (⟨0, 0⟩, (h.open s true).2.2)) := by simp [Hid, Hp.hold, hm]
    clear herr
    by_cases he : (h.open s true).2.2 = 0
    all_goals
      first
      | have he' : ((h.open s true).2.2 != 0) = false := by simpa using he
      | have he' : ((h.open s true).2.2 != 0) = true := by simpa using he
    all_goals
      clear he
      go_wp2_with fail
      refine bodyPost_ret (v := .tuple #[.agg #[.slice a' n' c', .int .i64 (h.open s true).1.made, .int .i64 (h.open s true).1.used, .int .i64 (h.open s true).1.live, .int .i64 (h.open s true).1.peak], .agg #[.int .i64 0, .int .i64 0], .int .i64 (h.open s true).2.2]) (by simp [results, Try.results8, go_sem, hq, hz]) rfl ?_
      refine ⟨_, by rw [HE.out]; rfl, ⟨a', n', c', rfl, ?_⟩, ?_⟩
      · refine Rep.weak (ok := fun b => ok b ∨ (w.heap.size + 4 ≤ b ∧ b < w1.heap.size)) ?_ (fun b hb => hb.imp id fun h => ⟨by omega, by simp; omega⟩)
        iterate 7 refine Rep.setCell ?_ _ (fun b hb => by dsimp only; rcases hb with hb | hb <;> first | omega | (have := hok b hb; omega))
        exact (hR2.alloc _ (fun b hb => by rcases hb with hb | hb <;> first | omega | (have := hok b hb; omega)))
      · exact ((((((((hbw.alloc hbw.size _).setCell (by first | (simp; done) | (simp; omega)) _).setCell (by first | (simp; done) | (simp; omega)) _).setCell (by first | (simp; done) | (simp; omega)) _).setCell (by first | (simp; done) | (simp; omega)) _).setCell (by first | (simp; done) | (simp; omega)) _).setCell (by first | (simp; done) | (simp; omega)) _).setCell (by first | (simp; done) | (simp; omega)) _)

  · have h0 : (h.open s true).2.2 = 0 := herr hm
    have HE : Hid ((h.hold s).2 = (s, 0)) := by simp [Hid, Hp.hold, hm, h0]
    have HZ := Lib.hid h0
    have he' : ((h.open s true).2.2 != 0) = false := by simp [h0]
    clear herr h0
    go_wp2_with fail
    go_region
    all_goals
      go_wp2_with fail
      refine bodyPost_ret (v := .tuple #[.agg #[.slice a' n' c', .int .i64 (h.open s true).1.made, .int .i64 (h.open s true).1.used, .int .i64 (h.open s true).1.live, .int .i64 (h.open s true).1.peak], .agg #[.int .i64 s.kind, .int .i64 s.n], .int .i64 (h.open s true).2.2]) (by simp [results, Try.results8, go_sem, hq, hz]) rfl ?_
      refine ⟨_, by rw [HE.out]; rw [HZ.out]; rfl, ⟨a', n', c', rfl, ?_⟩, ?_⟩
      · refine Rep.weak (ok := fun b => ok b ∨ (w.heap.size + 4 ≤ b ∧ b < w1.heap.size)) ?_ (fun b hb => hb.imp id fun h => ⟨by omega, by simp; omega⟩)
        refine Rep.drew ?_
        iterate 7 refine Rep.setCell ?_ _ (fun b hb => by dsimp only; rcases hb with hb | hb <;> first | omega | (have := hok b hb; omega))
        exact (hR2.alloc _ (fun b hb => by rcases hb with hb | hb <;> first | omega | (have := hok b hb; omega)))
      · refine Below.drew ?_
        exact ((((((((hbw.alloc hbw.size _).setCell (by first | (simp; done) | (simp; omega)) _).setCell (by first | (simp; done) | (simp; omega)) _).setCell (by first | (simp; done) | (simp; omega)) _).setCell (by first | (simp; done) | (simp; omega)) _).setCell (by first | (simp; done) | (simp; omega)) _).setCell (by first | (simp; done) | (simp; omega)) _).setCell (by first | (simp; done) | (simp; omega)) _)


end Go.Proofs.Ytcakhebnebcpcaa
