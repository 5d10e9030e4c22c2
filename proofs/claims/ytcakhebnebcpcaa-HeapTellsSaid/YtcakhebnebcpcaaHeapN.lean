/- heap.Get, xcref10.Get. -/
import Derived.Test.YtcakhebnebcpcaaHeapM
namespace Go.Proofs.Ytcakhebnebcpcaa
open Go.RowKit
set_option linter.unusedVariables false

def Hp.get (h : Hp) (s : Slt) : Int × List Slt × Int :=
  if h.there s = true then (match h.at s.n with | some x => (x.tag, x.slots, 0) | none => (0, [], 14)) else (0, [], 14)
def GetSaid (h : Hp) (s : Slt) (ok : Nat → Prop) (w : World) (e : Ending) (w' : World) : Prop :=
  ∃ a n c, e = .returned (.tuple #[.int .i64 (h.get s).1, .slice a n c, .int .i64 (h.get s).2.2]) ∧ Rep w' (okU ok w.heap.size w') (.sl ((h.get s).2.1.map Slt.row)) (.slice a n c) ∧ Below w.heap.size w w'

theorem GetSaid.bad {h : Hp} {s : Slt} {ok : Nat → Prop} {w w' : World} (HE : h.get s = (0, [], 14)) (hb : Below w.heap.size w w') : GetSaid h s ok w (.returned (.tuple #[.int .i64 0, .slice none 0 0, .int .i64 14])) w' :=
  ⟨none, 0, 0, by rw [HE], by rw [HE]; exact .empty none 0 (fun _ => rfl) (Nat.zero_le _), hb⟩

set_option maxHeartbeats 1000000 in
theorem ref_Get (h : Hp) (s : Slt) (ok : Nat → Prop) (a : Option Addr) (n c : Nat) (w : World) (hok : ∀ b, ok b → b < w.heap.size) (hR : Rep w ok (.sl (h.cells.map Cll.row)) (.slice a n c)) :
    Calls Try.prog 12 #[.agg #[.slice a n c, .int .i64 h.made, .int .i64 h.used, .int .i64 h.live, .int .i64 h.peak], .agg #[.int .i64 s.kind, .int .i64 s.n]] w (GetSaid h s ok w) := by
  have hm := hR.len_inv.2.2
  unfold maxLen at hm
  go_enter Try.func12, Try.ntmps12
  go_wp2_with fail
  refine (ref_There h s ok a n c _ (fun b hb => by have := hok b hb; simp; omega) ((hR.alloc _ hok).alloc _ (fun b hb => by have := hok b hb; simp; omega))).mono ?_
  rintro e w1 ⟨rfl, hb1⟩
  have hS := (Blk.under (Blk.new' (w.alloc _) 24 #[.int .i64 s.kind, .int .i64 s.n] (w.heap.size + 1) (by simp)) hb1 (by simp)).cell
  have hH := (Blk.under ((Blk.new w 28 #[.slice a n c, .int .i64 h.made, .int .i64 h.used, .int .i64 h.live, .int .i64 h.peak]).alloc _) hb1 (by simp; omega)).cell
  have hbw : Below w.heap.size w w1 := (((Below.refl _ w).alloc (Nat.le_refl _) _).alloc (by simp) _).trans (hb1.mono (by simp; omega))
  have hR1 := hR.under hbw hok
  clear hb1
  by_cases ht : h.there s = true
  · obtain ⟨hk, x, hx, hxc⟩ := Hp.there_inv ht
    have HE : Hid (h.get s = (x.tag, x.slots, 0)) := by rw [Hid, Hp.get, if_pos ht, hx]
    obtain ⟨h0, h1, b, o, sa, sc, rfl, hob, c0, c1, c2, hrs, _⟩ := Cll.count_at hR1 hx
    have h1' : s.n < (n : Int) := h1
    clear hx hk c0
    go_wp2_with fail
    go_quiet (fail)
    go_wp2_with fail
    go_ret3
    exact ⟨sa, _, sc, by rw [HE.out]; rfl, by rw [HE.out]; exact (hrs.drewN _).weak fun b hb => .inl hb, by first | exact hbw | exact hbw.trans ⟨rfl, rfl, rfl, Nat.le_refl _, fun _ _ => rfl⟩⟩
  · have ht' : h.there s = false := by simpa using ht
    have HE : Hid (h.get s = (0, [], 14)) := by rw [Hid, Hp.get, if_neg ht]
    clear ht
    go_wp2_with fail
    go_ret3
    exact GetSaid.bad HE.out hbw

set_option maxHeartbeats 1000000 in
theorem heap_Get (h : Hp) (s : Slt) (ok : Nat → Prop) (a : Option Addr) (n c : Nat) (w : World) (hsl : ∀ x ∈ h.cells, x.slots.length ≤ 8796093022208) (hok : ∀ b, ok b → b < w.heap.size) (hR : Rep w ok (.sl (h.cells.map Cll.row)) (.slice a n c)) :
    Calls Try.prog 11 #[.agg #[.slice a n c, .int .i64 h.made, .int .i64 h.used, .int .i64 h.live, .int .i64 h.peak], .agg #[.int .i64 s.kind, .int .i64 s.n]] w (GetSaid h s ok w) := by
  have HS := Lib.hid hsl
  clear hsl
  have hR0 : ∀ o1 o2 : Obj, Rep ((w.alloc o1).alloc o2) ok (.sl (h.cells.map Cll.row)) (.slice a n c) := fun o1 o2 => (hR.alloc _ hok).alloc _ (fun b hb => by have := hok b hb; simp; omega)
  go_enter Try.func11, Try.ntmps11
  go_wp2_with fail
  by_cases hP : ∃ x, h.at s.n = some x ∧ 1 ≤ x.count
  · obtain ⟨x, hx, hxc⟩ := hP
    obtain ⟨h0, h1, ys, zs, hl, hky⟩ := Hp.at_some hx
    have hsx := HS.out x (by rw [hl]; simp)
    obtain ⟨_, _, b, o, _, _, rfl, hob, _⟩ := Cll.count_at hR hx
    refine (heap_cell_some h s x ok b o n c w.heap.size _ (fun b hb => by have := hok b hb; simp; omega) (by simp [World.cell?_alloc_past]) (hR0 _ _) hx hxc).mono ?_
    rintro e w1 ⟨rfl, hb1⟩
    have hS := (Blk.under (Blk.new' (w.alloc _) 24 #[.int .i64 s.kind, .int .i64 s.n] (w.heap.size + 1) (by simp)) hb1 (by simp)).cell
    have hbw : Below w.heap.size w w1 := (((Below.refl _ w).alloc (Nat.le_refl _) _).alloc (by simp) _).trans (hb1.mono (by simp; omega))
    have hR1 := hR.under hbw hok
    obtain ⟨_, _, b', o', sa, sc, hbo, _, c0, c1, c2, hrs, _⟩ := Cll.count_at hR1 hx
    simp only [Option.some.injEq, Addr.mk.injEq, and_true] at hbo
    obtain ⟨rfl, rfl⟩ := hbo
    have hok1 : ∀ b, ok b → b < w1.heap.size := fun b hb => by have := hok b hb; have := hbw.size; omega
    clear hb1 c0
    by_cases hk : s.kind = 2
    · have hk' : (s.kind != 2) = false := by simpa using hk
      have HE : Hid (h.get s = (x.tag, x.slots, 0)) := by rw [Hid, Hp.get, if_pos (Hp.there_some hk hx hxc), hx]
      clear hk hx hl hky
      go_wp2_with fail
      go_region_held3 (fun w' => w'.cell? ⟨b, o + s.n.toNat * 3 + 1, none⟩ = some (.int .i64 x.tag) ∧ w'.cell? ⟨b, o + s.n.toNat * 3 + 2, none⟩ = some (.slice sa x.slots.length sc))
        (first
          | go_keep
          | (go_split_ands
             refine ⟨?_, ?_⟩
             · (rw [hb3.cell (by simp; exact hok1 _ hob)]; assumption)
             · (rw [hb3.cell (by simp; exact hok1 _ hob)]; assumption)))
        ((go_at_call 31; refine (slices_Clone_Slot x.slots ok sa _ sc _ rfl (by omega) (fun b hb => by simp; exact hok1 b hb) (by first | exact hrs.drew | exact hrs)).mono ?_; rintro e w3 ⟨sa3, sc3, rfl, hr3, hb3⟩))
      go_wp2_with fail
      go_ret3
      have hw1 := hbw.size
      exact ⟨sa3, _, sc3, by rw [HE.out]; rfl, by rw [HE.out]; exact hr3.weak fun b hb => .inr ⟨by have := hb.1; simp at this; omega, hb.2⟩, hbw.trans ((Below.drew (Below.refl _ _)).trans (hb3.mono (by simp; omega)))⟩
    · have hk' : (s.kind != 2) = true := by simpa using hk
      have HE : Hid (h.get s = (0, [], 14)) := by rw [Hid, Hp.get, if_neg (fun ht => hk (Hp.there_inv ht).1)]
      clear hk hx hl hky
      go_wp2_with fail
      go_ret3
      exact GetSaid.bad HE.out hbw
  · refine (heap_cell_none h s ok a n c w.heap.size _ (fun b hb => by have := hok b hb; simp; omega) (by simp [World.cell?_alloc_past]) (hR0 _ _) (fun x hx => by have : ¬ 1 ≤ x.count := fun hc => hP ⟨x, hx, hc⟩; omega)).mono ?_
    rintro e w1 ⟨rfl, hb1⟩
    have hS := (Blk.under (Blk.new' (w.alloc _) 24 #[.int .i64 s.kind, .int .i64 s.n] (w.heap.size + 1) (by simp)) hb1 (by simp)).cell
    have hbw : Below w.heap.size w w1 := (((Below.refl _ w).alloc (Nat.le_refl _) _).alloc (by simp) _).trans (hb1.mono (by simp; omega))
    have HE : Hid (h.get s = (0, [], 14)) := by rw [Hid, Hp.get, if_neg (fun ht => hP (Hp.there_inv ht).2)]
    clear hP hb1
    by_cases hk : s.kind = 2
    · have hk' : (s.kind != 2) = false := by simpa using hk
      clear hk
      go_wp2_with fail
      go_ret3
      exact GetSaid.bad HE.out hbw
    · have hk' : (s.kind != 2) = true := by simpa using hk
      clear hk
      go_wp2_with fail
      go_ret3
      exact GetSaid.bad HE.out hbw
end Go.Proofs.Ytcakhebnebcpcaa
