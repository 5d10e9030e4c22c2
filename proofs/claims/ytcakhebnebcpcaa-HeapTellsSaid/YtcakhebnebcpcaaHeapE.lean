/- heap.cell, heap.kept, xcref10.kept. -/
import Derived.Test.YtcakhebnebcpcaaHeapD
namespace Go.Proofs.Ytcakhebnebcpcaa
open Go.RowKit
set_option linter.unusedVariables false

set_option maxHeartbeats 1000000 in
theorem heap_cell_some (h : Hp) (s : Slt) (x : Cll) (ok : Nat → Prop) (b o n c p : Nat) (w : World) (hok : ∀ b, ok b → b < w.heap.size) (hp : w.cell? ⟨p, 0, none⟩ = some (.slice (some ⟨b, o, none⟩) n c)) (hR : Rep w ok (.sl (h.cells.map Cll.row)) (.slice (some ⟨b, o, none⟩) n c)) (hx : h.at s.n = some x) (hc : 1 ≤ x.count) :
    Calls Try.prog 32 #[.pointer (some ⟨p, 0, none⟩), .agg #[.int .i64 s.kind, .int .i64 s.n]] w fun e w' => e = .returned (.pointer (some ⟨b, o + s.n.toNat * 3, none⟩)) ∧ Below w.heap.size w w' := by
  obtain ⟨hn, _, hm⟩ := hR.len_inv
  unfold maxLen at hm
  obtain ⟨h0, h1, b', o', sa, sc, hbo, hob, c0, _⟩ := Cll.count_at hR hx
  simp only [Option.some.injEq, Addr.mk.injEq, and_true] at hbo
  obtain ⟨rfl, rfl⟩ := hbo
  have hbl := hok _ hob
  have hpl := World.block_lt_of_cell? w _ hp
  have hca : ∀ ob : Obj, (w.alloc ob).cell? ⟨p, 0, none⟩ = some (.slice (some ⟨b, o, none⟩) n c) := fun ob => (World.cell?_alloc_lt w ob ⟨p, 0, none⟩ hpl).trans hp
  have hcb : ∀ ob : Obj, (w.alloc ob).cell? ⟨b, o + s.n.toNat * 3, none⟩ = some (.int .i64 x.count) := fun ob => (World.cell?_alloc_lt w ob ⟨b, _, none⟩ hbl).trans c0
  clear hx hn
  have hn0 : decide (s.n < 0) = false := by simpa using h0
  have hn1 : decide ((n : Int) ≤ s.n) = false := by simpa using h1
  have hn2 : decide (x.count < 1) = false := by simpa using hc
  go_enter Try.func32, Try.ntmps32
  go_wp2_with fail
  go_quiet (fail)
  go_wp2_with fail
  go_quiet (fail)
  go_wp2_with fail
  go_ret
  exact ⟨rfl, ((Below.refl _ _).alloc (Nat.le_refl _) _).trans (by first | exact Below.refl _ _ | exact ⟨rfl, rfl, rfl, Nat.le_refl _, fun _ _ => rfl⟩)⟩

set_option maxHeartbeats 1000000 in
theorem heap_cell_none (h : Hp) (s : Slt) (ok : Nat → Prop) (a : Option Addr) (n c p : Nat) (w : World) (hok : ∀ b, ok b → b < w.heap.size) (hp : w.cell? ⟨p, 0, none⟩ = some (.slice a n c)) (hR : Rep w ok (.sl (h.cells.map Cll.row)) (.slice a n c)) (hx : ∀ x, h.at s.n = some x → x.count < 1) :
    Calls Try.prog 32 #[.pointer (some ⟨p, 0, none⟩), .agg #[.int .i64 s.kind, .int .i64 s.n]] w fun e w' => e = .returned (.pointer none) ∧ Below w.heap.size w w' := by
  obtain ⟨hn, _, hm⟩ := hR.len_inv
  rw [List.length_map] at hn
  unfold maxLen at hm
  have hpl := World.block_lt_of_cell? w _ hp
  have hca : ∀ ob : Obj, (w.alloc ob).cell? ⟨p, 0, none⟩ = some (.slice a n c) := fun ob => (World.cell?_alloc_lt w ob ⟨p, 0, none⟩ hpl).trans hp
  rcases hx' : h.at s.n with _ | x
  · have hi := Hp.at_none hx'
    rw [← hn] at hi
    clear hx hx' hn
    by_cases h0 : s.n < 0
    · clear hi
      have hn0 : decide (s.n < 0) = true := by simpa using h0
      go_enter Try.func32, Try.ntmps32
      go_wp2_with fail
      go_quiet (fail)
      go_wp2_with fail
      go_ret
      exact ⟨rfl, ((Below.refl _ _).alloc (Nat.le_refl _) _).trans (by first | exact Below.refl _ _ | exact ⟨rfl, rfl, rfl, Nat.le_refl _, fun _ _ => rfl⟩)⟩
    · have h1 : (n : Int) ≤ s.n := by omega
      clear hi
      have hn0 : decide (s.n < 0) = false := by simpa using h0
      have hn1 : decide ((n : Int) ≤ s.n) = true := by simpa using h1
      go_enter Try.func32, Try.ntmps32
      go_wp2_with fail
      go_quiet (fail)
      go_wp2_with fail
      go_ret
      exact ⟨rfl, ((Below.refl _ _).alloc (Nat.le_refl _) _).trans (by first | exact Below.refl _ _ | exact ⟨rfl, rfl, rfl, Nat.le_refl _, fun _ _ => rfl⟩)⟩
  · have hc := hx x hx'
    obtain ⟨h0, h1, b, o, sa, sc, rfl, hob, c0, _⟩ := Cll.count_at hR hx'
    have hbl := hok _ hob
    have hcb : ∀ ob : Obj, (w.alloc ob).cell? ⟨b, o + s.n.toNat * 3, none⟩ = some (.int .i64 x.count) := fun ob => (World.cell?_alloc_lt w ob ⟨b, _, none⟩ hbl).trans c0
    clear hx hx' hn
    have hn0 : decide (s.n < 0) = false := by simpa using h0
    have hn1 : decide ((n : Int) ≤ s.n) = false := by simpa using h1
    have hn2 : decide (x.count < 1) = true := by simpa using hc
    go_enter Try.func32, Try.ntmps32
    go_wp2_with fail
    go_quiet (fail)
    go_wp2_with fail
    go_ret
    exact ⟨rfl, ((Below.refl _ _).alloc (Nat.le_refl _) _).trans (by first | exact Below.refl _ _ | exact ⟨rfl, rfl, rfl, Nat.le_refl _, fun _ _ => rfl⟩)⟩
end Go.Proofs.Ytcakhebnebcpcaa
