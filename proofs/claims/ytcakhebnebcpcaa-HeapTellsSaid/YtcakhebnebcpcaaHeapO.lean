/- slices.IndexFunc at heap.Make's test. -/
import Derived.Test.YtcakhebnebcpcaaHeapN
namespace Go.Proofs.Ytcakhebnebcpcaa
open Go.RowKit
set_option linter.unusedVariables false

/-- The first free cell (or how many cells there are). -/
def room : List Cll → Nat
  | [] => 0
  | x :: r => if x.count = 0 then 0 else room r + 1
theorem room_le (l : List Cll) : room l ≤ l.length := by
  induction l with
  | nil => exact Nat.le_refl _
  | cons x r ih => unfold room; split <;> simp <;> omega
theorem room_skip (ys zs : List Cll) (h : ∀ y ∈ ys, y.count ≠ 0) : room (ys ++ zs) = ys.length + room zs := by
  induction ys with
  | nil => simp
  | cons y r ih =>
    have h1 : y.count ≠ 0 := h y (by simp)
    rw [List.cons_append, room, if_neg h1, ih (fun z hz => h z (by simp [hz]))]
    simp
    omega
def roomI (l : List Cll) : Int := if room l < l.length then (room l : Int) else -1

set_option maxHeartbeats 400000 in
theorem heap_Make1 (x : Cll) (v : Value) (w : World) :
    Calls Try.prog 35 #[.agg #[.int .i64 x.count, .int .i64 x.tag, v]] w fun e w' => e = .returned (.bool (x.count == 0)) ∧ Below w.heap.size w w' := by
  go_enter Try.func35, Try.ntmps35
  go_wp2_with fail
  go_ret
  exact ⟨rfl, (Below.refl _ _).alloc (Nat.le_refl _) _⟩

set_option maxHeartbeats 1000000 in
theorem heap_Index (l : List Cll) (ok : Nat → Prop) (a : Option Addr) (n c : Nat) (w : World) (hok : ∀ b, ok b → b < w.heap.size) (hR : Rep w ok (.sl (l.map Cll.row)) (.slice a n c)) :
    Calls Try.prog 34 #[.slice a n c, .func (.func 35) #[] #[]] w fun e w' => e = .returned (.int .i64 (roomI l)) ∧ Below w.heap.size w w' := by
  obtain ⟨hn, _, hm⟩ := hR.len_inv
  rw [List.length_map] at hn
  have HN := Lib.hid hn
  clear hn
  unfold maxLen at hm
  go_enter Try.func34, Try.ntmps34
  go_wp2_with fail
  go_loopw [8] (fun i wr => ∃ ys zs : List Cll, Hid (l = ys ++ zs ∧ ∀ y ∈ ys, y.count ≠ 0) ∧ i = .int .i64 ys.length ∧ Below w.heap.size w wr)
    (fun i _ => n - (intOf i).toNat)
  case atStart => exact ⟨[], l, ⟨rfl, by simp⟩, rfl, Below.refl _ _⟩
  case round =>
    obtain ⟨ys, zs, HL, rfl, hb⟩ := hrel
    rcases zs with _ | ⟨x, zs⟩
    · have hlen : n ≤ ys.length := by rw [HN.out, HL.out.1]; simp
      have HE : Hid (roomI l = -1) := by
        obtain ⟨h1, h2⟩ := HL.out
        rw [Hid, roomI, if_neg]
        have := room_skip ys [] h2
        rw [h1, this]
        simp
      go_wp2_with fail
      go_ret
      exact ⟨by rw [HE.out]; rfl, hb⟩
    · have hlt : ys.length < n := by rw [HN.out, HL.out.1]; simp
      obtain ⟨b, o, sa, sc, rfl, hob, c0, c1, c2, _⟩ := Cll.at_ hR HL.out.1
      have hbl := hok _ hob
      have d0 := (hb.cell (p := ⟨b, o + ys.length * 3, none⟩) hbl).trans c0
      have d1 := (hb.cell (p := ⟨b, o + ys.length * 3 + 1, none⟩) hbl).trans c1
      have d2 := (hb.cell (p := ⟨b, o + ys.length * 3 + 2, none⟩) hbl).trans c2
      clear c0 c1 c2
      by_cases hx : x.count = 0
      · have hx' : (x.count == 0) = true := by simpa using hx
        have HE : Hid (roomI l = ys.length) := by
          obtain ⟨h1, h2⟩ := HL.out
          have := room_skip ys (x :: zs) h2
          rw [room, if_pos hx] at this
          rw [Hid, roomI, h1, this, if_pos (by simp)]
          simp
        clear hx
        go_wp2_with fail
        refine (heap_Make1 x _ _).mono ?_
        rintro e w1 ⟨rfl, hb1⟩
        go_wp2_with fail
        go_ret
        exact ⟨by rw [HE.out]; rfl, hb.trans (hb1.mono hb.size)⟩
      · have hx' : (x.count == 0) = false := by simpa using hx
        have HL2 : Hid (l = (ys ++ [x]) ++ zs ∧ ∀ y ∈ ys ++ [x], y.count ≠ 0) := ⟨by rw [HL.out.1]; simp, fun y hy => by
          rcases List.mem_append.1 hy with h1 | h1
          · exact HL.out.2 y h1
          · simp at h1; rw [h1]; exact hx⟩
        clear hx
        go_wp2_with fail
        refine (heap_Make1 x _ _).mono ?_
        rintro e w1 ⟨rfl, hb1⟩
        have hb2 := hb.trans (hb1.mono hb.size)
        clear hb1
        go_wp2_with fail
        go_roundw
        case rel => exact ⟨ys ++ [x], zs, HL2, by simp, hb2⟩
        case measure => simp [intOf]; omega
end Go.Proofs.Ytcakhebnebcpcaa
