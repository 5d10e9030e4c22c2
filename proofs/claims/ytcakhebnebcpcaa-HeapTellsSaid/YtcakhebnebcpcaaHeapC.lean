/- xcref10.SameSlots, There, kept; heap.cell, heap.kept. -/
import Derived.Test.YtcakhebnebcpcaaHeapB
namespace Go.Proofs.Ytcakhebnebcpcaa
open Go.RowKit
set_option linter.unusedVariables false

theorem Slt.at_ {w : World} {ok : Nat → Prop} {l ys zs : List Slt} {x : Slt} {a : Option Addr} {n c : Nat} (h : Rep w ok (.sl (l.map Slt.row)) (.slice a n c)) (hl : l = ys ++ x :: zs) :
    ∃ (b o : Nat), a = some ⟨b, o, none⟩ ∧ ok b ∧ w.cell? ⟨b, o + ys.length * 2, none⟩ = some (.int .i64 x.kind) ∧ w.cell? ⟨b, o + ys.length * 2 + 1, none⟩ = some (.int .i64 x.n) ∧
      (-9223372036854775808 ≤ x.kind ∧ x.kind ≤ 9223372036854775807) ∧ (-9223372036854775808 ≤ x.n ∧ x.n ≤ 9223372036854775807) := by
  obtain ⟨hn, _⟩ := h.len_inv
  have hlt : ys.length < n := by rw [hn, hl]; simp
  obtain ⟨b, o, size, V, r, hr, hsz, rfl, hob, hc, hd⟩ := h.at_ hlt
  have hx : (l.map Slt.row)[ys.length]? = some x.row := by rw [hl]; simp
  rw [hx] at hr
  obtain rfl := Option.some.inj hr
  rw [Slt.row_len] at hsz
  subst hsz
  obtain ⟨e0, l0, u0⟩ := (hd 0 _ rfl).int_inv
  obtain ⟨e1, l1, u1⟩ := (hd 1 _ rfl).int_inv
  refine ⟨b, o, rfl, hob, ?_, ?_, ⟨l0, u0⟩, ⟨l1, u1⟩⟩
  · rw [← e0]; exact hc 0 (by omega)
  · rw [← e1]; exact hc 1 (by omega)

theorem slot_neq (x y : Slt) (w : World) : (binOp .neq 24 (.agg #[.int .i64 x.kind, .int .i64 x.n]) (.agg #[.int .i64 y.kind, .int .i64 y.n])).run Try.prog w = .ok (.bool (!decide (x = y))) w := by
  have u3 := Try.underlying3
  have a3 := Try.isAgg3
  have z3 := Try.sizeOf3
  have hS : Try.prog.underlying 24 = some (.struct (Try.prog.fieldsOf 24)) := by kernel_rfl
  have hp : Try.prog.stoodInHeld 24 = false := by kernel_rfl
  rw [run_neq_struct, show (10000 : Nat) = 9999 + 1 from rfl, run_equalIn_agg w 9999 24 _ _ hS hp]
  simp only [Program.fieldsOf, Try.underlying24]
  go_simp
  obtain ⟨a, b⟩ := x
  obtain ⟨c, d⟩ := y
  by_cases h1 : a = c <;> by_cases h2 : b = d <;> simp [h1, h2]

theorem slot_guard (op : BinOp) (x y : Operand) (xs ys : Array Value) (w : World) : (eqGuard op 24 x y (.agg xs) (.agg ys)).run Try.prog w = .ok () w :=
  run_eqGuard_agg w op 24 x y xs ys (by kernel_rfl)

set_option maxHeartbeats 1000000 in
theorem ref_SameSlots (l m : List Slt) (ok : Nat → Prop) (a b : Option Addr) (n c n' c' : Nat) (w : World) (hR : Rep w ok (.sl (l.map Slt.row)) (.slice a n c)) (hR' : Rep w ok (.sl (m.map Slt.row)) (.slice b n' c')) :
    Calls Try.prog 13 #[.slice a n c, .slice b n' c'] w fun e w' => e = .returned (.bool (decide (l = m))) ∧ ∃ k, w' = w.drewN k := by
  obtain ⟨hn, _, hm⟩ := hR.len_inv
  obtain ⟨hn', _, hm'⟩ := hR'.len_inv
  rw [List.length_map] at hn hn'
  have HN := Lib.hid hn
  have HN' := Lib.hid hn'
  clear hn hn'
  unfold maxLen at hm hm'
  by_cases hne : n = n'
  · subst hne
    go_enter Try.func13, Try.ntmps13
    go_wp2_with fail
    go_loopw [13] (fun i wr => ∃ ys zs zs' : List Slt, Hid (l = ys ++ zs ∧ m = ys ++ zs') ∧ i = .int .i64 ys.length ∧ ∃ q, wr = w.drewN q)
      (fun i _ => n - (intOf i).toNat)
    case atStart => exact ⟨[], l, m, ⟨rfl, rfl⟩, rfl, 0, rfl⟩
    case round =>
      obtain ⟨ys, zs, zs', HL, rfl, q, rfl⟩ := hrel
      obtain ⟨hl1, hl2⟩ := HL.out
      rcases zs with _ | ⟨x, zs⟩
      · have hlen : n ≤ ys.length := by rw [HN.out, hl1]; simp
        have hz : zs' = [] := by
          have h1 := HN.out
          have h2 := HN'.out
          rw [hl1] at h1
          rw [hl2] at h2
          simp at h1 h2
          exact List.eq_nil_of_length_eq_zero (by omega)
        have HE : Hid (decide (l = m) = true) := by subst hz; simp [hl1, hl2, Hid]
        clear hl1 hl2 hz
        go_wp2_with fail
        go_ret
        exact ⟨by rw [HE.out]; rfl, q, rfl⟩
      · rcases zs' with _ | ⟨x', zs'⟩
        · exfalso
          have h1 := HN.out
          have h2 := HN'.out
          rw [hl1] at h1
          rw [hl2] at h2
          simp at h1 h2
          omega
        · have hlt : ys.length < n := by rw [HN.out, hl1]; simp
          obtain ⟨b1, o1, rfl, hob, c0, c1, r0, r1⟩ := Slt.at_ hR hl1
          obtain ⟨b2, o2, rfl, hob', c0', c1', r0', r1'⟩ := Slt.at_ hR' hl2
          have hsg := slot_guard
          by_cases hx : x = x'
          · have hsn : ∀ w, (binOp .neq 24 (.agg #[.int .i64 x.kind, .int .i64 x.n]) (.agg #[.int .i64 x'.kind, .int .i64 x'.n])).run Try.prog w = .ok (.bool false) w := fun w => by rw [slot_neq]; simp [hx]
            have HN2 : Hid (l = (ys ++ [x]) ++ zs ∧ m = (ys ++ [x]) ++ zs') := ⟨by rw [hl1]; simp, by rw [hl2, hx]; simp⟩
            clear hl1 hl2 hx
            go_wp2_with fail
            go_quiet (fail)
            go_wp2_with fail
            go_roundw
            case rel => exact ⟨ys ++ [x], zs, zs', HN2, by simp, _, rfl⟩
            case measure => simp [intOf]; omega
          · have hsn : ∀ w, (binOp .neq 24 (.agg #[.int .i64 x.kind, .int .i64 x.n]) (.agg #[.int .i64 x'.kind, .int .i64 x'.n])).run Try.prog w = .ok (.bool true) w := fun w => by rw [slot_neq]; simp [hx]
            have HE : Hid (decide (l = m) = false) := by simp [hl1, hl2, Hid]; intro h; exact absurd h hx
            clear hl1 hl2 hx
            go_wp2_with fail
            go_quiet (fail)
            go_wp2_with fail
            go_ret
            exact ⟨by rw [HE.out]; rfl, _, World.drewN_drewN _ _ _⟩
  · have HE : Hid (decide (l = m) = false) := by simp [Hid]; rintro rfl; exact hne (by rw [HN.out, HN'.out])
    go_enter Try.func13, Try.ntmps13
    go_wp2_with fail
    go_ret
    exact ⟨by rw [HE.out]; rfl, 0, rfl⟩
/-- The cell that a number stands for, if there is one. -/
def Hp.at (h : Hp) (n : Int) : Option Cll := if 0 ≤ n then h.cells[n.toNat]? else none
def Hp.there (h : Hp) (s : Slt) : Bool := s.kind == 2 && (match h.at s.n with | some c => decide (0 < c.count) | none => false)
def Hp.kept (h : Hp) (s : Slt) : Bool := match h.at s.n with | some c => c.count == -1 | none => false

theorem split_at {α : Type} {l : List α} {k : Nat} {x : α} (h : l[k]? = some x) : ∃ ys zs, l = ys ++ x :: zs ∧ ys.length = k := by
  have hk := (List.getElem?_eq_some_iff.1 h).1
  refine ⟨l.take k, l.drop (k + 1), ?_, by simp; omega⟩
  have : l[k] = x := (List.getElem?_eq_some_iff.1 h).2
  rw [← this, ← List.drop_eq_getElem_cons hk, List.take_append_drop]

theorem Hp.at_some {h : Hp} {i : Int} {x : Cll} (e : h.at i = some x) : 0 ≤ i ∧ i < h.cells.length ∧ ∃ ys zs, h.cells = ys ++ x :: zs ∧ ys.length = i.toNat := by
  unfold Hp.at at e
  split at e
  · obtain ⟨ys, zs, h1, h2⟩ := split_at e
    have := (List.getElem?_eq_some_iff.1 e).1
    exact ⟨by assumption, by omega, ys, zs, h1, h2⟩
  · cases e
theorem Hp.at_none {h : Hp} {i : Int} (e : h.at i = none) : i < 0 ∨ h.cells.length ≤ i := by
  unfold Hp.at at e
  split at e
  · have := List.getElem?_eq_none_iff.1 e
    omega
  · omega

/-- The count of the cell that a number stands for. -/
theorem Cll.count_at {w : World} {ok : Nat → Prop} {h : Hp} {i : Int} {x : Cll} {a : Option Addr} {n c : Nat} (hR : Rep w ok (.sl (h.cells.map Cll.row)) (.slice a n c)) (e : h.at i = some x) :
    0 ≤ i ∧ i < n ∧ ∃ (b o : Nat) (sa : Option Addr) (sc : Nat), a = some ⟨b, o, none⟩ ∧ ok b ∧ w.cell? ⟨b, o + i.toNat * 3, none⟩ = some (.int .i64 x.count) ∧ w.cell? ⟨b, o + i.toNat * 3 + 1, none⟩ = some (.int .i64 x.tag) ∧
      w.cell? ⟨b, o + i.toNat * 3 + 2, none⟩ = some (.slice sa x.slots.length sc) ∧ Rep w ok (.sl (x.slots.map Slt.row)) (.slice sa x.slots.length sc) ∧ (-9223372036854775808 ≤ x.count ∧ x.count ≤ 9223372036854775807) ∧ (-9223372036854775808 ≤ x.tag ∧ x.tag ≤ 9223372036854775807) := by
  obtain ⟨h0, h1, ys, zs, hl, hk⟩ := Hp.at_some e
  obtain ⟨hn, _⟩ := hR.len_inv
  rw [List.length_map] at hn
  refine ⟨h0, by omega, ?_⟩
  rw [← hk]
  exact Cll.at_ hR hl

set_option maxHeartbeats 1000000 in
theorem ref_There (h : Hp) (s : Slt) (ok : Nat → Prop) (a : Option Addr) (n c : Nat) (w : World) (hok : ∀ b, ok b → b < w.heap.size) (hR : Rep w ok (.sl (h.cells.map Cll.row)) (.slice a n c)) :
    Calls Try.prog 33 #[.agg #[.slice a n c, .int .i64 h.made, .int .i64 h.used, .int .i64 h.live, .int .i64 h.peak], .agg #[.int .i64 s.kind, .int .i64 s.n]] w fun e w' => e = .returned (.bool (h.there s)) ∧ Below w.heap.size w w' := by
  obtain ⟨hn, _, hm⟩ := hR.len_inv
  rw [List.length_map] at hn
  unfold maxLen at hm
  by_cases hk : s.kind = 2
  · rcases hx : h.at s.n with _ | x
    · have HE : Hid (h.there s = false) := by simp [Hid, Hp.there, hx]
      have hi := Hp.at_none hx
      rw [← hn] at hi
      clear hx hn
      by_cases h0 : s.n < 0
      · clear hi
        go_enter Try.func33, Try.ntmps33
        go_wp2_with fail
        go_ret
        exact ⟨by rw [HE.out]; simp, ((Below.refl _ _).alloc (Nat.le_refl _) _).alloc (by simp) _⟩
      · have h1 : (n : Int) ≤ s.n := by omega
        clear hi
        go_enter Try.func33, Try.ntmps33
        go_wp2_with fail
        go_ret
        exact ⟨by rw [HE.out]; simp, ((Below.refl _ _).alloc (Nat.le_refl _) _).alloc (by simp) _⟩
    · have HE : Hid (h.there s = decide (0 < x.count)) := by simp [Hid, Hp.there, hx, hk]
      obtain ⟨h0, h1, b, o, sa, sc, rfl, hob, c0, _⟩ := Cll.count_at hR hx
      have hbl := hok _ hob
      clear hx hn
      go_enter Try.func33, Try.ntmps33
      go_wp2_with fail
      go_ret
      exact ⟨by rw [HE.out]; simp, ((Below.refl _ _).alloc (Nat.le_refl _) _).alloc (by simp) _⟩
  · have HE : Hid (h.there s = false) := by simp [Hid, Hp.there, hk]
    have hk' : (s.kind == 2) = false := by simpa using hk
    clear hn
    go_enter Try.func33, Try.ntmps33
    go_wp2_with fail
    go_ret
    exact ⟨by rw [HE.out]; simp, ((Below.refl _ _).alloc (Nat.le_refl _) _).alloc (by simp) _⟩
end Go.Proofs.Ytcakhebnebcpcaa
