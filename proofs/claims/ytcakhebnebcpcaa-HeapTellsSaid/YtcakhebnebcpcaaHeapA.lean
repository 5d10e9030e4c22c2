/- The data of package api's heaps; slices.Clone of slots; heap.Own. -/
import Derived.Test.YtcakhebnebcpcaaEng1
import Derived.Test.YtcakhebnebcpcaaRows
namespace Go.Proofs.Ytcakhebnebcpcaa
open Go.RowKit
set_option linter.unusedVariables false

structure Slt where
  kind : Int
  n : Int
  deriving DecidableEq
structure Cll where
  count : Int
  tag : Int
  slots : List Slt
  deriving DecidableEq
structure Hp where
  cells : List Cll
  made : Int
  used : Int
  live : Int
  peak : Int
  deriving DecidableEq

def Slt.row (s : Slt) : List D := [.int s.kind, .int s.n]
def Cll.row (c : Cll) : List D := [.int c.count, .int c.tag, .sl (c.slots.map Slt.row)]

theorem tInfo_Slot : (Try.prog.info? 24).map (fun i => (i.zero, i.size, i.bytes)) = some (some (.agg #[.int .i64 0, .int .i64 0]), 2, 16) := by kernel_rfl
theorem tInfo_Cell : (Try.prog.info? 51).map (fun i => (i.zero, i.size, i.bytes)) = some (some (.agg #[.int .i64 0, .int .i64 0, .slice none 0 0]), 3, 40) := by kernel_rfl

theorem Slt.row_len (s : Slt) : s.row.length = 2 := rfl
theorem Cll.row_len (s : Cll) : s.row.length = 3 := rfl
theorem map_row_len {α : Type} (f : α → List D) (k : Nat) (hf : ∀ x, (f x).length = k) (l : List α) (i : Nat) (r : List D) (h : (l.map f)[i]? = some r) : r.length = k := by
  obtain ⟨x, _, rfl⟩ := List.mem_map.1 (List.mem_of_getElem? h)
  exact hf x

theorem flat_map {α : Type} (f : α → List D) (hf : ∀ (x : α) (j : Nat) (d : D), (f x)[j]? = some d → d.flat) (l : List α) (i j : Nat) (r : List D) (d : D) (h : (l.map f)[i]? = some r) (hd : r[j]? = some d) : d.flat := by
  obtain ⟨x, _, rfl⟩ := List.mem_map.1 (List.mem_of_getElem? h)
  exact hf x j d hd
theorem Slt.flat (s : Slt) (j : Nat) (d : D) (h : s.row[j]? = some d) : d.flat := by
  match j, h with
  | 0, h => simp [Slt.row] at h; subst h; trivial
  | 1, h => simp [Slt.row] at h; subst h; trivial

set_option maxHeartbeats 400000 in
theorem slices_Clone_Slot (l : List Slt) (ok : Nat → Prop) (a : Option Addr) (n c : Nat) (w : World) (hn : n = l.length) (hbig : n ≤ 8796093022208) (hok : ∀ b, ok b → b < w.heap.size) (hR : Rep w ok (.sl (l.map Slt.row)) (.slice a n c)) :
    Calls Try.prog 31 #[.slice a n c] w fun e w' => ∃ a' c', e = .returned (.slice a' n c') ∧ Rep w' (fun b => w.heap.size ≤ b ∧ b < w'.heap.size) (.sl (l.map Slt.row)) (.slice a' n c') ∧ Below w.heap.size w w' := by
  obtain ⟨i0, hi, hz0, hz1, hz2⟩ := info_parts tInfo_Slot
  have q := fun (w : World) (a : Option Addr) (n c n' c' : Nat) => Lib.run_eql_slice_nil (P := Try.prog) w 25 24 a n c n' c' Try.underlying25
  have HN := Lib.hid hn
  clear hn
  go_enter Try.func31, Try.ntmps31
  rcases a with _ | ad
  · go_wp2_with fail
    go_ret
    obtain ⟨h0, rfl, rfl⟩ := hR.none_inv
    exact ⟨none, 0, rfl, by rw [h0]; exact .empty none 0 (fun _ => rfl) (Nat.zero_le _), Below.refl _ _⟩
  · go_wp2_with (at_builtin; refine wpList_arr_append _ rfl (.tmp 5) (.tmp 6) 25 rfl w.heap.size 24 i0 _ 2 16 Try.underlying25 hi hz0 hz1 hz2 rfl (by omega) (fun _ => False) _ [] rfl (Arr.made w w.heap.size _ 2 _ (Nat.le_refl _)) (some ad) n c (l.map Slt.row) ?c1 rfl ok ?c2 ?c3 ?c4 ?c5 ?c6 ?c7 ?c8 ?_)
    case c1 => rw [HN.out]; simp
    case c2 => exact hR.alloc _ hok
    case c3 => intro i j r d u hr hd hu; refine hu.flat ?_; exact flat_map Slt.row Slt.flat l i j r d hr hd
    case c4 => exact map_row_len _ _ Slt.row_len l
    case c5 => have := HN.out; simp [maxLen]; omega
    case c6 => have := HN.out; simp; omega
    case c7 => simp
    case c8 => simp
    intro v' w1 hA hg hv'
    have hb : Below w.heap.size w w1 := ((Below.refl _ _).alloc (Nat.le_refl _) _).grown hg (by simp) (by simp [Value.ownBlock])
    have hF : ∃ a' c', v' = .slice a' n c' ∧ Rep w1 (fun b => w.heap.size ≤ b ∧ b < w1.heap.size) (.sl (l.map Slt.row)) (.slice a' n c') := by
      have h1 := hA.rep (ok' := fun b => w.heap.size ≤ b ∧ b < w1.heap.size) (fun b h1 h2 => ⟨h1, h2⟩) (fun b h => h.elim)
      obtain ⟨a', c', rfl, _⟩ := h1.sl_inv
      refine ⟨a', c', by rw [HN.out]; simp, ?_⟩
      rw [HN.out]
      simpa using h1
    obtain ⟨a', c', rfl, hF⟩ := hF
    go_wp2
    go_ret
    exact ⟨a', c', rfl, hF, hb⟩
end Go.Proofs.Ytcakhebnebcpcaa
