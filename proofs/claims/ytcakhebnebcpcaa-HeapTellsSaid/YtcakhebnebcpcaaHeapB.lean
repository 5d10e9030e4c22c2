/- heap.Own. -/
import Derived.Test.YtcakhebnebcpcaaHeapA
namespace Go.Proofs.Ytcakhebnebcpcaa
open Go.RowKit
set_option linter.unusedVariables false

theorem Cll.at_ {w : World} {ok : Nat → Prop} {l ys zs : List Cll} {x : Cll} {a : Option Addr} {n c : Nat} (h : Rep w ok (.sl (l.map Cll.row)) (.slice a n c)) (hl : l = ys ++ x :: zs) :
    ∃ (b o : Nat) (sa : Option Addr) (sc : Nat), a = some ⟨b, o, none⟩ ∧ ok b ∧ w.cell? ⟨b, o + ys.length * 3, none⟩ = some (.int .i64 x.count) ∧ w.cell? ⟨b, o + ys.length * 3 + 1, none⟩ = some (.int .i64 x.tag) ∧
      w.cell? ⟨b, o + ys.length * 3 + 2, none⟩ = some (.slice sa x.slots.length sc) ∧ Rep w ok (.sl (x.slots.map Slt.row)) (.slice sa x.slots.length sc) ∧ (-9223372036854775808 ≤ x.count ∧ x.count ≤ 9223372036854775807) ∧ (-9223372036854775808 ≤ x.tag ∧ x.tag ≤ 9223372036854775807) := by
  obtain ⟨hn, _⟩ := h.len_inv
  have hlt : ys.length < n := by rw [hn, hl]; simp
  obtain ⟨b, o, size, V, r, hr, hsz, rfl, hob, hc, hd⟩ := h.at_ hlt
  have hx : (l.map Cll.row)[ys.length]? = some x.row := by rw [hl]; simp
  rw [hx] at hr
  obtain rfl := Option.some.inj hr
  rw [Cll.row_len] at hsz
  subst hsz
  obtain ⟨e0, l0, u0⟩ := (hd 0 _ rfl).int_inv
  obtain ⟨e1, l1, u1⟩ := (hd 1 _ rfl).int_inv
  have h2 := hd 2 _ rfl
  obtain ⟨sa, sc, e2, _⟩ := h2.sl_inv
  rw [List.length_map] at e2
  refine ⟨b, o, sa, sc, rfl, hob, ?_, ?_, ?_, by rw [← e2]; exact h2, ⟨l0, u0⟩, ⟨l1, u1⟩⟩
  · rw [← e0]; exact hc 0 (by omega)
  · rw [← e1]; exact hc 1 (by omega)
  · rw [← e2]; exact hc 2 (by omega)

theorem Cll.repRow {w : World} {ok : Nat → Prop} {x : Cll} {sa : Option Addr} {sc : Nat} (h : Rep w ok (.sl (x.slots.map Slt.row)) (.slice sa x.slots.length sc)) (r0 : -9223372036854775808 ≤ x.count ∧ x.count ≤ 9223372036854775807) (r1 : -9223372036854775808 ≤ x.tag ∧ x.tag ≤ 9223372036854775807) :
    RepRow w ok x.row [.int .i64 x.count, .int .i64 x.tag, .slice sa x.slots.length sc] := by
  refine ⟨rfl, fun j d v hd hv => ?_⟩
  match j, hd, hv with
  | 0, hd, hv => simp [Cll.row] at hd hv; subst hd hv; exact .int _ r0.1 r0.2
  | 1, hd, hv => simp [Cll.row] at hd hv; subst hd hv; exact .int _ r1.1 r1.2
  | 2, hd, hv => simp [Cll.row] at hd hv; subst hd hv; exact h

set_option maxHeartbeats 1000000 in
theorem heap_Own (l : List Cll) (made used live peak : Int) (ok : Nat → Prop) (a : Option Addr) (n c : Nat) (w : World) (hn : n = l.length) (hbig : n ≤ 1000000) (hs : ∀ x ∈ l, x.slots.length ≤ 8796093022208) (hok : ∀ b, ok b → b < w.heap.size) (hR : Rep w ok (.sl (l.map Cll.row)) (.slice a n c)) :
    Calls Try.prog 10 #[.agg #[.slice a n c, .int .i64 made, .int .i64 used, .int .i64 live, .int .i64 peak]] w fun e w' => ∃ v, e = .returned (.agg #[v, .int .i64 made, .int .i64 used, .int .i64 live, .int .i64 peak]) ∧
      Arr w' w.heap.size 51 3 (fun b => w.heap.size ≤ b ∧ b < w'.heap.size) v (l.map Cll.row) ∧ Below w.heap.size w w' := by
  obtain ⟨i0, hi, hz0, hz1, hz2⟩ := info_parts tInfo_Cell
  have HN := Lib.hid hn
  have HS := Lib.hid hs
  clear hn hs
  go_enter Try.func10, Try.ntmps10
  go_wp2_with fail
  go_loopw [3, 9] (fun v i wr => ∃ ys zs : List Cll, Hid (l = ys ++ zs) ∧ i = .int .i64 ys.length ∧ Arr wr (w.heap.size + 2) 51 3 (fun b => w.heap.size + 2 ≤ b ∧ b < wr.heap.size) v (ys.map Cll.row) ∧ Below w.heap.size w wr ∧
      Blk wr w.heap.size 28 #[.slice a n c, .int .i64 made, .int .i64 used, .int .i64 live, .int .i64 peak] ∧ Blk wr (w.heap.size + 1) 28 #[.slice none 0 0, .int .i64 0, .int .i64 0, .int .i64 0, .int .i64 0])
    (fun _ i _ => n - (intOf i).toNat)
  case atStart =>
    exact ⟨[], l, rfl, rfl, Arr.nil _ _ _ _ _, ((Below.refl _ _).alloc (Nat.le_refl _) _).alloc (by simp) _, (Blk.new _ _ _).alloc _, Blk.new' _ _ _ _ (by simp)⟩
  case round =>
    obtain ⟨ys, zs, HL, rfl, hA, hb, hB0, hB1⟩ := hrel
    have hwb : w.heap.size + 2 ≤ wr.heap.size := by have := hB1.lt; omega
    rcases zs with _ | ⟨x, zs⟩
    · have hlen : n ≤ ys.length := by rw [HN.out, HL.out]; simp
      have hc0 := hB0.cell
      have hc1 := hB1.cell
      have hf0 := hB0.frozen
      have hf1 := hB1.frozen
      obtain ⟨a3, c3, rfl⟩ := hA.shape
      rw [List.append_nil] at HL
      have hown := hA.own
      have HA := Lib.hid hA
      clear hA
      go_wp2_with fail
      rw [List.length_map] at HA hown
      refine bodyPost_ret (v := .agg #[.slice a3 ys.length c3, .int .i64 made, .int .i64 used, .int .i64 live, .int .i64 peak]) (by simp [results, Try.results10, go_sem, hc1]) rfl ?_
      clear hc0 hc1 hf0 hf1
      refine ⟨.slice a3 ys.length c3, ?_⟩
      refine And.intro rfl ?_
      refine And.intro ?_ ?_
      · rw [HL.out]
        refine Arr.weak (ok := fun b => w.heap.size + 2 ≤ b ∧ b < wr.heap.size) (Arr.base_ (base := w.heap.size + 2) ?_ (by omega)) (fun b hb => ⟨by omega, by simpa using hb.2⟩)
        iterate 6 refine Arr.setCell ?_ _ (fun e => by have := hown _ e; dsimp only at this; omega) (fun b hb => by dsimp only at hb ⊢; omega)
        exact HA.out
      · exact ((((((hb.setCell (by simp) _).setCell (by simp) _).setCell (by simp) _).setCell (by simp) _).setCell (by simp) _).setCell (by simp) _)
    · have hlt : ys.length < n := by rw [HN.out, HL.out]; simp
      have hsx : x.slots.length ≤ 8796093022208 := HS.out x (by rw [HL.out]; simp)
      obtain ⟨b, o, sa, sc, rfl, hob, c0, c1, c2, hrs, r0, r1⟩ := Cll.at_ hR HL.out
      have hbl := hok _ hob
      have d0 := (hb.cell (p := ⟨b, o + ys.length * 3, none⟩) hbl).trans c0
      have d1 := (hb.cell (p := ⟨b, o + ys.length * 3 + 1, none⟩) hbl).trans c1
      have d2 := (hb.cell (p := ⟨b, o + ys.length * 3 + 2, none⟩) hbl).trans c2
      go_wp2_with fail
      refine (slices_Clone_Slot x.slots ok sa _ sc _ rfl (by omega) (fun b hb => by simp; have := hok b hb; omega) ((hrs.under hb hok).alloc _ (fun b hb => by have := hok b hb; omega))).mono ?_
      rintro e w2 ⟨sa', sc', rfl, hr2, hb2⟩
      have hb2' : Below (wr.heap.size + 1) (wr.alloc (.cells #[.int .i64 x.count, .int .i64 x.tag, .slice sa x.slots.length sc] 51)) w2 := by simpa using hb2
      have hsz2 : wr.heap.size + 1 ≤ w2.heap.size := by have := hb2'.size; simpa using this
      have hBc : Blk w2 wr.heap.size 51 #[.int .i64 x.count, .int .i64 x.tag, .slice sa x.slots.length sc] := (Blk.new wr _ _).under hb2' (by omega)
      have hc2 := hBc.cell
      have hf2 := hBc.frozen
      have hA2 : Arr w2 (w.heap.size + 2) 51 3 (fun b => w.heap.size + 2 ≤ b ∧ b < w2.heap.size ∧ b ≠ wr.heap.size) u3 (ys.map Cll.row) :=
        ((hA.alloc _ (fun b hb => hb.2)).under hb2' (by simp) (fun b hb => by have := hb.2; omega)).weak (fun b hb => ⟨hb.1, by omega, by omega⟩)
      have hown : ∀ g, u3.ownBlock = some g → w.heap.size + 2 ≤ g ∧ g < wr.heap.size := hA.own
      have hr3 : Rep w2 (fun b => wr.heap.size + 1 ≤ b ∧ b < w2.heap.size) (.sl (x.slots.map Slt.row)) (.slice sa' x.slots.length sc') := by simpa using hr2
      have hb2w : Below wr.heap.size wr w2 := ((Below.refl _ wr).alloc (Nat.le_refl _) _).trans (hb2'.mono (by omega))
      have hA3 : Arr (w2.setCell ⟨wr.heap.size, 2, none⟩ (.slice sa' x.slots.length sc')) (w.heap.size + 2) 51 3 (fun b => w.heap.size + 2 ≤ b ∧ b < w2.heap.size ∧ b ≠ wr.heap.size) u3 (ys.map Cll.row) :=
        hA2.setCell _ (fun e => by have := hown _ e; simp at this) (fun b hb => hb.2.2)
      have hr4 : RepRow (w2.setCell ⟨wr.heap.size, 2, none⟩ (.slice sa' x.slots.length sc')) (fun b => (w.heap.size + 2 ≤ b ∧ b < w2.heap.size ∧ b ≠ wr.heap.size) ∧ u3.ownBlock ≠ some b) x.row [.int .i64 x.count, .int .i64 x.tag, .slice sa' x.slots.length sc'] :=
        Cll.repRow ((hr3.setCell _ (fun b hb => by show b ≠ wr.heap.size; omega)).weak fun b hb => ⟨⟨by omega, hb.2, by omega⟩, fun e => by have := (hown b e).2; omega⟩) r0 r1
      clear hb2 hr2 hb2' hA2 hr3 c0 c1 c2 d0 d1 d2
      go_wp2_with (at_builtin; refine wpList_arr_push _ rfl (.tmp 17) (.tmp 19) 26 rfl (w.heap.size + 2) 51 i0 _ 3 40 Try.underlying26 hi hz0 hz1 hz2 rfl (by omega) (fun b => w.heap.size + 2 ≤ b ∧ b < w2.heap.size ∧ b ≠ wr.heap.size) u3 (ys.map Cll.row) rfl _ _ hA3 _ rfl ?d7 x.row rfl hr4 ?d3 ?d4 ?d5 ?d6 ?_)
      case d7 => simp [World.setCell]
      case d3 => simp [maxLen]; omega
      case d4 => simp; omega
      case d5 => intro b hb; simp [World.setCell]; omega
      case d6 => simp [World.setCell]; omega
      intro g cap w4 hA4 hg4 hv4 hlt4
      have hsz4 : w2.heap.size + 1 ≤ w4.heap.size := by have := hg4.size; simpa [World.setCell] using this
      have hA5 : Arr w4 (w.heap.size + 2) 51 3 (fun b => w.heap.size + 2 ≤ b ∧ b < w4.heap.size) (.slice (some ⟨g, 0, none⟩) (ys.length + 1) cap) ((ys ++ [x]).map Cll.row) := by
        rw [List.map_append]
        simpa using hA4.weak fun b hb => ⟨hb.1, by omega⟩
      have hb4 : Below (w.heap.size + 2) wr w4 := ((hb2w.mono hwb).setCell (by simpa using hwb) _ |>.alloc (by simp [World.setCell]; omega) _).grown hg4 (by simp [World.setCell]; omega) fun k hk => (hown k hk).1
      have hB0' := hB0.under hb4 (by omega)
      have hB1' := hB1.under hb4 (by omega)
      have hb5 := hb.trans (hb4.mono (by omega))
      clear hA4 hg4 hA3 hA hB0 hB1 hb2w hc2 hf2
      have HA5 := Lib.hid hA5
      go_wp2
      go_roundw
      case rel => exact ⟨ys ++ [x], zs, by rw [HL.out, List.append_assoc]; rfl, by simp, HA5.out, hb5, hB0', hB1'⟩
      case measure => simp [intOf]; omega
end Go.Proofs.Ytcakhebnebcpcaa
