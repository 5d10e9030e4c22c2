/- xcref10.Make. -/
import Derived.Test.YtcakhebnebcpcaaHeapP
namespace Go.Proofs.Ytcakhebnebcpcaa
open Go.RowKit
set_option linter.unusedVariables false

set_option maxHeartbeats 1000000 in
theorem ref_Make (hp : Hp) (tag : Int) (l : List Slt) (M : Int) (ok : Nat → Prop) (a : Option Addr) (n c : Nat) (la : Option Addr) (ln lc : Nat) (w : World) (hM : M ≤ 1000000) (hO : hp.Ok M) (ht : -9223372036854775808 ≤ tag ∧ tag ≤ 9223372036854775807) (hl : ln = l.length) (hlb : ln ≤ 8796093022208)
    (hok : ∀ b, ok b → b < w.heap.size) (hR : Rep w ok (.sl (hp.cells.map Cll.row)) (.slice a n c)) (hL : Rep w ok (.sl (l.map Slt.row)) (.slice la ln lc)) :
    Calls Try.prog 15 #[.agg #[.slice a n c, .int .i64 hp.made, .int .i64 hp.used, .int .i64 hp.live, .int .i64 hp.peak], .int .i64 tag, .slice la ln lc] w (MakeSaid hp tag l ok w) := by
  have hn := hR.len_inv.1
  rw [List.length_map] at hn
  have hlen := hO.len
  have hsl : ∀ x ∈ hp.cells, x.slots.length ≤ 8796093022208 := fun x hx => by have := hO.slots x hx; omega
  have hmd := hO.made
  have hlv := hO.live
  have hpk := hO.peak
  have hus := hO.used
  have HN := Lib.hid hn
  have HO := Lib.hid hO
  have HLn := Lib.hid hl
  clear hn hO hl
  by_cases hf : 200 ≤ hp.live
  · have HE : Hid (hp.make tag l = (Hp.zero, ⟨0, 0⟩, 13)) := by rw [Hid, Hp.make, if_pos hf]
    go_enter Try.func15, Try.ntmps15
    go_wp2_with fail
    refine bodyPost_ret (v := .tuple #[.agg #[.slice none 0 0, .int .i64 0, .int .i64 0, .int .i64 0, .int .i64 0], .agg #[.int .i64 0, .int .i64 0], .int .i64 13]) (by simp [results, Try.results15, go_sem]) rfl ?_
    refine ⟨_, by rw [HE.out], by rw [HE.out]; exact HpRet.zero, ?_⟩
    exact (((Below.refl _ w).alloc (Nat.le_refl _) _).alloc (by simp) _).alloc (by simp; omega) _
  · obtain ⟨i0, hi, hz0, hz1, hz2⟩ := info_parts tInfo_Cell
    obtain ⟨j0, hj, hy0, hy1, hy2⟩ := info_parts tInfo_Slot
    have hokB : ∀ (o1 o2 o3 : Obj), ∀ b, ok b → b < (((w.alloc o1).alloc o2).alloc o3).heap.size := fun _ _ _ b hb => by have := hok b hb; simp; omega
    go_enter Try.func15, Try.ntmps15
    go_wp2_with fail
    refine (ref_Own hp.cells hp.made hp.used hp.live hp.peak ok a n c _ HN.out (by have := HN.out; omega) hsl (hokB _ _ _) (((hR.alloc _ hok).alloc _ (fun b hb => by have := hok b hb; simp; omega)).alloc _ (fun b hb => by have := hok b hb; simp; omega))).mono ?_
    rintro e w1 ⟨a', c', rfl, hA, hb1⟩
    have hH := Blk.under (((Blk.new w 28 #[.slice a n c, .int .i64 hp.made, .int .i64 hp.used, .int .i64 hp.live, .int .i64 hp.peak]).alloc _).alloc _) hb1 (by simp; omega)
    have hQ := Blk.under ((Blk.new' (w.alloc _) 28 #[.slice none 0 0, .int .i64 0, .int .i64 0, .int .i64 0, .int .i64 0] (w.heap.size + 1) (by simp)).alloc _) hb1 (by simp)
    have hZ := Blk.under (Blk.new' ((w.alloc _).alloc _) 24 #[.int .i64 0, .int .i64 0] (w.heap.size + 1 + 1) (by simp)) hb1 (by simp)
    have hbw : Below w.heap.size w w1 := ((((Below.refl _ w).alloc (Nat.le_refl _) _).alloc (by simp) _).alloc (by simp; omega) _).trans (hb1.mono (by simp; omega))
    have hsz : w.heap.size + 3 ≤ w1.heap.size := by have := hb1.size; simp at this; omega
    have hA1 : Arr w1 (w.heap.size + 3) 51 3 (okU ok (w.heap.size + 3) w1) (.slice a' n c') (hp.cells.map Cll.row) := by simpa using hA
    have hok1 : ∀ b, okU ok (w.heap.size + 3) w1 b → b < w1.heap.size ∧ b ≠ w.heap.size ∧ b ≠ w.heap.size + 1 ∧ b ≠ w.heap.size + 1 + 1 := fun b hb => by rcases hb with hb | hb <;> first | omega | (have := hok b hb; omega)
    have hL1 := hL.under hbw hok
    have hhc := hH.cell
    have hhf := hH.frozen
    have hown := hA1.own
    clear hA hb1
    obtain ⟨W, hW⟩ : ∃ W, W = (((((w1.setCell ⟨w.heap.size, 0, none⟩ (.slice a' n c')).setCell ⟨w.heap.size, 1, none⟩ (.int .i64 hp.made)).setCell ⟨w.heap.size, 2, none⟩ (.int .i64 hp.used)).setCell ⟨w.heap.size, 3, none⟩ (.int .i64 hp.live)).setCell ⟨w.heap.size, 4, none⟩ (.int .i64 hp.peak)) := ⟨_, rfl⟩
    have hWA : Arr W (w.heap.size + 3) 51 3 (okU ok (w.heap.size + 3) w1) (.slice a' n c') (hp.cells.map Cll.row) := by
      rw [hW]
      iterate 5 refine Arr.setCell ?_ _ (fun e => by have := (hown _ e).1; dsimp only at this; omega) (fun b hb => by have := hok1 b hb; dsimp only; omega)
      exact hA1
    have hWP : Blk W w.heap.size 28 #[.slice a' n c', .int .i64 hp.made, .int .i64 hp.used, .int .i64 hp.live, .int .i64 hp.peak] := by
      rw [hW]
      exact ((((hH.set_ 0 _).set_ 1 _).set_ 2 _).set_ 3 _).set_ 4 _
    have hWQ : Blk W (w.heap.size + 1) 28 #[.slice none 0 0, .int .i64 0, .int .i64 0, .int .i64 0, .int .i64 0] := by
      rw [hW]
      exact ((((hQ.far (by dsimp only; omega) _).far (by dsimp only; omega) _).far (by dsimp only; omega) _).far (by dsimp only; omega) _).far (by dsimp only; omega) _
    have hWZ : Blk W (w.heap.size + 1 + 1) 24 #[.int .i64 0, .int .i64 0] := by
      rw [hW]
      exact ((((hZ.far (by dsimp only; omega) _).far (by dsimp only; omega) _).far (by dsimp only; omega) _).far (by dsimp only; omega) _).far (by dsimp only; omega) _
    have hWb : Below w.heap.size w W := by
      rw [hW]
      exact (((((hbw.setCell (by simp) _).setCell (by simp) _).setCell (by simp) _).setCell (by simp) _).setCell (by simp) _)
    have hWs : W.heap.size = w1.heap.size := by rw [hW]; simp
    have hWL : Rep W ok (.sl (l.map Slt.row)) (.slice la ln lc) := by
      rw [hW]
      iterate 5 refine Rep.setCell ?_ _ (fun b hb => by have := hok b hb; dsimp only; omega)
      exact hL1
    have HW := Lib.hid hW
    clear hW
    go_upto_region 4 with (fail)
    have hW' := HW.out
    rw [← hW']
    clear hW' HW hhc hhf hH hQ hZ hA1 hL1
    have HWS := Lib.hid hWs
    have HWA := Lib.hid hWA
    have hws1 : w1.heap.size ≤ W.heap.size := by omega
    have hownW : ∀ q, (Value.slice a' n c').ownBlock = some q → w.heap.size + 3 ≤ q ∧ q < W.heap.size := hWA.own
    have hWR : Rep W (fun b => b < W.heap.size) (.sl (hp.cells.map Cll.row)) (.slice a' n c') := hWA.rep (fun b _ hp => hp) (fun b hb => by have := hok1 b hb; omega)
    have hcp0 := hWP.cell
    have hfp0 := hWP.frozen
    clear hWs hWA hown
    have hnb : n ≤ 1000000 := by have := HN.out; omega
    go_wp2_with fail
    go_loopw [9] (fun i wr => ∃ ys zs : List Cll, Hid (hp.cells = ys ++ zs ∧ ∀ y ∈ ys, y.count ≠ 0) ∧ i = .int .i64 ys.length ∧ W = wr)
      (fun i _ => n - (intOf i).toNat)
    case atStart => exact ⟨[], hp.cells, ⟨rfl, by simp⟩, rfl, rfl⟩
    case round =>
    obtain ⟨ys, zs, HL, rfl, rfl⟩ := hrel
    rcases zs with _ | ⟨x, zs⟩
    · have hlen2 : n ≤ ys.length := by rw [HN.out, HL.out.1]; simp
      have HF : Hid (hp.cells.take (room hp.cells) ++ ⟨1, tag, l⟩ :: hp.cells.drop (room hp.cells + 1) = hp.cells ++ ⟨1, tag, l⟩ :: []) := by
        have h1 := HL.out.1
        have h2 := room_skip _ [] HL.out.2
        rw [← h1] at h2
        have h3 : room hp.cells = hp.cells.length := by rw [h2, h1]; simp [room]
        rw [Hid, h3, List.take_length, List.drop_eq_nil_of_le (by omega)]
      have HKR0 : Hid (room hp.cells = ys.length) := by
        have h1 := HL.out.1
        have h2 := room_skip _ [] HL.out.2
        rw [← h1] at h2
        rw [Hid, h2]
        simp [room]
      have hyn : ys.length = n := by rw [HN.out, HL.out.1]; simp
      obtain ⟨k, hk⟩ : ∃ k, k = ys.length := ⟨_, rfl⟩
      rw [← hk] at hyn hlen2 HKR0 ⊢
      subst hyn
      have HKR : Hid (room hp.cells = k) := HKR0
      have HK : Hid (k = hp.cells.length) := HN.out
      have hbz : RepRow W (fun b => okU ok (w.heap.size + 3) w1 b ∧ (Value.slice a' k c').ownBlock ≠ some b) Cll.zero.row [.int .i64 0, .int .i64 0, .slice none 0 0] := Cll.repRow (x := Cll.zero) (.empty none 0 (fun _ => rfl) (Nat.zero_le _)) (by simp [Cll.zero]) (by simp [Cll.zero])
      have hlenk : (k : Int) ≤ M := by have := HK.out; omega
      clear hk HKR0
      go_upto_region 9 with (at_builtin; refine wpList_arr_push _ rfl (.tmp 39) (.tmp 41) 26 rfl (w.heap.size + 3) 51 i0 _ 3 40 Try.underlying26 hi hz0 hz1 hz2 rfl (by omega) (okU ok (w.heap.size + 3) w1) (.slice a' k c') (hp.cells.map Cll.row) rfl _ _ HWA.out _ rfl ?d7 Cll.zero.row rfl hbz ?d3 ?d4 ?d5 ?d6 ?_)
      case d7 => rfl
      case d3 => simp [maxLen]; omega
      case d4 => simp; omega
      case d5 => intro b hb; have := hok1 b hb; omega
      case d6 => omega
      intro g cap w4 hA4 hg4 hv4 hlt4
      have hs4 : W.heap.size < w4.heap.size := by have := hg4.size; simp at this; omega
      have hnp : ∀ q, (Value.slice a' k c').ownBlock = some q → w.heap.size + 3 ≤ q := fun q hq => (hownW q hq).1
      have hP4 := (hWP.alloc (.cells #[.int .i64 0, .int .i64 0, .slice none 0 0] 51)).grown hg4 (fun e => by have := hnp _ e.symm; omega)
      have hQ4 := (hWQ.alloc (.cells #[.int .i64 0, .int .i64 0, .slice none 0 0] 51)).grown hg4 (fun e => by have := hnp _ e.symm; omega)
      have hZ4 := (hWZ.alloc (.cells #[.int .i64 0, .int .i64 0, .slice none 0 0] 51)).grown hg4 (fun e => by have := hnp _ e.symm; omega)
      have hbW4 : Below w.heap.size w w4 := (hWb.alloc hWb.size _).grown hg4 (by simp; have := hWb.size; omega) (fun q hq => by have := hnp _ hq; omega)
      have hL4 : Rep w4 ok (.sl (l.map Slt.row)) (.slice la ln lc) := hWL.under (B := w.heap.size) ⟨hg4.os, hg4.tape, hg4.output, by omega, fun q hq => (hg4.block q (by simp; omega) (fun e => by have := hnp _ e.symm; omega)).trans (Below.heap_alloc W _ q (by omega))⟩ hok
      have hgr : w.heap.size + 3 ≤ g ∧ g < w4.heap.size := by
        rcases hv4 with e | e
        · have := hnp _ e; omega
        · omega
      have hcp4 := hP4.cell
      have hfp4 := hP4.frozen
      have HA4 := Lib.hid hA4
      clear hcp0 hfp0 hA4 hg4 hv4
      go_upto_region 9 with (fail)
      obtain ⟨n2, hn2⟩ : ∃ n2, n2 = hp.cells.length + 1 := ⟨_, rfl⟩
      obtain ⟨c2, hc2⟩ : ∃ c2, c2 = cap := ⟨_, rfl⟩
      subst hc2
      rw [← hn2]
      obtain ⟨X, hX⟩ : ∃ X, X = w4.setCell ⟨w.heap.size, 0, none⟩ (.slice (some ⟨g, 0, none⟩) n2 c2) := ⟨_, rfl⟩
      have hbg : w.heap.size + 3 ≤ g := hgr.1
      have hgs : g < X.heap.size := by rw [hX]; simp; exact hgr.2
      have hXs : w1.heap.size ≤ X.heap.size := by rw [hX]; simp; omega
      have hkn : k < n2 := by rw [hn2, HK.out]; omega
      obtain ⟨yy, hys⟩ : ∃ yy, yy = hp.cells := ⟨_, rfl⟩
      obtain ⟨zs, hzs⟩ : ∃ zs : List Cll, zs = [] := ⟨_, rfl⟩
      obtain ⟨x, hx⟩ : ∃ x, x = Cll.zero := ⟨_, rfl⟩
      have HXA : Hid (Arr X (w.heap.size + 3) 51 3 (okU ok (w.heap.size + 3) w1) (.slice (some ⟨g, 0, none⟩) n2 c2) ((yy ++ x :: zs).map Cll.row)) := by
        have h4 := HA4.out
        rw [Hid, hX, hys, hzs, hx, hn2]
        have h5 := h4.setCell (p := ⟨w.heap.size, 0, none⟩) (.slice (some ⟨g, 0, none⟩) (hp.cells.length + 1) c2) (by simp [Value.ownBlock]; omega) (fun b hb => by have := hok1 b hb; dsimp only; omega)
        simpa using h5
      have HKo := HK.out
      have HFo := HF.out
      clear HK HF
      rw [← hys] at HKo
      rw [← hzs] at HFo
      have HF : Hid (hp.cells.take (room hp.cells) ++ ⟨1, tag, l⟩ :: hp.cells.drop (room hp.cells + 1) = yy ++ ⟨1, tag, l⟩ :: zs) := by rw [Hid, HFo, hys]
      have HK : Hid (k = yy.length) := HKo
      have hXP : Blk X w.heap.size 28 #[.slice (some ⟨g, 0, none⟩) n2 c2, .int .i64 hp.made, .int .i64 hp.used, .int .i64 hp.live, .int .i64 hp.peak] := by rw [hX]; exact hP4.set_ 0 _
      have hXQ : Blk X (w.heap.size + 1) 28 #[.slice none 0 0, .int .i64 0, .int .i64 0, .int .i64 0, .int .i64 0] := by rw [hX]; exact hQ4.far (by dsimp only; omega) _
      have hXZ : Blk X (w.heap.size + 1 + 1) 24 #[.int .i64 0, .int .i64 0] := by rw [hX]; exact hZ4.far (by dsimp only; omega) _
      have hXb : Below w.heap.size w X := by rw [hX]; exact hbW4.setCell (by dsimp only; omega) _
      have hXL : Rep X ok (.sl (l.map Slt.row)) (.slice la ln lc) := by rw [hX]; exact hL4.setCell _ (fun b hb => by have := hok b hb; dsimp only; omega)
      rw [← hX]
      clear hX hn2 hzs hx HKo HFo hcp4 hfp4 HA4 hP4 hQ4 hZ4 hbW4 hL4 hgr hnp hownW hWR HWA hWP hWQ hWZ hWL hWb hys
      have hne : g ≠ w.heap.size := by omega
      have hcp := hXP.cell 0
      obtain ⟨sa0, sc0, x0, x1, x2, xf⟩ : ∃ sa sc, X.cell? ⟨g, k * 3, none⟩ = some (.int .i64 x.count) ∧ X.cell? ⟨g, k * 3 + 1, none⟩ = some (.int .i64 x.tag) ∧ X.cell? ⟨g, k * 3 + 2, none⟩ = some (.slice sa x.slots.length sc) ∧ (∀ o, X.frozen? ⟨g, o, none⟩ = false) := by
        obtain ⟨g', sa, sc, hg', _, _, c0, c1, c2, hf, _⟩ := Arr.cll HXA.out rfl
        simp only [Option.some.injEq, Addr.mk.injEq, and_true] at hg'
        subst hg'
        rw [HK.out]
        exact ⟨sa, sc, c0, c1, c2, hf⟩
      have hkn' : (k : Int) < (n2 : Int) := by omega
      have hk0' : (0 : Int) ≤ (k : Int) := by omega
      go_region_held3 (fun w' => w'.cell? ⟨w.heap.size, 0, none⟩ = some (.slice (some ⟨g, 0, none⟩) n2 c2))
        (first
          | go_keep
          | (rw [hgrow.cell_far _ (by simp; omega) (by simp [Value.ownBlock]; omega)]; assumption))
        ((refine step_arr_append _ (by rfl) (.tmp 48) (.tmp 49) 25 (by rfl) X.heap.size 24 j0 _ 2 16 Try.underlying25 hj hy0 hy1 hy2 rfl (by omega) (fun _ => False) (.slice (some ⟨X.heap.size, 0, none⟩) 0 0) [] (by rfl) (by first | exact (Arr.made' X X.heap.size 24 2 _ X.heap.size rfl (Nat.le_refl _)).drew | exact (Arr.made' X X.heap.size 24 2 _ X.heap.size rfl (Nat.le_refl _)))
            la ln lc (l.map Slt.row) (by rw [HLn.out]; simp) (by rfl) ok (by first | exact (hXL.alloc _ (fun b hb => by have := hok b hb; omega)).drew | exact (hXL.alloc _ (fun b hb => by have := hok b hb; omega))) (fun i j r d u hr hd hu => hu.flat (flat_map Slt.row Slt.flat l i j r d hr hd))
            (map_row_len _ _ Slt.row_len l) (by have := HLn.out; simp [maxLen]; omega) (by have := HLn.out; simp; omega) (fun b hb => hb.elim) (by simp) ?_; intro v' w3 hA3 hgrow hat; have hb3 : Below X.heap.size X w3 := (by first | exact (((Below.refl _ X).alloc (Nat.le_refl _) _).drew).grown hgrow (by simp) (by simp [Value.ownBlock]) | exact ((Below.refl _ X).alloc (Nat.le_refl _) _).grown hgrow (by simp) (by simp [Value.ownBlock])); obtain ⟨sa3, sc3, hv3, hr3⟩ : ∃ sa3 sc3, v' = .slice sa3 ln sc3 ∧ Rep w3 (fun b => X.heap.size ≤ b ∧ b < w3.heap.size) (.sl (l.map Slt.row)) (.slice sa3 ln sc3) := (by
              have h1 := hA3.rep (ok' := fun b => X.heap.size ≤ b ∧ b < w3.heap.size) (fun b h1 h2 => ⟨h1, h2⟩) (fun b hp => hp.elim)
              obtain ⟨a', c', e, _⟩ := h1.sl_inv
              subst e
              have hle : ([] ++ l.map Slt.row).length = ln := by rw [HLn.out]; simp
              rw [hle] at h1 ⊢
              exact ⟨a', c', rfl, by simpa using h1⟩); subst hv3; have hs3 : X.heap.size ≤ w3.heap.size := hb3.size; have d0 : w3.cell? ⟨g, k * 3, none⟩ = some (.int .i64 x.count) := (hb3.cell (by dsimp only; omega)).trans x0; have d1 : w3.cell? ⟨g, k * 3 + 1, none⟩ = some (.int .i64 x.tag) := (hb3.cell (by dsimp only; omega)).trans x1; have d2 : w3.cell? ⟨g, k * 3 + 2, none⟩ = some (.slice sa0 x.slots.length sc0) := (hb3.cell (by dsimp only; omega)).trans x2; have df : ∀ o, w3.frozen? ⟨g, o, none⟩ = false := fun o => (hb3.frozen (by dsimp only; omega)).trans (xf o)))
      obtain ⟨Y, hY⟩ : ∃ Y, Y = ((w3.setCell ⟨g, k * 3, none⟩ (.int .i64 1)).setCell ⟨g, k * 3 + 1, none⟩ (.int .i64 tag)).setCell ⟨g, k * 3 + 2, none⟩ (.slice sa3 ln sc3) := ⟨_, rfl⟩
      have hokX : ∀ b, okU ok (w.heap.size + 3) w1 b → b < X.heap.size := fun b hb => by have := hok1 b hb; omega
      have hYA : Arr Y (w.heap.size + 3) 51 3 (okU ok (w.heap.size + 3) w3) (.slice (some ⟨g, 0, none⟩) n2 c2) ((yy ++ ⟨1, tag, l⟩ :: zs).map Cll.row) := by
        have h1 := (HXA.out.under hb3 (Nat.le_refl _) hokX).weak (ok' := (okU ok (w.heap.size + 3) w3)) (fun b hb => hb.imp id fun hp => ⟨hp.1, by omega⟩)
        have hr : Rep w3 (fun b => okU ok (w.heap.size + 3) w3 b ∧ b ≠ g) (.sl (l.map Slt.row)) (.slice sa3 ln sc3) := hr3.weak fun b hb => ⟨.inr ⟨by omega, hb.2⟩, by omega⟩
        have h2 := h1.cll_put ⟨1, tag, l⟩ (.slice sa3 ln sc3) (by simp) ht hr
        rw [← HK.out, ← hY] at h2
        exact h2
      have hYP : Blk Y w.heap.size 28 #[.slice (some ⟨g, 0, none⟩) n2 c2, .int .i64 hp.made, .int .i64 hp.used, .int .i64 hp.live, .int .i64 hp.peak] := by
        rw [hY]; exact (((hXP.under hb3 hXP.lt).far (by dsimp only; omega) _).far (by dsimp only; omega) _).far (by dsimp only; omega) _
      have hYQ : Blk Y (w.heap.size + 1) 28 #[.slice none 0 0, .int .i64 0, .int .i64 0, .int .i64 0, .int .i64 0] := by
        rw [hY]; exact (((hXQ.under hb3 hXQ.lt).far (by dsimp only; omega) _).far (by dsimp only; omega) _).far (by dsimp only; omega) _
      have hYZ : Blk Y (w.heap.size + 1 + 1) 24 #[.int .i64 0, .int .i64 0] := by
        rw [hY]; exact (((hXZ.under hb3 hXZ.lt).far (by dsimp only; omega) _).far (by dsimp only; omega) _).far (by dsimp only; omega) _
      have hYb : Below w.heap.size w Y := by
        rw [hY]; exact (((hXb.trans (hb3.mono hXb.size)).setCell (by dsimp only; omega) _).setCell (by dsimp only; omega) _).setCell (by dsimp only; omega) _
      have hYs : Y.heap.size = w3.heap.size := by rw [hY]; simp
      have hR5 : Hid (Rep Y (fun b => ok b ∨ (w.heap.size + 3 ≤ b ∧ b < w3.heap.size)) (.sl ((yy ++ ⟨1, tag, l⟩ :: zs).map Cll.row)) (.slice (some ⟨g, 0, none⟩) n2 c2)) :=
        hYA.rep (fun b h1 h2 => .inr ⟨h1, by omega⟩) (fun b hb => hb)
      rw [← hY]
      clear hY
      have HYS := Lib.hid hYs
      have hpc := hYP.cell
      have hpf := hYP.frozen
      have hqc := hYQ.cell
      have hqf := hYQ.frozen
      have hzc := hYZ.cell
      have hzf := hYZ.frozen
      have HE : Hid (hp.make tag l = (⟨yy ++ ⟨1, tag, l⟩ :: zs, hp.made + 1, hp.used, hp.live + 1, max hp.peak (hp.live + 1)⟩, ⟨2, k⟩, 0)) := by rw [Hid, Hp.make, if_neg (by omega), HF.out, HKR.out]
      clear hYs hYA x0 x1 x2 xf d0 d1 d2 df hcp hr3 hb3 hA3 hgrow hat
      by_cases hmp : hp.peak < hp.live + 1
      · have hmx : max hp.peak (hp.live + 1) = hp.live + 1 := by omega
        have HM := Lib.hid hmx
        clear hmx
        go_wp2_with fail
        have hmx := HM.out
        rw [hmx] at HE
        refine bodyPost_ret (v := .tuple #[.agg #[.slice (some ⟨g, 0, none⟩) n2 c2, .int .i64 (hp.made + 1), .int .i64 hp.used, .int .i64 (hp.live + 1), .int .i64 (hp.live + 1)], .agg #[.int .i64 2, .int .i64 k], .int .i64 0]) (by simp [results, Try.results15, go_sem, hqc, hzc]) rfl ?_
        refine ⟨_, by rw [HE.out], ?_, ?_⟩
        · rw [HE.out]
          refine ⟨_, n2, c2, rfl, ?_⟩
          refine Rep.weak (ok := fun b => ok b ∨ (w.heap.size + 3 ≤ b ∧ b < w3.heap.size)) ?_ (fun b hb => hb.imp id fun hp => ⟨by omega, by have := HYS.out; simp; omega⟩)
          iterate 10 refine Rep.setCell ?_ _ (fun b hb => by dsimp only; rcases hb with hb | hb <;> first | omega | (have := hok b hb; omega))
          exact hR5.out
        · exact ((((((((((hYb.setCell (by dsimp only; omega) _).setCell (by dsimp only; omega) _).setCell (by dsimp only; omega) _).setCell (by dsimp only; omega) _).setCell (by dsimp only; omega) _).setCell (by dsimp only; omega) _).setCell (by dsimp only; omega) _).setCell (by dsimp only; omega) _).setCell (by dsimp only; omega) _).setCell (by dsimp only; omega) _)
      · have hmx : max hp.peak (hp.live + 1) = hp.peak := by omega
        have hmp' : hp.live + 1 ≤ hp.peak := by omega
        have HM := Lib.hid hmx
        clear hmx hmp
        go_wp2_with fail
        have hmx := HM.out
        rw [hmx] at HE
        refine bodyPost_ret (v := .tuple #[.agg #[.slice (some ⟨g, 0, none⟩) n2 c2, .int .i64 (hp.made + 1), .int .i64 hp.used, .int .i64 (hp.live + 1), .int .i64 hp.peak], .agg #[.int .i64 2, .int .i64 k], .int .i64 0]) (by simp [results, Try.results15, go_sem, hqc, hzc]) rfl ?_
        refine ⟨_, by rw [HE.out], ?_, ?_⟩
        · rw [HE.out]
          refine ⟨_, n2, c2, rfl, ?_⟩
          refine Rep.weak (ok := fun b => ok b ∨ (w.heap.size + 3 ≤ b ∧ b < w3.heap.size)) ?_ (fun b hb => hb.imp id fun hp => ⟨by omega, by have := HYS.out; simp; omega⟩)
          iterate 9 refine Rep.setCell ?_ _ (fun b hb => by dsimp only; rcases hb with hb | hb <;> first | omega | (have := hok b hb; omega))
          exact hR5.out
        · exact (((((((((hYb.setCell (by dsimp only; omega) _).setCell (by dsimp only; omega) _).setCell (by dsimp only; omega) _).setCell (by dsimp only; omega) _).setCell (by dsimp only; omega) _).setCell (by dsimp only; omega) _).setCell (by dsimp only; omega) _).setCell (by dsimp only; omega) _).setCell (by dsimp only; omega) _)
    · have hlt : ys.length < n := by rw [HN.out, HL.out.1]; simp
      obtain ⟨b, o, sa, sc, hab, hob, c0, c1, c2, _⟩ := Cll.at_ hWR HL.out.1
      subst hab
      by_cases hx0 : x.count = 0
      · have hx' : (x.count != 0) = false := by simpa using hx0
        have hlt2 : ((ys.length : Int) == (n : Int)) = false := by simp; omega
        obtain ⟨k, hk⟩ : ∃ k, k = ys.length := ⟨_, rfl⟩
        have HK := Lib.hid hk
        rw [← hk] at hlt hlt2 c0 c1 c2 ⊢
        clear hk c1 c2 hx0
        have hlt3 : (k : Int) < (n : Int) := by omega
        have HKR : Hid (room hp.cells = k) := by
          obtain ⟨h1, h2⟩ := HL.out
          rw [Hid, h1, room_skip _ _ h2, HK.out, room, if_pos (by simpa using hx')]
          rfl
        have HF : Hid (hp.cells.take (room hp.cells) ++ ⟨1, tag, l⟩ :: hp.cells.drop (room hp.cells + 1) = ys ++ ⟨1, tag, l⟩ :: zs) := by
          rw [Hid, HKR.out, HK.out, HL.out.1]
          simp
        have HA2 := HWA.out
        rw [HL.out.1] at HA2
        have HXA := Lib.hid HA2
        clear HA2
        go_upto_region 9 with (fail)
        have hgo : w.heap.size + 3 ≤ b ∧ b < W.heap.size ∧ o = 0 := by
          obtain ⟨g', sa', sc', hg', h3, h4, _⟩ := Arr.cll HXA.out rfl
          simp only [Option.some.injEq, Addr.mk.injEq, and_true] at hg'
          omega
        obtain ⟨g, hg⟩ : ∃ g, g = b := ⟨_, rfl⟩
        obtain ⟨hbg, hgs, rfl⟩ := hgo
        subst hg
        obtain ⟨X, n2, c2, hX⟩ : ∃ X n2 c2, X = W ∧ n2 = n ∧ c2 = c' := ⟨_, _, _, rfl, rfl, rfl⟩
        obtain ⟨rfl, rfl, rfl⟩ := hX
        have hXP := hWP
        have hXQ := hWQ
        have hXZ := hWZ
        have hXL := hWL
        have hXb := hWb
        have hXs : w1.heap.size ≤ X.heap.size := hws1
        have hkn : k < n2 := hlt
        clear hWP hWQ hWZ hWL hWb hws1 hlt c0 hcp0 hfp0 hWR HWA hlt2 hlt3
        have hne : g ≠ w.heap.size := by omega
        have hcp := hXP.cell 0
        obtain ⟨sa0, sc0, x0, x1, x2, xf⟩ : ∃ sa sc, X.cell? ⟨g, k * 3, none⟩ = some (.int .i64 x.count) ∧ X.cell? ⟨g, k * 3 + 1, none⟩ = some (.int .i64 x.tag) ∧ X.cell? ⟨g, k * 3 + 2, none⟩ = some (.slice sa x.slots.length sc) ∧ (∀ o, X.frozen? ⟨g, o, none⟩ = false) := by
          obtain ⟨g', sa, sc, hg', _, _, c0, c1, c2, hf, _⟩ := Arr.cll HXA.out rfl
          simp only [Option.some.injEq, Addr.mk.injEq, and_true] at hg'
          subst hg'
          rw [HK.out]
          exact ⟨sa, sc, c0, c1, c2, hf⟩
        have hkn' : (k : Int) < (n2 : Int) := by omega
        have hk0' : (0 : Int) ≤ (k : Int) := by omega
        go_region_held3 (fun w' => w'.cell? ⟨w.heap.size, 0, none⟩ = some (.slice (some ⟨g, 0, none⟩) n2 c2))
          (first
            | go_keep
            | (rw [hgrow.cell_far _ (by simp; omega) (by simp [Value.ownBlock]; omega)]; assumption))
          ((refine step_arr_append _ (by rfl) (.tmp 48) (.tmp 49) 25 (by rfl) X.heap.size 24 j0 _ 2 16 Try.underlying25 hj hy0 hy1 hy2 rfl (by omega) (fun _ => False) (.slice (some ⟨X.heap.size, 0, none⟩) 0 0) [] (by rfl) (by first | exact (Arr.made' X X.heap.size 24 2 _ X.heap.size rfl (Nat.le_refl _)).drew | exact (Arr.made' X X.heap.size 24 2 _ X.heap.size rfl (Nat.le_refl _)))
              la ln lc (l.map Slt.row) (by rw [HLn.out]; simp) (by rfl) ok (by first | exact (hXL.alloc _ (fun b hb => by have := hok b hb; omega)).drew | exact (hXL.alloc _ (fun b hb => by have := hok b hb; omega))) (fun i j r d u hr hd hu => hu.flat (flat_map Slt.row Slt.flat l i j r d hr hd))
              (map_row_len _ _ Slt.row_len l) (by have := HLn.out; simp [maxLen]; omega) (by have := HLn.out; simp; omega) (fun b hb => hb.elim) (by simp) ?_; intro v' w3 hA3 hgrow hat; have hb3 : Below X.heap.size X w3 := (by first | exact (((Below.refl _ X).alloc (Nat.le_refl _) _).drew).grown hgrow (by simp) (by simp [Value.ownBlock]) | exact ((Below.refl _ X).alloc (Nat.le_refl _) _).grown hgrow (by simp) (by simp [Value.ownBlock])); obtain ⟨sa3, sc3, hv3, hr3⟩ : ∃ sa3 sc3, v' = .slice sa3 ln sc3 ∧ Rep w3 (fun b => X.heap.size ≤ b ∧ b < w3.heap.size) (.sl (l.map Slt.row)) (.slice sa3 ln sc3) := (by
                have h1 := hA3.rep (ok' := fun b => X.heap.size ≤ b ∧ b < w3.heap.size) (fun b h1 h2 => ⟨h1, h2⟩) (fun b hp => hp.elim)
                obtain ⟨a', c', e, _⟩ := h1.sl_inv
                subst e
                have hle : ([] ++ l.map Slt.row).length = ln := by rw [HLn.out]; simp
                rw [hle] at h1 ⊢
                exact ⟨a', c', rfl, by simpa using h1⟩); subst hv3; have hs3 : X.heap.size ≤ w3.heap.size := hb3.size; have d0 : w3.cell? ⟨g, k * 3, none⟩ = some (.int .i64 x.count) := (hb3.cell (by dsimp only; omega)).trans x0; have d1 : w3.cell? ⟨g, k * 3 + 1, none⟩ = some (.int .i64 x.tag) := (hb3.cell (by dsimp only; omega)).trans x1; have d2 : w3.cell? ⟨g, k * 3 + 2, none⟩ = some (.slice sa0 x.slots.length sc0) := (hb3.cell (by dsimp only; omega)).trans x2; have df : ∀ o, w3.frozen? ⟨g, o, none⟩ = false := fun o => (hb3.frozen (by dsimp only; omega)).trans (xf o)))
        obtain ⟨Y, hY⟩ : ∃ Y, Y = ((w3.setCell ⟨g, k * 3, none⟩ (.int .i64 1)).setCell ⟨g, k * 3 + 1, none⟩ (.int .i64 tag)).setCell ⟨g, k * 3 + 2, none⟩ (.slice sa3 ln sc3) := ⟨_, rfl⟩
        have hokX : ∀ b, okU ok (w.heap.size + 3) w1 b → b < X.heap.size := fun b hb => by have := hok1 b hb; omega
        have hYA : Arr Y (w.heap.size + 3) 51 3 (okU ok (w.heap.size + 3) w3) (.slice (some ⟨g, 0, none⟩) n2 c2) ((ys ++ ⟨1, tag, l⟩ :: zs).map Cll.row) := by
          have h1 := (HXA.out.under hb3 (Nat.le_refl _) hokX).weak (ok' := (okU ok (w.heap.size + 3) w3)) (fun b hb => hb.imp id fun hp => ⟨hp.1, by omega⟩)
          have hr : Rep w3 (fun b => okU ok (w.heap.size + 3) w3 b ∧ b ≠ g) (.sl (l.map Slt.row)) (.slice sa3 ln sc3) := hr3.weak fun b hb => ⟨.inr ⟨by omega, hb.2⟩, by omega⟩
          have h2 := h1.cll_put ⟨1, tag, l⟩ (.slice sa3 ln sc3) (by simp) ht hr
          rw [← HK.out, ← hY] at h2
          exact h2
        have hYP : Blk Y w.heap.size 28 #[.slice (some ⟨g, 0, none⟩) n2 c2, .int .i64 hp.made, .int .i64 hp.used, .int .i64 hp.live, .int .i64 hp.peak] := by
          rw [hY]; exact (((hXP.under hb3 hXP.lt).far (by dsimp only; omega) _).far (by dsimp only; omega) _).far (by dsimp only; omega) _
        have hYQ : Blk Y (w.heap.size + 1) 28 #[.slice none 0 0, .int .i64 0, .int .i64 0, .int .i64 0, .int .i64 0] := by
          rw [hY]; exact (((hXQ.under hb3 hXQ.lt).far (by dsimp only; omega) _).far (by dsimp only; omega) _).far (by dsimp only; omega) _
        have hYZ : Blk Y (w.heap.size + 1 + 1) 24 #[.int .i64 0, .int .i64 0] := by
          rw [hY]; exact (((hXZ.under hb3 hXZ.lt).far (by dsimp only; omega) _).far (by dsimp only; omega) _).far (by dsimp only; omega) _
        have hYb : Below w.heap.size w Y := by
          rw [hY]; exact (((hXb.trans (hb3.mono hXb.size)).setCell (by dsimp only; omega) _).setCell (by dsimp only; omega) _).setCell (by dsimp only; omega) _
        have hYs : Y.heap.size = w3.heap.size := by rw [hY]; simp
        have hR5 : Hid (Rep Y (fun b => ok b ∨ (w.heap.size + 3 ≤ b ∧ b < w3.heap.size)) (.sl ((ys ++ ⟨1, tag, l⟩ :: zs).map Cll.row)) (.slice (some ⟨g, 0, none⟩) n2 c2)) :=
          hYA.rep (fun b h1 h2 => .inr ⟨h1, by omega⟩) (fun b hb => hb)
        rw [← hY]
        clear hY
        have HYS := Lib.hid hYs
        have hpc := hYP.cell
        have hpf := hYP.frozen
        have hqc := hYQ.cell
        have hqf := hYQ.frozen
        have hzc := hYZ.cell
        have hzf := hYZ.frozen
        have HE : Hid (hp.make tag l = (⟨ys ++ ⟨1, tag, l⟩ :: zs, hp.made + 1, hp.used, hp.live + 1, max hp.peak (hp.live + 1)⟩, ⟨2, k⟩, 0)) := by rw [Hid, Hp.make, if_neg (by omega), HF.out, HKR.out]
        clear hYs hYA x0 x1 x2 xf d0 d1 d2 df hcp hr3 hb3 hA3 hgrow hat
        by_cases hmp : hp.peak < hp.live + 1
        · have hmx : max hp.peak (hp.live + 1) = hp.live + 1 := by omega
          have HM := Lib.hid hmx
          clear hmx
          go_wp2_with fail
          have hmx := HM.out
          rw [hmx] at HE
          refine bodyPost_ret (v := .tuple #[.agg #[.slice (some ⟨g, 0, none⟩) n2 c2, .int .i64 (hp.made + 1), .int .i64 hp.used, .int .i64 (hp.live + 1), .int .i64 (hp.live + 1)], .agg #[.int .i64 2, .int .i64 k], .int .i64 0]) (by simp [results, Try.results15, go_sem, hqc, hzc]) rfl ?_
          refine ⟨_, by rw [HE.out], ?_, ?_⟩
          · rw [HE.out]
            refine ⟨_, n2, c2, rfl, ?_⟩
            refine Rep.weak (ok := fun b => ok b ∨ (w.heap.size + 3 ≤ b ∧ b < w3.heap.size)) ?_ (fun b hb => hb.imp id fun hp => ⟨by omega, by have := HYS.out; simp; omega⟩)
            iterate 10 refine Rep.setCell ?_ _ (fun b hb => by dsimp only; rcases hb with hb | hb <;> first | omega | (have := hok b hb; omega))
            exact hR5.out
          · exact ((((((((((hYb.setCell (by dsimp only; omega) _).setCell (by dsimp only; omega) _).setCell (by dsimp only; omega) _).setCell (by dsimp only; omega) _).setCell (by dsimp only; omega) _).setCell (by dsimp only; omega) _).setCell (by dsimp only; omega) _).setCell (by dsimp only; omega) _).setCell (by dsimp only; omega) _).setCell (by dsimp only; omega) _)
        · have hmx : max hp.peak (hp.live + 1) = hp.peak := by omega
          have hmp' : hp.live + 1 ≤ hp.peak := by omega
          have HM := Lib.hid hmx
          clear hmx hmp
          go_wp2_with fail
          have hmx := HM.out
          rw [hmx] at HE
          refine bodyPost_ret (v := .tuple #[.agg #[.slice (some ⟨g, 0, none⟩) n2 c2, .int .i64 (hp.made + 1), .int .i64 hp.used, .int .i64 (hp.live + 1), .int .i64 hp.peak], .agg #[.int .i64 2, .int .i64 k], .int .i64 0]) (by simp [results, Try.results15, go_sem, hqc, hzc]) rfl ?_
          refine ⟨_, by rw [HE.out], ?_, ?_⟩
          · rw [HE.out]
            refine ⟨_, n2, c2, rfl, ?_⟩
            refine Rep.weak (ok := fun b => ok b ∨ (w.heap.size + 3 ≤ b ∧ b < w3.heap.size)) ?_ (fun b hb => hb.imp id fun hp => ⟨by omega, by have := HYS.out; simp; omega⟩)
            iterate 9 refine Rep.setCell ?_ _ (fun b hb => by dsimp only; rcases hb with hb | hb <;> first | omega | (have := hok b hb; omega))
            exact hR5.out
          · exact (((((((((hYb.setCell (by dsimp only; omega) _).setCell (by dsimp only; omega) _).setCell (by dsimp only; omega) _).setCell (by dsimp only; omega) _).setCell (by dsimp only; omega) _).setCell (by dsimp only; omega) _).setCell (by dsimp only; omega) _).setCell (by dsimp only; omega) _).setCell (by dsimp only; omega) _)
      · have hx' : (x.count != 0) = true := by simpa using hx0
        have HL2 : Hid (hp.cells = (ys ++ [x]) ++ zs ∧ ∀ y ∈ ys ++ [x], y.count ≠ 0) := ⟨by rw [HL.out.1]; simp, fun y hy => by
          rcases List.mem_append.1 hy with h1 | h1
          · exact HL.out.2 y h1
          · simp at h1; rw [h1]; exact hx0⟩
        clear hx0 c1 c2
        go_wp2_with fail
        go_roundw
        case rel => exact ⟨ys ++ [x], zs, HL2, by simp, by first | rfl | trivial⟩
        case measure => simp [intOf]; omega
end Go.Proofs.Ytcakhebnebcpcaa
