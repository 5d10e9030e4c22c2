/- heap.Drop. -/
import Derived.Test.YtcakhebnebcpcaaHeapT
import Derived.Deep.Cut
import Derived.WalkSmall
namespace Go.Proofs.Ytcakhebnebcpcaa
open Go.RowKit
set_option linter.unusedVariables false

def DropSaid (h : Hp) (s : Slt) (ok : Nat → Prop) (w : World) (e : Ending) (w' : World) : Prop :=
  ∃ v, e = .returned (.tuple #[v, .int .i64 (h.drop s).2]) ∧ HpRet w w' ok v (h.drop s).1 ∧ Below w.heap.size w w'

theorem tot_le {l : List Cll} {M : Int} (hM : 0 ≤ M) (h : ∀ x ∈ l, (x.slots.length : Int) ≤ M) : (tot l : Int) ≤ l.length * M := by
  induction l with
  | nil => simp [tot]
  | cons x r ih =>
    have h1 := h x (by simp)
    have h2 := ih (fun y hy => h y (by simp [hy]))
    simp only [tot, List.length_cons]
    rw [show (((r.length + 1 : Nat) : Int)) * M = r.length * M + M from by rw [Int.natCast_add, Int.add_mul]; simp]
    omega

section
variable {w : World} {base size : Nat} {e : TypeId} {ok : Nat → Prop} {a : Option Addr} {n c : Nat}
theorem Arr.of_block {g : Nat} {cs : Array Value} {r : List D} (hb : w.heap[g]? = some (.cells cs e (0, 0))) (hg : base ≤ g) (hr : RepRow w (fun b => ok b ∧ b ≠ g) r cs.toList) (hs : r.length = size) : Arr w base e size ok (.slice (some ⟨g, 0, none⟩) 1 1) [r] := by
  have hl := hr.1
  simp at hl
  refine ⟨cs.toList, ⟨by simp; omega, .inr ⟨g, 1, cs, rfl, hg, hb, Nat.le_refl _, by simp [maxLen], by omega, ?_⟩⟩, fun i r' h => ?_, fun i j r' d u h hd hu => ?_⟩
  · rw [List.take_of_length_le]
    simp
    omega
  · match i, h with
    | 0, h => simp at h; rw [← h]; exact hs
  · match i, h with
    | 0, h =>
      simp at h
      subst h
      exact (hr.2 j d u hd (by simpa using hu)).weak fun b hb => ⟨hb.1, by simp [Value.ownBlock]; exact fun e => hb.2 e.symm⟩

theorem Arr.pop {rows : List (List D)} {r : List D} {m : Nat} (h : Arr w base e size ok (.slice a m c) (rows ++ [r])) : Arr w base e size ok (.slice a rows.length c) rows := by
  obtain ⟨xs, h1, h2, h3⟩ := h
  have hl := h1.1
  simp at hl
  refine ⟨xs.take (rows.length * size), ⟨by rw [List.length_take, hl, Nat.add_mul]; omega, ?_⟩, fun i r' h => h2 i r' (by rw [List.getElem?_append_left (List.getElem?_eq_some_iff.1 h).1]; exact h), fun i j r' d u hr hd hu => ?_⟩
  · rcases h1.2 with ⟨hv, hn⟩ | ⟨g, cap, cur, hv, hg, hh, hnc, hcm, hsz, htk⟩
    · simp at hn
    · injection hv with e1 e2 e3
      subst e1 e3
      refine .inr ⟨g, c, cur, rfl, hg, hh, by simp at hnc; omega, hcm, hsz, ?_⟩
      rw [← htk, List.take_take]
      congr 1
      simp
  · have hi := (List.getElem?_eq_some_iff.1 hr).1
    refine (h3 i j r' d u (by rw [List.getElem?_append_left hi]; exact hr) hd (by
      rw [List.getElem?_take] at hu
      split at hu
      · exact hu
      · cases hu)).weak fun b hb => ⟨hb.1, ?_⟩
    cases a <;> exact hb.2
end

set_option maxHeartbeats 2000000 in
theorem heap_Drop (h : Hp) (s : Slt) (M : Int) (ok : Nat → Prop) (a : Option Addr) (n c : Nat) (w : World) (hM : M ≤ 1000000) (hO : h.Ok M) (hsr0 : (-9223372036854775808 ≤ s.kind ∧ s.kind ≤ 9223372036854775807) ∧ (-9223372036854775808 ≤ s.n ∧ s.n ≤ 9223372036854775807)) (hok : ∀ b, ok b → b < w.heap.size) (hR : Rep w ok (.sl (h.cells.map Cll.row)) (.slice a n c)) :
    Calls Try.prog 21 #[.agg #[.slice a n c, .int .i64 h.made, .int .i64 h.used, .int .i64 h.live, .int .i64 h.peak], .agg #[.int .i64 s.kind, .int .i64 s.n]] w (DropSaid h s ok w) := by
  have hn := hR.len_inv.1
  rw [List.length_map] at hn
  have hlen := hO.len
  have hsl : ∀ x ∈ h.cells, x.slots.length ≤ 8796093022208 := fun x hx => by have := hO.slots x hx; omega
  have hokB : ∀ (o1 o2 o3 : Obj), ∀ b, ok b → b < (((w.alloc o1).alloc o2).alloc o3).heap.size := fun _ _ _ b hb => by have := hok b hb; simp; omega
  have HN := Lib.hid hn
  have HO := Lib.hid hO
  clear hn hO
  go_enter Try.func21, Try.ntmps21
  go_wp2_with fail
  refine (heap_Own' h.cells h.made h.used h.live h.peak ok a n c _ HN.out (by have := HN.out; omega) hsl (hokB _ _ _) (((hR.alloc _ hok).alloc _ (fun b hb => by have := hok b hb; simp; omega)).alloc _ (fun b hb => by have := hok b hb; simp; omega))).mono ?_
  rintro e w1 ⟨a', c', rfl, hA, hb1⟩
  have hS := (Blk.under ((Blk.new' (w.alloc _) 24 #[.int .i64 s.kind, .int .i64 s.n] (w.heap.size + 1) (by simp)).alloc _) hb1 (by simp)).cell
  have hQ := Blk.under (Blk.new' ((w.alloc _).alloc _) 28 #[.slice none 0 0, .int .i64 0, .int .i64 0, .int .i64 0, .int .i64 0] (w.heap.size + 1 + 1) (by simp)) hb1 (by simp)
  have hbw : Below w.heap.size w w1 := ((((Below.refl _ w).alloc (Nat.le_refl _) _).alloc (by simp) _).alloc (by simp; omega) _).trans (hb1.mono (by simp; omega))
  have hsz : w.heap.size + 3 ≤ w1.heap.size := by have := hb1.size; simp at this; omega
  have hA1 : Arr w1 (w.heap.size + 3) 51 3 (okU ok (w.heap.size + 3) w1) (.slice a' n c') (h.cells.map Cll.row) := by simpa using hA
  have hok1 : ∀ b, okU ok (w.heap.size + 3) w1 b → b < w1.heap.size := fun b hb => by rcases hb with hb | hb <;> first | omega | (have := hok b hb; omega)
  have hsa : ∀ (o : Obj) (i : Nat), (w1.alloc o).cell? ⟨w.heap.size + 1, i, none⟩ = #[.int .i64 s.kind, .int .i64 s.n][i]? := fun o i => (World.cell?_alloc_lt w1 o ⟨w.heap.size + 1, i, none⟩ (by dsimp only; omega)).trans (hS i)
  have HB : HpBox (w1.alloc (.cells #[.slice a' n c', .int .i64 h.made, .int .i64 h.used, .int .i64 h.live, .int .i64 h.peak] 28)) w1.heap.size (w.heap.size + 3) (okU ok (w.heap.size + 3) w1) a' n c' h := ⟨Blk.new _ _ _, hA1.alloc _ hok1⟩
  have htot : (tot h.cells : Int) ≤ 1000000000000 := by
    have := tot_le (by omega : (0 : Int) ≤ M) HO.out.slots
    have h2 : (h.cells.length : Int) * M ≤ 1000000 * 1000000 := Int.mul_le_mul (by omega) hM (by omega) (by omega)
    omega
  have hlv := HO.out.live
  have HSR : Hid ((-9223372036854775808 ≤ s.kind ∧ s.kind ≤ 9223372036854775807) ∧ (-9223372036854775808 ≤ s.n ∧ s.n ≤ 9223372036854775807)) := hsr0
  clear hA hb1 hS
  obtain ⟨W, hW⟩ : ∃ W, W = w1.alloc (.cells #[.slice a' n c', .int .i64 h.made, .int .i64 h.used, .int .i64 h.live, .int .i64 h.peak] 28) := ⟨_, rfl⟩
  have hWB : HpBox W w1.heap.size (w.heap.size + 3) (okU ok (w.heap.size + 3) w1) a' n c' h := by rw [hW]; exact HB
  have hWQ : Blk W (w.heap.size + 1 + 1) 28 #[.slice none 0 0, .int .i64 0, .int .i64 0, .int .i64 0, .int .i64 0] := by rw [hW]; exact hQ.alloc _
  have hWb : Below w.heap.size w W := by rw [hW]; exact hbw.alloc hbw.size _
  have hWs : W.heap.size = w1.heap.size + 1 := by rw [hW]; simp
  have hWS : ∀ i, W.cell? ⟨w.heap.size + 1, i, none⟩ = #[.int .i64 s.kind, .int .i64 s.n][i]? := fun i => by rw [hW]; exact hsa _ i
  go_upto_region 2 with (fail)
  rw [← hW]
  have HWS := Lib.hid hWs
  have hws : w1.heap.size < W.heap.size := by omega
  clear hW hsa HB hQ hbw hokB hWs
  go_wp2_with fail
  have hA1own := hA1.own
  go_loopg [7] (1 + tot h.cells) (fun k v wr => ∃ (st : List Slt) (h2 : Hp) (aT : Option Addr) (cT : Nat), Hid (h.drop s = h2.drops st ∧ st.length + tot h2.cells = k ∧ k ≤ 1 + tot h.cells ∧ -M - (1 + tot h.cells - k) ≤ h2.live ∧ h2.live ≤ M) ∧ v = .slice aT st.length cT ∧
      Arr wr (w1.heap.size + 1) 24 2 (fun _ => False) (.slice aT st.length cT) (st.reverse.map Slt.row) ∧ HpBox wr w1.heap.size (w.heap.size + 3) (okU ok (w.heap.size + 3) w1) a' n c' h2 ∧
      Blk wr (w.heap.size + 1 + 1) 28 #[.slice none 0 0, .int .i64 0, .int .i64 0, .int .i64 0, .int .i64 0] ∧ Below w.heap.size w wr ∧ w1.heap.size < wr.heap.size)
  case atStart =>
    have hRW : RepRow (W.alloc (.cells #[.int .i64 s.kind, .int .i64 s.n] 24)) (fun b => False ∧ b ≠ W.heap.size) s.row [.int .i64 s.kind, .int .i64 s.n] := by
      obtain ⟨hs1, hs2⟩ := HSR.out
      refine ⟨rfl, fun j d v hd hv => ?_⟩
      match j, hd, hv with
      | 0, hd, hv => simp [Slt.row] at hd hv; subst hd hv; exact .int _ hs1.1 hs1.2
      | 1, hd, hv => simp [Slt.row] at hd hv; subst hd hv; exact .int _ hs2.1 hs2.2
    refine ⟨[s], h, some ⟨W.heap.size, 0, none⟩, 1, ⟨rfl, by simp, by omega, by omega, by omega⟩, rfl, ?_, hWB.alloc _ (fun b hb => by have := hok1 b hb; omega), hWQ.alloc _, hWb.alloc hWb.size _, by simp; omega⟩
    exact Arr.of_block (heap_alloc_new W _) (by omega) hRW rfl
  case round =>
    obtain ⟨st, h2, aT, cT, HL, rfl, hAT, hBx, hQr, hbr, hsr⟩ := hrel
    rcases st with _ | ⟨x, st⟩
    · have hqr := hQr.cell
      have hqf := hQr.frozen
      have hbc := hBx.1.cell
      have HBx := Lib.hid hBx
      have HE : Hid (h.drop s = (h2, 0)) := by rw [Hid, HL.out.1, Hp.drops_nil]
      clear hAT hBx
      go_wp2_with fail
      refine bodyPost_ret (v := .tuple #[.agg #[.slice a' n c', .int .i64 h2.made, .int .i64 h2.used, .int .i64 h2.live, .int .i64 h2.peak], .int .i64 0]) (by simp [results, Try.results21, go_sem, hqr]) rfl ?_
      have hfin := ret5_box (q := w.heap.size + 1 + 1) hok (by omega) (by omega) hbr HBx.out (fun b hb => hb.imp id fun h => ⟨h.1, by omega⟩)
        (.slice a' n c') (.int .i64 h2.made) (.int .i64 h2.used) (.int .i64 h2.live) (.int .i64 h2.peak)
      exact ⟨_, by rw [HE.out], by rw [HE.out]; exact hfin.1, hfin.2⟩
    · have hrev : (x :: st).reverse = st.reverse ++ x :: [] := by simp
      rw [hrev] at hAT
      have hRT := hAT.rep (ok' := fun b => w1.heap.size + 1 ≤ b ∧ b < wr.heap.size) (fun b h1 h2 => ⟨h1, h2⟩) (fun b h => h.elim)
      obtain ⟨gT, oT, rfl, hgT, t0, t1, _, _⟩ := Slt.at_ hRT rfl
      rw [List.length_reverse] at t0 t1
      have hcT : st.length + 1 ≤ cT := by have := hRT.len_inv.2.1; simpa using this
      have hcM : cT ≤ 9223372036854775807 := by have := hRT.len_inv.2.2; unfold maxLen at this; omega
      have hAP : Arr wr (w1.heap.size + 1) 24 2 (fun _ => False) (.slice (some ⟨gT, oT, none⟩) (st.reverse.map Slt.row).length cT) (st.reverse.map Slt.row) := by
        rw [List.map_append] at hAT
        exact hAT.pop
      rw [List.length_map, List.length_reverse] at hAP
      have HAP := Lib.hid hAP
      have HBx := Lib.hid hBx
      have hlb : st.length + 1 ≤ 1000000000001 := by have h1 := HL.out.2.1; have h2 := HL.out.2.2.1; rw [List.length_cons] at h1; omega
      clear hrev hAT hRT hAP hBx
      by_cases hk : x.kind = 2
      · have hk' : (x.kind != 2) = false := by simpa using hk
        have HK := Lib.hid hk
        clear hk
        go_wp2_with fail
        have hRx : Rep wr (fun b => b < wr.heap.size) (.sl (h2.cells.map Cll.row)) (.slice a' n c') := HBx.out.rep (fun b _ h => h) (fun b hb => by have := hok1 b hb; omega)
        have hQa := hQr.alloc (.cells #[.int .i64 x.kind, .int .i64 x.n] 24)
        have hBa := HBx.out.alloc (.cells #[.int .i64 x.kind, .int .i64 x.n] 24) (fun b hb => by have := hok1 b hb; omega)
        by_cases hP : ∃ y, h2.at x.n = some y ∧ 1 ≤ y.count
        · obtain ⟨y, hy, hyc⟩ := hP
          obtain ⟨h0, h1, ys, zs, hl, hky⟩ := Hp.at_some hy
          obtain ⟨g, _, _, rfl, _⟩ := Arr.cll hBa.2 hl
          have hg1 := (hA1own g rfl).2
          have hg0 := (hA1own g rfl).1
          refine (heap_cell_some h2 x y (fun b => b < wr.heap.size) g 0 n c' w1.heap.size _ (fun b hb => by simp; omega) (hBa.1.cell 0) (hRx.alloc _ (fun b hb => hb)) hy hyc).mono ?_
          rintro e w2 ⟨rfl, hb2⟩
          have hB2 := hBa.under hb2 (Nat.le_refl _) (fun b hb => by have := hok1 b hb; simp; omega)
          have hQ2 := hQa.under hb2 (by simp; omega)
          have hbW : Below w.heap.size w w2 := (hbr.alloc hbr.size _).trans (hb2.mono (by simp; have := hbr.size; omega))
          have hs2 : wr.heap.size < w2.heap.size := by have := hb2.size; simp at this; omega
          have hAT2 : Arr w2 (w1.heap.size + 1) 24 2 (fun _ => False) (.slice (some ⟨gT, oT, none⟩) st.length cT) (st.reverse.map Slt.row) := (HAP.out.alloc _ (fun b hb => hb.elim)).under hb2 (Nat.le_refl _) (fun b hb => hb.elim)
          obtain ⟨g', sa', sc', hg', _, _, c0, c1, c2, hf, hrs2, r0, r1⟩ := Arr.cll hB2.2 hl
          simp only [Option.some.injEq, Addr.mk.injEq, and_true] at hg'
          subst hg'
          rw [hky] at c0 c1 c2
          have hbc := hB2.1.cell
          have hbf := hB2.1.frozen
          have hne : g ≠ w1.heap.size := by omega
          have hne2 : g ≠ w.heap.size + 1 + 1 := by omega
          have HH := Lib.hid (And.intro hl hky)
          have HY := Lib.hid hy
          have HB2 := Lib.hid hB2
          have hlv2 : -2000002000000 ≤ h2.live ∧ h2.live ≤ 1000000 := by
            obtain ⟨_, _, l3, l4, l5⟩ := HL.out
            omega
          clear hl hky hy hB2 hRx hBa hb2 t0 t1
          by_cases h1c : y.count = 1
          · have hb1 : (y.count - 1 == 0) = true := by simp; omega
            have H1 := Lib.hid h1c
            clear h1c
            have hc0U := c0
            obtain ⟨V, hV⟩ : ∃ V, V = w2.setCell ⟨g, x.n.toNat * 3, none⟩ (.int .i64 (y.count - 1)) := ⟨_, rfl⟩
            have hVA : Arr V (w1.heap.size + 1) 24 2 (fun _ => False) (.slice (some ⟨gT, oT, none⟩) st.length cT) (st.reverse.map Slt.row) := by
              rw [hV]
              refine hAT2.setCell _ (fun e => ?_) (fun b hb => hb.elim)
              have := (hAT2.own _ e).1
              dsimp only at this
              omega
            have hVr : Rep V (fun b => okU ok (w.heap.size + 3) w1 b ∧ b ≠ g) (.sl (y.slots.map Slt.row)) (.slice sa' y.slots.length sc') := by rw [hV]; exact hrs2.setCell _ (fun b hb => hb.2)
            have hVB : Hid (Blk V w1.heap.size 28 #[.slice (some ⟨g, 0, none⟩) n c', .int .i64 h2.made, .int .i64 h2.used, .int .i64 h2.live, .int .i64 h2.peak] ∧ Arr V (w.heap.size + 3) 51 3 (okU ok (w.heap.size + 3) w1) (.slice (some ⟨g, 0, none⟩) n c') ((ys ++ { y with count := y.count - 1 } :: zs).map Cll.row)) := by
              obtain ⟨hl, hky⟩ := HH.out
              have hA3 := HB2.out.2
              rw [hl] at hA3
              have hA4 := hA3.cll_count (y.count - 1) (by omega) (by omega)
              rw [hky] at hA4
              rw [Hid, hV]
              exact ⟨HB2.out.1.far hne.symm _, hA4⟩
            have hVQ : Blk V (w.heap.size + 1 + 1) 28 #[.slice none 0 0, .int .i64 0, .int .i64 0, .int .i64 0, .int .i64 0] := by rw [hV]; exact hQ2.far hne2.symm _
            have hVb : Below w.heap.size w V := by rw [hV]; exact hbW.setCell (by dsimp only; omega) _
            have hVs : V.heap.size = w2.heap.size := by rw [hV]; simp
            have HVS := Lib.hid hVs
            have HV := Lib.hid hV
            clear hV hVs
            go_upto_region 11 with (fail)
            have hV' := HV.out
            rw [← hV']
            clear hV' HV c0 c1 c2 hf hbc hbf hrs2 hAT2 hQ2 hbW r0 r1 hc0U
            obtain ⟨j0, hj, hy0, hy1, hy2⟩ := info_parts tInfo_Slot
            obtain ⟨g', sb, sd, hg', _, hgV, u0, u1, u2, uf, hru, _⟩ := Arr.cll hVB.out.2 rfl
            simp only [Option.some.injEq, Addr.mk.injEq, and_true] at hg'
            subst hg'
            have hvb := hVB.out.1.cell
            have hvf := hVB.out.1.frozen
            have hky2 := HH.out.2
            rw [hky2] at u0 u1 u2
            have hvr2 : Hid (∃ sb', sb' = sb) := ⟨_, rfl⟩
            clear hky2 hvr2
            have hslt : y.slots.length + st.length ≤ 1000000000001 := by
              have h1 := HL.out.2.1
              have h2' := HL.out.2.2.1
              have h3 : y.slots.length ≤ tot h2.cells := by rw [HH.out.1, tot_append]; simp [tot]; omega
              rw [List.length_cons] at h1
              omega
            have HVA := Lib.hid hVA
            have HRU := Lib.hid hru
            have hownT := hVA.own
            have hvs2 := HVS.out
            have hvs3 : w1.heap.size + 1 ≤ V.heap.size := by omega
            clear hVA hVr hvs2 hru
            go_wp2_with (at_builtin; refine wpList_arr_append _ rfl (.tmp 48) (.tmp 52) 25 rfl (w1.heap.size + 1) 24 j0 _ 2 16 Try.underlying25 hj hy0 hy1 hy2 rfl (by omega) (fun _ => False) (.slice (some ⟨gT, oT, none⟩) st.length cT) (st.reverse.map Slt.row) rfl HVA.out sb y.slots.length sd (y.slots.map Slt.row) (by simp) rfl (fun b => okU ok (w.heap.size + 3) w1 b ∧ b ≠ g) HRU.out (fun i j r d u hr hd hu => hu.flat (flat_map Slt.row Slt.flat y.slots i j r d hr hd)) (map_row_len _ _ Slt.row_len y.slots) (by simp [maxLen]; omega) (by simp; omega) (fun b hb => hb.elim) (by omega) ?_)
            intro v' w4 hA4 hg4 hv4
            have hownp : ∀ q, (Value.slice (some ⟨gT, oT, none⟩) st.length cT).ownBlock = some q → w1.heap.size + 1 ≤ q := fun q hq => (hownT q hq).1
            have hs4 : V.heap.size ≤ w4.heap.size := hg4.size
            have hrr : (List.map Slt.row st).reverse ++ List.map Slt.row y.slots = (y.slots.reverse ++ st).reverse.map Slt.row := by simp
            rw [hrr] at hA4
            obtain ⟨a4, c4, hv4'⟩ := hA4.shape
            rw [List.length_map, List.length_reverse] at hv4'
            subst hv4'
            have hQ4 := hVQ.grown hg4 (fun e => by have := hownp _ e.symm; omega)
            have hP4 := hVB.out.1.grown hg4 (fun e => by have := hownp _ e.symm; omega)
            have hb4 : Below w.heap.size w w4 := hVb.grown hg4 hVb.size (fun q hq => by have := hownp _ hq; omega)
            have hgo : (Value.slice (some (⟨g, 0, none⟩ : Addr)) n c').ownBlock ≠ (Value.slice (some ⟨gT, oT, none⟩) st.length cT).ownBlock := fun e => by have := hownp g (by rw [← e]; rfl); omega
            have hAc4 := hVB.out.2.grown hg4 (.inr hgo) (fun b hb => ⟨by have := hok1 b hb; omega, fun e => by have := hownp _ e; have := hok1 b hb; omega⟩)
            have hne4 : some g ≠ (Value.slice (some ⟨gT, oT, none⟩) st.length cT).ownBlock := hgo
            have e0 : w4.cell? ⟨g, x.n.toNat * 3, none⟩ = some (.int .i64 (y.count - 1)) := (hg4.cell_far _ hgV hne4).trans u0
            have e1 : w4.cell? ⟨g, x.n.toNat * 3 + 1, none⟩ = some (.int .i64 y.tag) := (hg4.cell_far _ hgV hne4).trans u1
            have e2 : w4.cell? ⟨g, x.n.toNat * 3 + 2, none⟩ = some (.slice sb y.slots.length sd) := (hg4.cell_far _ hgV hne4).trans u2
            have ef : ∀ o, w4.frozen? ⟨g, o, none⟩ = false := fun o => (hg4.frozen_far _ hgV hne4).trans (uf o)
            have hpc := hP4.cell
            have hpf := hP4.frozen
            have HA4 := Lib.hid hA4
            have HC4 := Lib.hid hAc4
            have HL2 : Hid (h.drop s = ({ h2.put x.n Cll.zero with live := h2.live - 1 } : Hp).drops (y.slots.reverse ++ st) ∧ (y.slots.reverse ++ st).length + tot (h2.put x.n Cll.zero).cells = gk - 1 ∧ 0 < gk) := by
              obtain ⟨l1, l2, l3, l4, l5⟩ := HL.out
              have hst : h2.step x st = ({ h2.put x.n Cll.zero with live := h2.live - 1 }, y.slots.reverse ++ st, 0) := by
                unfold Hp.step
                rw [if_pos HK.out, HY.out]
                simp only [if_pos hyc, if_pos H1.out]
              have hm : y.slots.length + tot (h2.put x.n Cll.zero).cells = tot h2.cells := by
                rw [Hp.put_split HH.out.1 HH.out.2, HH.out.1, tot_append, tot_append]
                simp [tot, Cll.zero]
                omega
              rw [List.length_cons] at l2
              refine ⟨?_, by simp; omega, by omega⟩
              rw [l1, Hp.drops_cons, hst]
              simp
            clear hvb hvf u0 u1 u2 uf hA4 hg4 hv4 hVQ hVb hrr hAc4 hQr hbr hQa hgT hownT
            go_wp2_with fail
            go_roundg (gk - 1)
            case measure => have := HL2.out.2.2; omega
            case rel =>
              obtain ⟨l1, l2, l3⟩ := HL2.out
              obtain ⟨_, _, m3, m4, m5⟩ := HL.out
              obtain ⟨hl, hky⟩ := HH.out
              have hA5 := HC4.out.cll_put Cll.zero (.slice none 0 0) (by simp [Cll.zero]) (by simp [Cll.zero]) (.empty none 0 (fun _ => rfl) (Nat.zero_le _))
              rw [hky, ← Hp.put_split hl hky] at hA5
              have hown4 := HA4.out.own
              refine ⟨y.slots.reverse ++ st, { h2.put x.n Cll.zero with live := h2.live - 1 }, a4, c4, ⟨l1, l2, by omega, by dsimp only; omega, by dsimp only; omega⟩, by simp, ?_, ⟨(((hP4.far hne.symm _).far hne.symm _).far hne.symm _).set_ 3 _, hA5.setCell _ (by simp [Value.ownBlock]; omega) (fun b hb => by have := hok1 b hb; dsimp only; omega)⟩, (((hQ4.far hne2.symm _).far hne2.symm _).far hne2.symm _).far (by dsimp only; omega) _, ((((hb4.setCell (by dsimp only; omega) _).setCell (by dsimp only; omega) _).setCell (by dsimp only; omega) _).setCell (by dsimp only; omega) _), by simp; omega⟩
              iterate 4 refine Arr.setCell ?_ _ (fun e => by have := (hown4 _ e).1; dsimp only at this; omega) (fun b hb => hb.elim)
              exact HA4.out
          · have hb1 : (y.count - 1 == 0) = false := by simp; omega
            have HL2 : Hid (h.drop s = (h2.put x.n { y with count := y.count - 1 }).drops st ∧ st.length + tot (h2.put x.n { y with count := y.count - 1 }).cells = gk - 1 ∧ 0 < gk) := by
              obtain ⟨l1, l2, l3, l4, l5⟩ := HL.out
              have hst : h2.step x st = (h2.put x.n { y with count := y.count - 1 }, st, 0) := by
                unfold Hp.step
                rw [if_pos HK.out, HY.out]
                simp only [if_pos hyc, if_neg h1c]
              have hm : tot (h2.put x.n { y with count := y.count - 1 }).cells = tot h2.cells := by
                rw [Hp.put_split HH.out.1 HH.out.2, HH.out.1, tot_append, tot_append]
                rfl
              rw [List.length_cons] at l2
              refine ⟨?_, by rw [hm]; omega, by omega⟩
              rw [l1, Hp.drops_cons, hst]
              simp
            have HC := Lib.hid h1c
            clear h1c
            go_wp2_with fail
            go_roundg (gk - 1)
            case measure => have := HL2.out.2.2; omega
            case rel =>
              obtain ⟨l1, l2, l3⟩ := HL2.out
              obtain ⟨_, _, m3, m4, m5⟩ := HL.out
              obtain ⟨hl, hky⟩ := HH.out
              have hA3 := HB2.out.2
              rw [hl] at hA3
              have hA4 := hA3.cll_count (y.count - 1) (by omega) (by omega)
              rw [hky, ← Hp.put_split hl hky] at hA4
              refine ⟨st, _, some ⟨gT, oT, none⟩, cT, ⟨l1, l2, by omega, by simp only [Hp.put]; omega, m5⟩, rfl, hAT2.setCell _ ?_ (fun b hb => hb.elim), ⟨HB2.out.1.far hne.symm _, hA4⟩, hQ2.far hne2.symm _, hbW.setCell (by dsimp only; omega) _, by simp; omega⟩
              intro e
              have := (hAT2.own _ e).1
              dsimp only at this
              omega
        · refine (heap_cell_none h2 x (fun b => b < wr.heap.size) a' n c' w1.heap.size _ (fun b hb => by simp; omega) (hBa.1.cell 0) (hRx.alloc _ (fun b hb => hb)) (fun y hy => by have : ¬ 1 ≤ y.count := fun hc => hP ⟨y, hy, hc⟩; omega)).mono ?_
          rintro e w2 ⟨rfl, hb2⟩
          have hQ2 := hQa.under hb2 (by simp; omega)
          have hbW : Below w.heap.size w w2 := (hbr.alloc hbr.size _).trans (hb2.mono (by simp; have := hbr.size; omega))
          have hq2 := hQ2.cell
          have hqf := hQ2.frozen
          have HE : Hid (h.drop s = (Hp.zero, 14)) := by
            rw [Hid, HL.out.1, Hp.drops_cons]
            have hst : (h2.step x st).2.2 = 14 := by
              unfold Hp.step
              rw [if_pos HK.out]
              rcases hy : h2.at x.n with _ | y
              · rfl
              · have : ¬ 1 ≤ y.count := fun hc => hP ⟨y, hy, hc⟩
                simp only [if_neg this]
            rw [hst]
            simp
          clear hP hRx hBa hb2 t0 t1
          go_wp2_with fail
          refine bodyPost_ret (v := .tuple #[.agg #[.slice none 0 0, .int .i64 0, .int .i64 0, .int .i64 0, .int .i64 0], .int .i64 14]) (by simp [results, Try.results21, go_sem, hq2]) rfl ?_
          refine ⟨_, by rw [HE.out], by rw [HE.out]; exact HpRet.zero, ?_⟩
          exact (((((hbW.setCell (by simp; omega) _).setCell (by simp; omega) _).setCell (by simp; omega) _).setCell (by simp; omega) _).setCell (by simp; omega) _)
      · have hk' : (x.kind != 2) = true := by simpa using hk
        have HL2 : Hid (h.drop s = h2.drops st ∧ st.length + tot h2.cells = gk - 1 ∧ 0 < gk ∧ gk ≤ 1 + tot h.cells ∧ -M - (1 + tot h.cells - gk) ≤ h2.live ∧ h2.live ≤ M) := by
          obtain ⟨l1, l2, l3, l4, l5⟩ := HL.out
          simp at l2
          refine ⟨?_, by omega, by omega, by omega, by omega, by omega⟩
          rw [l1, Hp.drops_cons]
          have : h2.step x st = (h2, st, 0) := by rw [Hp.step, if_neg hk]
          rw [this]
          simp
        clear hk
        go_wp2_with fail
        go_roundg (gk - 1)
        case measure => have := HL2.out.2.2.1; omega
        case rel =>
          obtain ⟨l1, l2, l3, l4, l5, l6⟩ := HL2.out
          exact ⟨st, h2, some ⟨gT, oT, none⟩, cT, ⟨l1, l2, by omega, by omega, l6⟩, rfl, HAP.out.alloc _ (fun b hb => hb.elim), HBx.out.alloc _ (fun b hb => by have := hok1 b hb; omega), hQr.alloc _, hbr.alloc hbr.size _, by simp; omega⟩
end Go.Proofs.Ytcakhebnebcpcaa
