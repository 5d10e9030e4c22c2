/- heap.Free, xcref10.Free. -/
import Derived.Test.YtcakhebnebcpcaaHeapH
namespace Go.Proofs.Ytcakhebnebcpcaa
open Go.RowKit
set_option linter.unusedVariables false

def Cll.zero : Cll := ⟨0, 0, []⟩
/-- What gives a token's room back. -/
def Hp.free (h : Hp) (s : Slt) : Hp × Int :=
  if s.kind = 2 then
    if h.kept s = true then ({ h.put s.n Cll.zero with live := h.live - 1 }, 0) else (Hp.zero, 14)
  else (h, 0)
def FreeSaid (h : Hp) (s : Slt) (ok : Nat → Prop) (w : World) (e : Ending) (w' : World) : Prop :=
  ∃ v, e = .returned (.tuple #[v, .int .i64 (h.free s).2]) ∧ HpRet w w' ok v (h.free s).1 ∧ Below w.heap.size w w'

theorem Hp.kept_some {h : Hp} {s : Slt} (hk : h.kept s = true) : ∃ x, h.at s.n = some x ∧ x.count = -1 := by
  unfold Hp.kept at hk
  rcases hx : h.at s.n with _ | x
  · simp [hx] at hk
  · rw [hx] at hk
    exact ⟨x, rfl, by simpa using hk⟩
theorem Hp.kept_none {h : Hp} {s : Slt} (hk : ¬ h.kept s = true) : ∀ x, h.at s.n = some x → x.count ≠ -1 := fun x hx hc => hk (by simp [Hp.kept, hx, hc])

section
variable {w : World} {ok : Nat → Prop} {base : Nat} {e : TypeId} {ys zs : List Cll} {x : Cll} {n c : Nat}
theorem Arr.cll_put {g : Nat} (h : Arr w base e 3 ok (.slice (some ⟨g, 0, none⟩) n c) ((ys ++ x :: zs).map Cll.row)) (y : Cll) (v : Value) (h1 : -9223372036854775808 ≤ y.count ∧ y.count ≤ 9223372036854775807) (h2 : -9223372036854775808 ≤ y.tag ∧ y.tag ≤ 9223372036854775807)
    (hv : Rep w (fun b => ok b ∧ b ≠ g) (.sl (y.slots.map Slt.row)) v) :
    Arr (((w.setCell ⟨g, ys.length * 3, none⟩ (.int .i64 y.count)).setCell ⟨g, ys.length * 3 + 1, none⟩ (.int .i64 y.tag)).setCell ⟨g, ys.length * 3 + 2, none⟩ v) base e 3 ok (.slice (some ⟨g, 0, none⟩) n c) ((ys ++ y :: zs).map Cll.row) :=
  ((h.cll_count y.count h1.1 h1.2).cll_tag y.tag h2.1 h2.2).cll_slots y.slots v ((hv.setCell _ (fun b hb => hb.2)).setCell _ (fun b hb => hb.2))
end

/-- The end of a function that hands a heap back: five stores into the result's variable. -/
theorem ret5 {w W : World} {q B : Nat} {ok : Nat → Prop} {a : Option Addr} {n c : Nat} {h : Hp} (hok : ∀ b, ok b → b < w.heap.size) (hq : w.heap.size ≤ q) (hqB : q < B) (hb : Below w.heap.size w W)
    (hR : Rep W (fun b => ok b ∨ (B ≤ b ∧ b < W.heap.size)) (.sl (h.cells.map Cll.row)) (.slice a n c)) (v0 v1 v2 v3 v4 : Value) :
    HpRet w (((((W.setCell ⟨q, 0, none⟩ v0).setCell ⟨q, 1, none⟩ v1).setCell ⟨q, 2, none⟩ v2).setCell ⟨q, 3, none⟩ v3).setCell ⟨q, 4, none⟩ v4) ok (.agg #[.slice a n c, .int .i64 h.made, .int .i64 h.used, .int .i64 h.live, .int .i64 h.peak]) h ∧
      Below w.heap.size w (((((W.setCell ⟨q, 0, none⟩ v0).setCell ⟨q, 1, none⟩ v1).setCell ⟨q, 2, none⟩ v2).setCell ⟨q, 3, none⟩ v3).setCell ⟨q, 4, none⟩ v4) := by
  refine ⟨⟨a, n, c, rfl, ?_⟩, ?_⟩
  · refine Rep.weak (ok := fun b => ok b ∨ (B ≤ b ∧ b < W.heap.size)) ?_ (fun b hb => hb.imp id fun h => ⟨by omega, by simp; omega⟩)
    iterate 5 refine Rep.setCell ?_ _ (fun b hb => by rcases hb with hb | hb <;> dsimp only <;> first | omega | (have := hok b hb; omega))
    exact hR
  · exact (((((hb.setCell hq _).setCell hq _).setCell hq _).setCell hq _).setCell hq _)

/-- The same out of a heap in a variable. -/
theorem ret5_box {w W : World} {q p B : Nat} {ok ok1 : Nat → Prop} {a : Option Addr} {n c : Nat} {h : Hp} (hok : ∀ b, ok b → b < w.heap.size) (hq : w.heap.size ≤ q) (hqB : q < B) (hb : Below w.heap.size w W)
    (hB : HpBox W p B ok1 a n c h) (hok1 : ∀ b, ok1 b → ok b ∨ (B ≤ b ∧ b < W.heap.size)) (v0 v1 v2 v3 v4 : Value) :
    HpRet w (((((W.setCell ⟨q, 0, none⟩ v0).setCell ⟨q, 1, none⟩ v1).setCell ⟨q, 2, none⟩ v2).setCell ⟨q, 3, none⟩ v3).setCell ⟨q, 4, none⟩ v4) ok (.agg #[.slice a n c, .int .i64 h.made, .int .i64 h.used, .int .i64 h.live, .int .i64 h.peak]) h ∧
      Below w.heap.size w (((((W.setCell ⟨q, 0, none⟩ v0).setCell ⟨q, 1, none⟩ v1).setCell ⟨q, 2, none⟩ v2).setCell ⟨q, 3, none⟩ v3).setCell ⟨q, 4, none⟩ v4) :=
  ret5 hok hq hqB hb (hB.rep (fun b h1 h2 => .inr ⟨h1, h2⟩) hok1) v0 v1 v2 v3 v4

set_option maxHeartbeats 1000000 in
theorem heap_Free (h : Hp) (s : Slt) (M : Int) (ok : Nat → Prop) (a : Option Addr) (n c : Nat) (w : World) (hM : M ≤ 1000000) (hO : h.Ok M) (hok : ∀ b, ok b → b < w.heap.size) (hR : Rep w ok (.sl (h.cells.map Cll.row)) (.slice a n c)) :
    Calls Try.prog 25 #[.agg #[.slice a n c, .int .i64 h.made, .int .i64 h.used, .int .i64 h.live, .int .i64 h.peak], .agg #[.int .i64 s.kind, .int .i64 s.n]] w (FreeSaid h s ok w) := by
  have hn := hR.len_inv.1
  rw [List.length_map] at hn
  have hlen := hO.len
  have hsl : ∀ x ∈ h.cells, x.slots.length ≤ 8796093022208 := fun x hx => by have := hO.slots x hx; omega
  have hokB : ∀ (o1 o2 o3 : Obj), ∀ b, ok b → b < (((w.alloc o1).alloc o2).alloc o3).heap.size := fun _ _ _ b hb => by have := hok b hb; simp; omega
  have HN := Lib.hid hn
  have HO := Lib.hid hO
  clear hn hO
  go_enter Try.func25, Try.ntmps25
  go_wp2_with fail
  refine (heap_Own' h.cells h.made h.used h.live h.peak ok a n c _ HN.out (by have := HN.out; omega) hsl (hokB _ _ _) (((hR.alloc _ hok).alloc _ (fun b hb => by have := hok b hb; simp; omega)).alloc _ (fun b hb => by have := hok b hb; simp; omega))).mono ?_
  rintro e w1 ⟨a', c', rfl, hA, hb1⟩
  have hS := (Blk.under ((Blk.new' (w.alloc _) 24 #[.int .i64 s.kind, .int .i64 s.n] (w.heap.size + 1) (by simp)).alloc _) hb1 (by simp)).cell
  have hQ := Blk.under (Blk.new' ((w.alloc _).alloc _) 28 #[.slice none 0 0, .int .i64 0, .int .i64 0, .int .i64 0, .int .i64 0] (w.heap.size + 1 + 1) (by simp)) hb1 (by simp)
  have hbw : Below w.heap.size w w1 := ((((Below.refl _ w).alloc (Nat.le_refl _) _).alloc (by simp) _).alloc (by simp; omega) _).trans (hb1.mono (by simp; omega))
  have hsz : w.heap.size + 3 ≤ w1.heap.size := by have := hb1.size; simp at this; omega
  have hA1 : Arr w1 (w.heap.size + 3) 51 3 (okU ok (w.heap.size + 3) w1) (.slice a' n c') (h.cells.map Cll.row) := by simpa using hA
  have hok1 : ∀ b, okU ok (w.heap.size + 3) w1 b → b < w1.heap.size := fun b hb => by rcases hb with hb | hb <;> first | omega | (have := hok b hb; omega)
  have hsa : ∀ (o : Obj) (i : Nat), (w1.alloc o).cell? ⟨w.heap.size + 1, i, none⟩ = #[.int .i64 s.kind, .int .i64 s.n][i]? := fun o i => (World.cell?_alloc_lt w1 o ⟨w.heap.size + 1, i, none⟩ (by dsimp only; omega)).trans (hS i)
  have HB : HpBox (w1.alloc (.cells #[.slice a' n c', .int .i64 h.made, .int .i64 h.used, .int .i64 h.live, .int .i64 h.peak] 28)) w1.heap.size (w.heap.size + 3) (okU ok (w.heap.size + 3) w1) a' n c' h := ⟨Blk.new _ _ _, hA1.alloc _ hok1⟩
  clear hA hb1 hS
  have hR1 : Rep (w1.alloc (.cells #[.slice a' n c', .int .i64 h.made, .int .i64 h.used, .int .i64 h.live, .int .i64 h.peak] 28)) (fun b => b < w1.heap.size) (.sl (h.cells.map Cll.row)) (.slice a' n c') :=
    (hA1.rep (ok' := fun b => b < w1.heap.size) (fun b _ h => h) hok1).alloc _ (fun b hb => hb)
  have hQa := hQ.alloc (.cells #[.slice a' n c', .int .i64 h.made, .int .i64 h.used, .int .i64 h.live, .int .i64 h.peak] 28)
  by_cases hk : s.kind = 2
  · have hk' : (s.kind != 2) = false := by simpa using hk
    have HK := Lib.hid hk
    clear hk
    go_wp2_with fail
    by_cases ht : h.kept s = true
    · obtain ⟨x, hx, hxc⟩ := Hp.kept_some ht
      have HE : Hid (h.free s = ({ h.put s.n Cll.zero with live := h.live - 1 }, 0)) := by rw [Hid, Hp.free, if_pos HK.out, if_pos ht]
      obtain ⟨h0, h1, ys, zs, hl, hky⟩ := Hp.at_some hx
      obtain ⟨g, sa, sc, rfl, hbg, hgs, _⟩ := Arr.cll hA1 hl
      refine (heap_kept_some h s x (fun b => b < w1.heap.size) g 0 n c' w1.heap.size _ (fun b hb => by simp; omega) (by simp) hR1 hx hxc).mono ?_
      rintro e w2 ⟨rfl, hb2⟩
      have hB2 := HB.under hb2 (Nat.le_refl _) (fun b hb => by have := hok1 b hb; simp; omega)
      have hQ2 := hQa.under hb2 (by simp; omega)
      have hbW : Below w.heap.size w w2 := (hbw.alloc hbw.size _).trans (hb2.mono (by simp; omega))
      have hs2 : w1.heap.size < w2.heap.size := by have := hb2.size; simp at this; omega
      have hA2 := hB2.2
      obtain ⟨g', sa', sc', hg', _, _, c0, c1, c2, hf, _⟩ := Arr.cll hA2 hl
      simp only [Option.some.injEq, Addr.mk.injEq, and_true] at hg'
      subst hg'
      rw [hky] at c0 c1 c2
      have hc2 := hB2.1.cell
      have hf2 := hB2.1.frozen
      have hq2 := hQ2.cell
      have hqf := hQ2.frozen
      have hne : g ≠ w1.heap.size := by omega
      have hne' : g ≠ w.heap.size + 1 + 1 := by omega
      have hlv := HO.out.live
      have HH := Lib.hid (And.intro hl hky)
      have HB2 := Lib.hid hB2
      clear hx hxc hl hky hA1 hA2 hB2 HB ht hR1 hb2
      go_wp2_with fail
      refine bodyPost_ret (v := .tuple #[.agg #[.slice (some ⟨g, 0, none⟩) n c', .int .i64 h.made, .int .i64 h.used, .int .i64 (h.live - 1), .int .i64 h.peak], .int .i64 0]) (by simp [results, Try.results25, go_sem, hq2]) rfl ?_
      obtain ⟨hl, hky⟩ := HH.out
      have hA3 := HB2.out.2
      rw [hl] at hA3
      have hA4 := hA3.cll_put Cll.zero (.slice none 0 0) (by simp [Cll.zero]) (by simp [Cll.zero]) (.empty none 0 (fun _ => rfl) (Nat.zero_le _))
      rw [hky, ← Hp.put_split hl hky] at hA4
      have hB5 : HpBox ((((w2.setCell ⟨g, s.n.toNat * 3, none⟩ (.int .i64 0)).setCell ⟨g, s.n.toNat * 3 + 1, none⟩ (.int .i64 0)).setCell ⟨g, s.n.toNat * 3 + 2, none⟩ (.slice none 0 0)).setCell ⟨w1.heap.size, 3, none⟩ (.int .i64 (h.live - 1)))
          w1.heap.size (w.heap.size + 3) (okU ok (w.heap.size + 3) w1) (some ⟨g, 0, none⟩) n c' { h.put s.n Cll.zero with live := h.live - 1 } :=
        ⟨(((HB2.out.1.far hne.symm _).far hne.symm _).far hne.symm _).set_ 3 _, hA4.setCell _ (by simp [Value.ownBlock]; exact hne) (fun b hb => by have := hok1 b hb; dsimp only; omega)⟩
      have hfin := ret5_box (q := w.heap.size + 1 + 1) hok (by omega) (by omega) ((((hbW.setCell (by dsimp only; omega) _).setCell (by dsimp only; omega) _).setCell (by dsimp only; omega) _).setCell (by dsimp only; omega) _) hB5 (fun b hb => hb.imp id fun h => ⟨h.1, by simp; omega⟩)
        (.slice (some ⟨g, 0, none⟩) n c') (.int .i64 h.made) (.int .i64 h.used) (.int .i64 (h.live - 1)) (.int .i64 h.peak)
      exact ⟨_, by rw [HE.out], by rw [HE.out]; exact hfin.1, hfin.2⟩
    · have HE : Hid (h.free s = (Hp.zero, 14)) := by rw [Hid, Hp.free, if_pos HK.out, if_neg ht]
      refine (heap_kept_none h s (fun b => b < w1.heap.size) a' n c' w1.heap.size _ (fun b hb => by simp; omega) (by simp) hR1 (Hp.kept_none ht)).mono ?_
      rintro e w2 ⟨rfl, hb2⟩
      have hQ2 := hQa.under hb2 (by simp; omega)
      have hbW : Below w.heap.size w w2 := (hbw.alloc hbw.size _).trans (hb2.mono (by simp; omega))
      have hs2 : w1.heap.size < w2.heap.size := by have := hb2.size; simp at this; omega
      have hq2 := hQ2.cell
      have hqf := hQ2.frozen
      clear ht hb2
      go_wp2_with fail
      refine bodyPost_ret (v := .tuple #[.agg #[.slice none 0 0, .int .i64 0, .int .i64 0, .int .i64 0, .int .i64 0], .int .i64 14]) (by simp [results, Try.results25, go_sem, hq2]) rfl ?_
      refine ⟨_, by rw [HE.out], by rw [HE.out]; exact HpRet.zero, ?_⟩
      exact (((((hbW.setCell (by simp; omega) _).setCell (by simp; omega) _).setCell (by simp; omega) _).setCell (by simp; omega) _).setCell (by simp; omega) _)
  · have hk' : (s.kind != 2) = true := by simpa using hk
    have HE : Hid (h.free s = (h, 0)) := by simp [Hid, Hp.free, hk]
    have hq2 := hQa.cell
    have hqf := hQa.frozen
    clear hk
    go_wp2_with fail
    refine bodyPost_ret (v := .tuple #[.agg #[.slice a' n c', .int .i64 h.made, .int .i64 h.used, .int .i64 h.live, .int .i64 h.peak], .int .i64 0]) (by simp [results, Try.results25, go_sem, hq2]) rfl ?_
    refine ⟨_, by rw [HE.out], ?_, ?_⟩
    · rw [HE.out]
      refine ⟨a', n, c', rfl, ?_⟩
      refine Rep.weak (ok := okU ok (w.heap.size + 3) w1) ?_ (fun b hb => hb.imp id fun h => ⟨by omega, by simp; omega⟩)
      iterate 5 refine Rep.setCell ?_ _ (fun b hb => by rcases hb with hb | hb <;> dsimp only <;> first | omega | (have := hok b hb; omega))
      exact (hA1.rep (ok' := okU ok (w.heap.size + 3) w1) (fun b h1 h2 => .inr ⟨h1, h2⟩) (fun b hb => hb)).alloc _ hok1
    · exact ((((((hbw.alloc hbw.size _).setCell (by simp; omega) _).setCell (by simp; omega) _).setCell (by simp; omega) _).setCell (by simp; omega) _).setCell (by simp; omega) _)
end Go.Proofs.Ytcakhebnebcpcaa
