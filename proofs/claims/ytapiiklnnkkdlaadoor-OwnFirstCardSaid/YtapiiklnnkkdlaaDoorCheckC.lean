import Derived.Test.YtapiiklnnkkdlaaDoorBackA
import Derived.Shelf.Strconv.Itoa0
import Derived.Shelf.Strconv.Itoa1
import Derived.Shelf.LaysM
import Derived.Shelf.Strconv.Itoa2
import Derived.Shelf.Strconv.Itoa3
import Derived.Shelf.LaysC
import Derived.Shelf.Strconv.AtoiAll
import Derived.Shelf.Strconv.ErrVarAll
import Derived.Test.YtapiiklnnkkdlaaDoorProg
import Derived.Test.YtapiiklnnkkdlaaDoorTy
import Derived.Lib.ItoaLen
/- Steps that count, ahead of a term: own.drops, own.dups, fuse.drops. Printed by a small program. -/
namespace Go.Proofs.YtapiiklnnkkdlaaDoor
open Go.RowKit Go.Shelf
set_option linter.unusedVariables false
set_option linter.unusedSimpArgs false
attribute [local go_sem] Oper.semAt_some
def cnt (k : Int) : List ByteArray → Tm → Tm
  | [], t => t
  | s :: r, t => .mk k 0 s .empty [] [cnt k r t] []
def cntF (k : Int) (t : Tm) (pre : List (Int × ByteArray)) : Tm := pre.foldl (fun t x => .mk k 0 x.2 .empty [] [t] []) t
theorem cntF_snoc (k : Int) (t : Tm) (pre : List (Int × ByteArray)) (x : Int × ByteArray) : cntF k t (pre ++ [x]) = .mk k 0 x.2 .empty [] [cntF k t pre] [] := by
  unfold cntF
  rw [List.foldl_append]
  rfl
theorem cntF_back (k : Int) (t : Tm) (l : List ByteArray) : ∀ j, j ≤ l.length → cntF k t (backL l j) = cnt k (l.drop (l.length - j)) t
  | 0, _ => by rw [Nat.sub_zero, List.drop_length]; rfl
  | j + 1, h => by
    rw [backL_succ, cntF_snoc, cntF_back k t l j (by omega)]
    have h1 : l.length - (j + 1) < l.length := by omega
    rw [List.drop_eq_getElem_cons h1, cnt, show l.length - (j + 1) + 1 = l.length - j from by omega]
    unfold backF
    rw [show l.length - 1 - j = l.length - (j + 1) from by omega, List.getElem?_eq_getElem h1, Option.getD_some]
theorem cntF_all (k : Int) (t : Tm) (l : List ByteArray) : cntF k t (backL l l.length) = cnt k l t := by
  rw [cntF_back k t l l.length (Nat.le_refl _), Nat.sub_self, List.drop_zero]
def BInv (k : Int) (t : Tm) (ok : Nat → Prop) (n0 : Nat) (z : Array Value) (pre : List (Int × ByteArray)) (W : World) : Prop :=
  n0 + 3 ≤ W.heap.size ∧ ∃ (S : Nat → Prop) (c0 c1 c2 c3 c4 c5 c6 : Value), (∀ b, S b → n0 + 3 ≤ b ∧ ∃ cs t fr, W.heap[b]? = some (.cells cs t fr)) ∧ Blk W n0 34 #[c0, c1, c2, c3, c4, c5, c6] ∧ Blk W (n0 + 1) 34 z ∧
    ((∀ p ∈ pre, p.2.size ≤ maxLen) → RepRow W (fun b => ok b ∨ S b) (cntF k t pre).row [c0, c1, c2, c3, c4, c5, c6])
theorem blk_kept {W W' : World} {row : Option Nat} {b : Nat} {o : Obj} (ho : o.isCells = true) (h : W.heap[b]? = some o) (hg : W.grownBy W' row) (hr : ∀ r, row = some r → ∃ o : Obj, W.heap[r]? = some o ∧ o.isCells = false) : W'.heap[b]? = some o := by
  refine (hg.block b (Array.getElem?_eq_some_iff.1 h).1 fun e => ?_).trans h
  obtain ⟨o', h1, h2⟩ := hr b e.symm
  rw [h] at h1
  cases h1
  rw [ho] at h2
  cases h2
theorem BInv.own (k : Int) (t : Tm) (ok : Nat → Prop) (n0 B : Nat) (z : Array Value) (hB : n0 ≤ B) (hok : ∀ b, ok b → b < n0) : OwnFrom B (BInv k t ok n0 z) := by
  rintro pre W W' row ⟨hsz, S, c0, c1, c2, c3, c4, c5, c6, hS, hb3, hb4, hrow⟩ hg hr
  have hr' : ∀ r, row = some r → ∃ o : Obj, W.heap[r]? = some o ∧ o.isCells = false := fun r e => (hr r e).2
  refine ⟨Nat.le_trans hsz hg.size, S, c0, c1, c2, c3, c4, c5, c6, fun b hb => ?_, blk_kept rfl hb3 hg hr', blk_kept rfl hb4 hg hr', fun hpre => ⟨(hrow hpre).1, fun j d v hd hv => ((hrow hpre).2 j d v hd hv).keep fun p hp => World.cell?_heap ?_⟩⟩
  · obtain ⟨h1, cs, t, fr, h2⟩ := hS b hb
    exact ⟨h1, cs, t, fr, blk_kept rfl h2 hg hr'⟩
  · rcases hp with hp | hp
    · have := hok _ hp
      have hlt : p.block < W.heap.size := by have := hb3.lt; omega
      refine hg.block _ hlt fun e => ?_
      have := (hr _ e.symm).1
      omega
    · obtain ⟨h1, cs, t, fr, h2⟩ := hS _ hp
      exact (blk_kept rfl h2 hg hr').trans h2.symm
section
variable {F : Fence} {nF : Nat} {P : Program}
theorem wpListIn_storeBlk (w : World) {ops : Array Oper} {rest : List Oper} {o : Oper} {a : Act} {Q : Exit → Act → World → Prop} (hg : o.guard = none) (p x : Operand) (t : TypeId) (hop : o.op = .store t p x)
    {b : Nat} {te : TypeId} {cs vs : Array Value} (hp : a.eval p = .pointer (some ⟨b, 0, none⟩)) (hx : a.eval x = .agg vs) (hb : Blk w b te cs) (hsz : (sizeOf t).run P w = .ok cs.size w) (hvs : vs.size = cs.size) (h1 : ∀ v ∈ vs.toList, v.oneCell' = true)
    (hK : ∀ w', Blk w' b te vs → w'.heap.size = w.heap.size → (∀ k, k ≠ b → w'.heap[k]? = w.heap[k]?) → w'.os = w.os → w'.tape = w.tape → w'.output = w.output → wpListIn F nF P ops Q rest (a.put o.dst undef) w') : wpListIn F nF P ops Q (o :: rest) a w := by
  refine wpListIn_plain hg fun K' hK' => ?_
  unfold Oper.wpIn
  refine ⟨by simp [Oper.about, hop], ?_⟩
  rw [Oper.semAt_plain F _ _ (by rw [hop]; intro c hc'; cases hc')]
  have hst := run_storeCells_at P b 0 te vs.toList 0 cs w hb (by simp; omega) h1
  have e1 : (cs.toList.take (0 + 0) ++ vs.toList ++ cs.toList.drop (0 + 0 + vs.toList.length)).toArray = vs := by
    rw [List.drop_of_length_le (by simp; omega)]
    simp
  rw [e1] at hst
  have hne : ¬ vs.size ≠ cs.size := by omega
  have hrun : (execOp a.eval o).run P w = .ok .skip (w.setRow b vs) := by
    obtain ⟨dst, op, ty, pos, after, guard⟩ := o
    dsimp only at hop
    subst hop
    simp only [execOp, Instr.storeAt, hp, hx, Instr.sureAddr, Sem.run_bind, Sem.run_pure, Result.andThen_ok, storeVar, hsz, Value.cells, if_neg hne, hst]
  rw [hrun]
  exact hK' _ _ (hK _ (setRow_heap w b cs vs te (0, 0) hb) (by simp [World.setRow]) (fun k hk => setRow_other w b k vs hk) rfl rfl rfl)
end
theorem tm_cells {w : World} {ok : Nat → Prop} {g : Gh} {m : Me} {t : Tm} {v : Value} (h : VR w ok g m (tmAV t) v) : ∃ c0 c1 c2 c3 c4 c5 c6, v = .agg #[c0, c1, c2, c3, c4, c5, c6] ∧ RepRow w ok t.row [c0, c1, c2, c3, c4, c5, c6] := by
  obtain ⟨k, n, a, b, vs, xs, cs⟩ := t
  obtain ⟨vs', rfl, hl, h1, _⟩ := VR.agg_inv h
  match vs', hl with
  | ⟨[c0, c1, c2, c3, c4, c5, c6]⟩, _ =>
  refine ⟨c0, c1, c2, c3, c4, c5, c6, rfl, ?_⟩
  rw [Tm.row]
  refine ⟨rfl, fun j d v hd hv => ?_⟩
  have h2 := fun c hc => h1 j c v hc (by simpa using hv)
  rcases j with _ | _ | _ | _ | _ | _ | _ | j <;> simp at hd <;> subst hd
  all_goals first | exact (h2 _ rfl).d_inv | (simp only [Tm.rows_eq, Cs.rows_eq]; exact (h2 _ rfl).d_inv)
theorem tm_of_cells {w : World} {ok : Nat → Prop} {g : Gh} {m : Me} {t : Tm} {c0 c1 c2 c3 c4 c5 c6 : Value} (h : RepRow w ok t.row [c0, c1, c2, c3, c4, c5, c6]) : VR w ok g m (tmAV t) (.agg #[c0, c1, c2, c3, c4, c5, c6]) := by
  obtain ⟨k, n, a, b, vs, xs, cs⟩ := t
  rw [Tm.row] at h
  simp only [Tm.rows_eq, Cs.rows_eq] at h
  refine .agg _ _ rfl (fun j c v hc hv => ?_) (fun j v hv => ?_)
  · rcases j with _ | _ | _ | _ | _ | _ | _ | j <;> simp at hc hv <;> subst hc hv
    · exact .d _ _ (h.2 0 _ _ rfl rfl)
    · exact .d _ _ (h.2 1 _ _ rfl rfl)
    · exact .d _ _ (h.2 2 _ _ rfl rfl)
    · exact .d _ _ (h.2 3 _ _ rfl rfl)
    · exact .d _ _ (h.2 4 _ _ rfl rfl)
    · exact .d _ _ (h.2 5 _ _ rfl rfl)
    · exact .d _ _ (h.2 6 _ _ rfl rfl)
  · rcases j with _ | _ | _ | _ | _ | _ | _ | j <;> simp at hv <;> subst hv
    · exact (h.2 0 _ _ rfl rfl).oneCell
    · exact (h.2 1 _ _ rfl rfl).oneCell
    · exact (h.2 2 _ _ rfl rfl).oneCell
    · exact (h.2 3 _ _ rfl rfl).oneCell
    · exact (h.2 4 _ _ rfl rfl).oneCell
    · exact (h.2 5 _ _ rfl rfl).oneCell
    · exact (h.2 6 _ _ rfl rfl).oneCell
set_option maxRecDepth 100000 in
set_option maxHeartbeats 4000000 in
theorem drops_in (F : Fence) (n : Nat) (hfn : ∀ f, F.fn f) (hro : F.round = none) (hn : 3 ≤ n) (l : List ByteArray) (hl : l.length ≤ 8796093022207) (hls : ∀ s ∈ l, s.size ≤ maxLen) (t : Tm) (w : World) (ok : Nat → Prop) (hok : ∀ b, ok b → b < w.heap.size) (a : Option Addr) (len cap : Nat) (hs : Strs w.heap.size w (.slice a len cap) l)
    (c0 c1 c2 c3 c4 c5 c6 : Value) (hr : RepRow w ok t.row [c0, c1, c2, c3, c4, c5, c6]) :
    CallsIn F n Tryd.prog 84 #[.slice a len cap, .agg #[c0, c1, c2, c3, c4, c5, c6]] w fun e W' => ∃ (S : Nat → Prop) (d0 d1 d2 d3 d4 d5 d6 : Value), e = .returned (.agg #[d0, d1, d2, d3, d4, d5, d6]) ∧ Below w.heap.size w W' ∧ (∀ b, S b → w.heap.size ≤ b ∧ b < W'.heap.size) ∧
      RepRow W' (fun b => ok b ∨ S b) (cnt 9 l t).row [d0, d1, d2, d3, d4, d5, d6] := by
  have h1 : 1 ≤ n := by omega
  refine callsIn_of_wp_marks Tryd.func84 rfl (hfn _) ?_ hro
  simp only [Tryd.ntmps84, List.size_toArray, List.length_cons, List.length_nil, Nat.reduceAdd, Nat.reduceSub, Array.replicate_succ, Array.replicate_zero, List.push_toArray, List.append_toArray, List.nil_append, List.cons_append]
  gi_wp2_with (gi_at_call 126; refine (back_in F (n - 1) (hfn _) hro _ _ _ _).mono ?_; rintro e w' ⟨rfl, rfl⟩)
  obtain ⟨z, hz⟩ : ∃ z : Array Value, z = #[.int .i64 0, .int .i64 0, .string ⟨#[]⟩, .string ⟨#[]⟩, .slice none 0 0, .slice none 0 0, .slice none 0 0] := ⟨_, rfl⟩
  rw [← hz]
  have b3 := Blk.new w 34 #[c0, c1, c2, c3, c4, c5, c6]
  have b4 := Blk.new (w.alloc (.cells #[c0, c1, c2, c3, c4, c5, c6] 34)) 34 z
  have b5 := Blk.new ((w.alloc (.cells #[c0, c1, c2, c3, c4, c5, c6] 34)).alloc (.cells z 34)) 30 #[.slice a len cap]
  have hB0 : Below w.heap.size w (((w.alloc (.cells #[c0, c1, c2, c3, c4, c5, c6] 34)).alloc (.cells z 34)).alloc (.cells #[.slice a len cap] 30)) := (((Below.refl _ w).alloc (Nat.le_refl _) _).alloc (by simp) _).alloc (by simp; omega) _
  have b3' := (b3.alloc (.cells z 34)).alloc (.cells #[.slice a len cap] 30)
  have b4' := b4.alloc (.cells #[.slice a len cap] 30)
  simp only [World.size_alloc] at b4 b5 b4'
  obtain ⟨W0, hW0⟩ : ∃ W0, ((w.alloc (.cells #[c0, c1, c2, c3, c4, c5, c6] 34)).alloc (.cells z 34)).alloc (.cells #[.slice a len cap] 30) = W0 := ⟨_, rfl⟩
  have hsz0 : W0.heap.size = w.heap.size + 3 := by rw [← hW0]; simp
  rw [hW0] at b3' b4' b5 hB0 ⊢
  refine wpIn_rangeFunc_ownG hro h1 (gf := 166) (lb := #[.pointer (some ⟨w.heap.size + 1 + 1, 0, none⟩)]) rfl (hfn _) (enters_of Tryd.func166 (by kernel_rfl) rfl)
    (back_stops F (n - 1) (hfn _) hro (by omega) (w.heap.size + 1 + 1) w.heap.size _ l hl W0 (by omega) (by omega) (b5.cell 0) (hs.below hB0)) (fun h k => KpB.trans h k)
    (fun W lp o o' hle h2 h3 h4 => ⟨belowK_b (w := W0) (by omega) W lp o o' hle h2 h3 h4, World.cell?_heap (World.putObj_heap_other (by show w.heap.size + 1 + 1 ≠ lp; omega))⟩) (Below.refl _ _) (fun _ => rfl)
    (fun pre W => BInv 9 t ok w.heap.size z pre W ∧ Below w.heap.size w W) (fun _ _ _ => False)
    (OwnFrom.and (BInv.own 9 t ok _ _ z (by omega) hok) (ownFrom_below (Nat.le_refl _) (by omega)))
    (fun _ _ _ _ _ hs _ _ => hs)
    ⟨⟨by omega, fun _ => False, c0, c1, c2, c3, c4, c5, c6, fun _ h => h.elim, b3', b4', fun _ => ⟨hr.1, fun j d v hd hv => ((hr.2 j d v hd hv).keep fun p hp => World.cell?_heap (hB0.block p.block (hok _ hp))).weak fun b hb => .inl hb⟩⟩, hB0⟩
    (fun x => { tmps := #[.slice a len cap, .agg #[c0, c1, c2, c3, c4, c5, c6], undef, .pointer (some ⟨w.heap.size, 0, none⟩), .pointer (some ⟨w.heap.size + 1, 0, none⟩), undef, .string x.2, .slice a len cap, .func (.func 166) #[] #[.pointer (some ⟨w.heap.size + 1 + 1, 0, none⟩)], .int .i64 x.1, .string x.2, undef, undef, undef, undef, undef], defers := [] }) ?assign ?body ?done ?stop
  case assign =>
    intro l x W K hK
    gi_wp2
    exact hK
  case body =>
    rintro lp pre x W ⟨⟨hsz, S, e0, e1, e2, e3, e4, e5, e6, hS, hb3, hb4, hrow⟩, hB⟩ _
    have g0 := hb3.cell 0
    have g1 := hb3.cell 1
    have g2 := hb3.cell 2
    have g3 := hb3.cell 3
    have g4 := hb3.cell 4
    have g5 := hb3.cell 5
    have g6 := hb3.cell 6
    have f0 := hb3.frozen 0
    have f1 := hb3.frozen 1
    have f2 := hb3.frozen 2
    have f3 := hb3.frozen 3
    have f4 := hb3.frozen 4
    have f5 := hb3.frozen 5
    have f6 := hb3.frozen 6
    simp at g0 g1 g2 g3 g4 g5 g6
    gi_wp2_with (refine wpListIn_storeBlk _ rfl _ _ _ rfl rfl rfl (hb3.alloc _) (by kernel_rfl) rfl (by intro v hv; simp at hv; rcases hv with rfl | rfl | rfl | rfl | rfl | rfl | rfl <;> rfl) ?_; intro W1 k1 k2 k3 k4 k5 k6)
    rw [World.size_alloc] at k2
    have kh : ∀ k, k ≠ w.heap.size → k < W.heap.size → W1.heap[k]? = W.heap[k]? := fun k hk hlt => (k3 k hk).trans (Below.heap_alloc W _ k hlt)
    have kn : W1.heap[W.heap.size]? = some (.cells #[e0, e1, e2, e3, e4, e5, e6] 34 (0, 0)) := (k3 _ (by omega)).trans (heap_alloc_new W _)
    have kb : Below w.heap.size W W1 := ⟨k4, k5, k6, by omega, fun k hk => kh k (by omega) (by omega)⟩
    have hlt : ∀ b, S b → b < W.heap.size := fun b hb => by
      obtain ⟨_, cs, t, fr, h⟩ := hS b hb
      exact (Array.getElem?_eq_some_iff.1 h).1
    refine ⟨⟨by omega, fun k o _ hk ho => (kh k (by rintro rfl; rw [hb3] at hk; cases hk; cases ho) (Array.getElem?_eq_some_iff.1 hk).1).trans hk⟩, ⟨kb, World.cell?_heap (kh _ (by show w.heap.size + 1 + 1 ≠ w.heap.size; omega) (by show w.heap.size + 1 + 1 < _; omega))⟩,
      ⟨by omega, fun b => S b ∨ b = W.heap.size, _, _, _, _, _, _, _, fun b hb => ?_, k1, (kh _ (by omega) (by omega)).trans hb4, fun hpre => ?_⟩, hB.trans kb⟩
    · rcases hb with hb | rfl
      · obtain ⟨h1, cs, t, fr, h2⟩ := hS b hb
        exact ⟨h1, cs, t, fr, (kh b (by omega) (hlt b hb)).trans h2⟩
      · exact ⟨hsz, _, _, _, kn⟩
    · have hrow' := hrow fun p hp => hpre p (List.mem_append_left _ hp)
      have hx := hpre x (List.mem_append_right _ (List.mem_singleton.2 rfl))
      have kept : RepRow W1 (fun b => ok b ∨ S b ∨ b = W.heap.size) (cntF 9 t pre).row [e0, e1, e2, e3, e4, e5, e6] := ⟨hrow'.1, fun j d v hd hv => ((hrow'.2 j d v hd hv).keep fun p hp => World.cell?_heap (by
        rcases hp with hp | hp
        · have := hok _ hp
          exact kh _ (by omega) (by omega)
        · obtain ⟨h1, _⟩ := hS _ hp
          exact kh _ (by omega) (hlt _ hp))).weak fun b hb => hb.imp id .inl⟩
      rw [cntF_snoc]
      simp only [Tm.row, Tm.rows_eq, Cs.rows_eq, List.map_cons, List.map_nil]
      refine ⟨rfl, fun j d v hd hv => ?_⟩
      rcases j with _ | _ | _ | _ | _ | _ | _ | j <;> simp at hd hv <;> subst hd hv
      · exact .int _ (by omega) (by omega)
      · exact .int _ (by omega) (by omega)
      · exact .str _ hx
      · exact .str _ (by simp)
      · exact .empty none 0 (fun _ => rfl) (Nat.zero_le _)
      · exact Rep.of_block kn _ kept (.inr (.inr rfl))
      · exact .empty none 0 (fun _ => rfl) (Nat.zero_le _)
  case done =>
    rintro D ys W hD rfl ⟨⟨hsz, S, e0, e1, e2, e3, e4, e5, e6, hS, hb3, hb4, hrow⟩, hB⟩ hK
    have hrow := hrow fun p hp => by
      obtain ⟨j, _, rfl⟩ := List.mem_map.1 hp
      show (l[l.length - 1 - j]?.getD .empty).size ≤ maxLen
      rcases hg : l[l.length - 1 - j]? with _ | s
      · simp
      · exact hls s (List.mem_of_getElem? hg)
    have one : ∀ (j : Nat) (v : Value), [e0, e1, e2, e3, e4, e5, e6][j]? = some v → v.oneCell' = true := fun j v hv => by
      have hj : j < (cntF 9 t (backL l l.length)).row.length := by rw [hrow.1]; exact (List.getElem?_eq_some_iff.1 hv).1
      exact (hrow.2 j _ v (List.getElem?_eq_getElem hj) hv).oneCell
    have g0 := hb3.cell 0
    have g1 := hb3.cell 1
    have g2 := hb3.cell 2
    have g3 := hb3.cell 3
    have g4 := hb3.cell 4
    have g5 := hb3.cell 5
    have g6 := hb3.cell 6
    simp at g0 g1 g2 g3 g4 g5 g6
    gi_wp2_with (refine wpListIn_storeBlk _ rfl _ _ _ rfl rfl rfl hb4 (by rw [hz]; kernel_rfl) (by rw [hz]; rfl) (fun v hv => by obtain ⟨j, hj⟩ := List.mem_iff_getElem?.1 hv; exact one j v hj) ?_; intro W1 k1 k2 k3 k4 k5 k6)
    have hDn : D ≠ w.heap.size + 1 := by omega
    have hK' : W1.heap[D]? = some (.deferred (some [])) := (k3 D hDn).trans hK
    refine ⟨by simp, .inl ⟨_, _, rfl, run_takeDeferred hK', ?_⟩⟩
    have kd : ∀ k, k ≠ D → (W1.putObj D (.deferred none)).heap[k]? = W1.heap[k]? := fun k hk => World.putObj_heap_other hk
    have k1' : Blk (W1.putObj D (.deferred none)) (w.heap.size + 1) 34 #[e0, e1, e2, e3, e4, e5, e6] := (kd _ (Ne.symm hDn)).trans k1
    have q0 := k1'.cell 0
    have q1 := k1'.cell 1
    have q2 := k1'.cell 2
    have q3 := k1'.cell 3
    have q4 := k1'.cell 4
    have q5 := k1'.cell 5
    have q6 := k1'.cell 6
    simp at q0 q1 q2 q3 q4 q5 q6
    refine ⟨_, by simp [results, Tryd.f84, go_sem, q0, q1, q2, q3, q4, q5, q6], S, e0, e1, e2, e3, e4, e5, e6, rfl, ?_, fun b hb => ?_, ?_⟩
    · exact hB.trans ⟨k4, k5, k6, by rw [World.putObj_size, k2]; exact Nat.le_refl _, fun k hk => (kd k (by omega)).trans (k3 k (by omega))⟩
    · obtain ⟨h1, cs, t, fr, h2⟩ := hS b hb
      exact ⟨by omega, by rw [World.putObj_size, k2]; exact (Array.getElem?_eq_some_iff.1 h2).1⟩
    · rw [← cntF_all]
      refine ⟨hrow.1, fun j d v hd hv => (hrow.2 j d v hd hv).keep fun p hp => World.cell?_heap ?_⟩
      rcases hp with hp | hp
      · have := hok _ hp
        exact (kd _ (by omega)).trans (k3 _ (by omega))
      · obtain ⟨h1, cs, t, fr, h2⟩ := hS _ hp
        exact (kd _ (by rintro e; rw [e, hK] at h2; cases h2)).trans (k3 _ (by omega))
  case stop =>
    rintro D c pre W _ _ h _
    exact h.elim
theorem sp_drops (l : List ByteArray) (t : Tm) (hl : l.length ≤ 8796093022207) (hls : ∀ s ∈ l, s.size ≤ maxLen) : PSpec Tryd.prog 84 [strsAV l, tmAV t] (fun _ => tmAV (cnt 9 l t)) none := by
  have hcl : ∀ t : Tm, (tmAV t).has (fun _ => true) = false := fun t => by obtain ⟨k, n, a, b, vs, xs, cs⟩ := t; rfl
  have hcl2 : ∀ (t : Tm) (q : Nat → Bool), (tmAV t).has q = false := fun t q => by obtain ⟨k, n, a, b, vs, xs, cs⟩ := t; rfl
  refine ⟨⟨_, Tryd.func84, rfl, rfl⟩, fun d => hcl2 _ _, fun _ d => hcl _, by simp, fun d w ok vals hgi hok hlen hv => ?_⟩
  match vals, hlen with
  | ⟨[v0, v1]⟩, _ =>
  have h0 : Rep w ok (strsD l) v0 := (hv 0 _ v0 rfl rfl).d_inv
  have h1 := hv 1 _ v1 rfl rfl
  obtain ⟨c0, c1, c2, c3, c4, c5, c6, rfl, hr⟩ := tm_cells h1
  have hs := strs_of_rep h0 hok
  obtain ⟨a, cap, rfl⟩ : ∃ a cap, v0 = .slice a l.length cap := by
    rcases hs with ⟨a, cc, rfl, rfl⟩ | ⟨b, o, cc, rfl, _⟩
    · exact ⟨_, _, rfl⟩
    · exact ⟨_, _, rfl⟩
  refine ((callsIn_wide (n := 3)).1 (drops_in Fence.wide 3 (fun _ => trivial) rfl (by omega) l hl hls t w ok hok a l.length cap hs c0 c1 c2 c3 c4 c5 c6 hr)).mono ?_
  rintro e w' ⟨S, d0, d1, d2, d3, d4, d5, d6, rfl, hB, hS, hrow⟩
  exact ⟨_, fun b => ok b ∨ S b, noG, rfl, hB, fun b h => .inl h, fun b h => h.imp id fun h => hS b h, tm_of_cells hrow, by simp⟩
set_option maxRecDepth 100000 in
set_option maxHeartbeats 4000000 in
theorem dups_in (F : Fence) (n : Nat) (hfn : ∀ f, F.fn f) (hro : F.round = none) (hn : 3 ≤ n) (l : List ByteArray) (hl : l.length ≤ 8796093022207) (hls : ∀ s ∈ l, s.size ≤ maxLen) (t : Tm) (w : World) (ok : Nat → Prop) (hok : ∀ b, ok b → b < w.heap.size) (a : Option Addr) (len cap : Nat) (hs : Strs w.heap.size w (.slice a len cap) l)
    (c0 c1 c2 c3 c4 c5 c6 : Value) (hr : RepRow w ok t.row [c0, c1, c2, c3, c4, c5, c6]) :
    CallsIn F n Tryd.prog 80 #[.slice a len cap, .agg #[c0, c1, c2, c3, c4, c5, c6]] w fun e W' => ∃ (S : Nat → Prop) (d0 d1 d2 d3 d4 d5 d6 : Value), e = .returned (.agg #[d0, d1, d2, d3, d4, d5, d6]) ∧ Below w.heap.size w W' ∧ (∀ b, S b → w.heap.size ≤ b ∧ b < W'.heap.size) ∧
      RepRow W' (fun b => ok b ∨ S b) (cnt 8 l t).row [d0, d1, d2, d3, d4, d5, d6] := by
  have h1 : 1 ≤ n := by omega
  refine callsIn_of_wp_marks Tryd.func80 rfl (hfn _) ?_ hro
  simp only [Tryd.ntmps80, List.size_toArray, List.length_cons, List.length_nil, Nat.reduceAdd, Nat.reduceSub, Array.replicate_succ, Array.replicate_zero, List.push_toArray, List.append_toArray, List.nil_append, List.cons_append]
  gi_wp2_with (gi_at_call 126; refine (back_in F (n - 1) (hfn _) hro _ _ _ _).mono ?_; rintro e w' ⟨rfl, rfl⟩)
  obtain ⟨z, hz⟩ : ∃ z : Array Value, z = #[.int .i64 0, .int .i64 0, .string ⟨#[]⟩, .string ⟨#[]⟩, .slice none 0 0, .slice none 0 0, .slice none 0 0] := ⟨_, rfl⟩
  rw [← hz]
  have b3 := Blk.new w 34 #[c0, c1, c2, c3, c4, c5, c6]
  have b4 := Blk.new (w.alloc (.cells #[c0, c1, c2, c3, c4, c5, c6] 34)) 34 z
  have b5 := Blk.new ((w.alloc (.cells #[c0, c1, c2, c3, c4, c5, c6] 34)).alloc (.cells z 34)) 30 #[.slice a len cap]
  have hB0 : Below w.heap.size w (((w.alloc (.cells #[c0, c1, c2, c3, c4, c5, c6] 34)).alloc (.cells z 34)).alloc (.cells #[.slice a len cap] 30)) := (((Below.refl _ w).alloc (Nat.le_refl _) _).alloc (by simp) _).alloc (by simp; omega) _
  have b3' := (b3.alloc (.cells z 34)).alloc (.cells #[.slice a len cap] 30)
  have b4' := b4.alloc (.cells #[.slice a len cap] 30)
  simp only [World.size_alloc] at b4 b5 b4'
  obtain ⟨W0, hW0⟩ : ∃ W0, ((w.alloc (.cells #[c0, c1, c2, c3, c4, c5, c6] 34)).alloc (.cells z 34)).alloc (.cells #[.slice a len cap] 30) = W0 := ⟨_, rfl⟩
  have hsz0 : W0.heap.size = w.heap.size + 3 := by rw [← hW0]; simp
  rw [hW0] at b3' b4' b5 hB0 ⊢
  refine wpIn_rangeFunc_ownG hro h1 (gf := 166) (lb := #[.pointer (some ⟨w.heap.size + 1 + 1, 0, none⟩)]) rfl (hfn _) (enters_of Tryd.func166 (by kernel_rfl) rfl)
    (back_stops F (n - 1) (hfn _) hro (by omega) (w.heap.size + 1 + 1) w.heap.size _ l hl W0 (by omega) (by omega) (b5.cell 0) (hs.below hB0)) (fun h k => KpB.trans h k)
    (fun W lp o o' hle h2 h3 h4 => ⟨belowK_b (w := W0) (by omega) W lp o o' hle h2 h3 h4, World.cell?_heap (World.putObj_heap_other (by show w.heap.size + 1 + 1 ≠ lp; omega))⟩) (Below.refl _ _) (fun _ => rfl)
    (fun pre W => BInv 8 t ok w.heap.size z pre W ∧ Below w.heap.size w W) (fun _ _ _ => False)
    (OwnFrom.and (BInv.own 8 t ok _ _ z (by omega) hok) (ownFrom_below (Nat.le_refl _) (by omega)))
    (fun _ _ _ _ _ hs _ _ => hs)
    ⟨⟨by omega, fun _ => False, c0, c1, c2, c3, c4, c5, c6, fun _ h => h.elim, b3', b4', fun _ => ⟨hr.1, fun j d v hd hv => ((hr.2 j d v hd hv).keep fun p hp => World.cell?_heap (hB0.block p.block (hok _ hp))).weak fun b hb => .inl hb⟩⟩, hB0⟩
    (fun x => { tmps := #[.slice a len cap, .agg #[c0, c1, c2, c3, c4, c5, c6], undef, .pointer (some ⟨w.heap.size, 0, none⟩), .pointer (some ⟨w.heap.size + 1, 0, none⟩), undef, .string x.2, .slice a len cap, .func (.func 166) #[] #[.pointer (some ⟨w.heap.size + 1 + 1, 0, none⟩)], .int .i64 x.1, .string x.2, undef, undef, undef, undef, undef], defers := [] }) ?assign ?body ?done ?stop
  case assign =>
    intro l x W K hK
    gi_wp2
    exact hK
  case body =>
    rintro lp pre x W ⟨⟨hsz, S, e0, e1, e2, e3, e4, e5, e6, hS, hb3, hb4, hrow⟩, hB⟩ _
    have g0 := hb3.cell 0
    have g1 := hb3.cell 1
    have g2 := hb3.cell 2
    have g3 := hb3.cell 3
    have g4 := hb3.cell 4
    have g5 := hb3.cell 5
    have g6 := hb3.cell 6
    have f0 := hb3.frozen 0
    have f1 := hb3.frozen 1
    have f2 := hb3.frozen 2
    have f3 := hb3.frozen 3
    have f4 := hb3.frozen 4
    have f5 := hb3.frozen 5
    have f6 := hb3.frozen 6
    simp at g0 g1 g2 g3 g4 g5 g6
    gi_wp2_with (refine wpListIn_storeBlk _ rfl _ _ _ rfl rfl rfl (hb3.alloc _) (by kernel_rfl) rfl (by intro v hv; simp at hv; rcases hv with rfl | rfl | rfl | rfl | rfl | rfl | rfl <;> rfl) ?_; intro W1 k1 k2 k3 k4 k5 k6)
    rw [World.size_alloc] at k2
    have kh : ∀ k, k ≠ w.heap.size → k < W.heap.size → W1.heap[k]? = W.heap[k]? := fun k hk hlt => (k3 k hk).trans (Below.heap_alloc W _ k hlt)
    have kn : W1.heap[W.heap.size]? = some (.cells #[e0, e1, e2, e3, e4, e5, e6] 34 (0, 0)) := (k3 _ (by omega)).trans (heap_alloc_new W _)
    have kb : Below w.heap.size W W1 := ⟨k4, k5, k6, by omega, fun k hk => kh k (by omega) (by omega)⟩
    have hlt : ∀ b, S b → b < W.heap.size := fun b hb => by
      obtain ⟨_, cs, t, fr, h⟩ := hS b hb
      exact (Array.getElem?_eq_some_iff.1 h).1
    refine ⟨⟨by omega, fun k o _ hk ho => (kh k (by rintro rfl; rw [hb3] at hk; cases hk; cases ho) (Array.getElem?_eq_some_iff.1 hk).1).trans hk⟩, ⟨kb, World.cell?_heap (kh _ (by show w.heap.size + 1 + 1 ≠ w.heap.size; omega) (by show w.heap.size + 1 + 1 < _; omega))⟩,
      ⟨by omega, fun b => S b ∨ b = W.heap.size, _, _, _, _, _, _, _, fun b hb => ?_, k1, (kh _ (by omega) (by omega)).trans hb4, fun hpre => ?_⟩, hB.trans kb⟩
    · rcases hb with hb | rfl
      · obtain ⟨h1, cs, t, fr, h2⟩ := hS b hb
        exact ⟨h1, cs, t, fr, (kh b (by omega) (hlt b hb)).trans h2⟩
      · exact ⟨hsz, _, _, _, kn⟩
    · have hrow' := hrow fun p hp => hpre p (List.mem_append_left _ hp)
      have hx := hpre x (List.mem_append_right _ (List.mem_singleton.2 rfl))
      have kept : RepRow W1 (fun b => ok b ∨ S b ∨ b = W.heap.size) (cntF 8 t pre).row [e0, e1, e2, e3, e4, e5, e6] := ⟨hrow'.1, fun j d v hd hv => ((hrow'.2 j d v hd hv).keep fun p hp => World.cell?_heap (by
        rcases hp with hp | hp
        · have := hok _ hp
          exact kh _ (by omega) (by omega)
        · obtain ⟨h1, _⟩ := hS _ hp
          exact kh _ (by omega) (hlt _ hp))).weak fun b hb => hb.imp id .inl⟩
      rw [cntF_snoc]
      simp only [Tm.row, Tm.rows_eq, Cs.rows_eq, List.map_cons, List.map_nil]
      refine ⟨rfl, fun j d v hd hv => ?_⟩
      rcases j with _ | _ | _ | _ | _ | _ | _ | j <;> simp at hd hv <;> subst hd hv
      · exact .int _ (by omega) (by omega)
      · exact .int _ (by omega) (by omega)
      · exact .str _ hx
      · exact .str _ (by simp)
      · exact .empty none 0 (fun _ => rfl) (Nat.zero_le _)
      · exact Rep.of_block kn _ kept (.inr (.inr rfl))
      · exact .empty none 0 (fun _ => rfl) (Nat.zero_le _)
  case done =>
    rintro D ys W hD rfl ⟨⟨hsz, S, e0, e1, e2, e3, e4, e5, e6, hS, hb3, hb4, hrow⟩, hB⟩ hK
    have hrow := hrow fun p hp => by
      obtain ⟨j, _, rfl⟩ := List.mem_map.1 hp
      show (l[l.length - 1 - j]?.getD .empty).size ≤ maxLen
      rcases hg : l[l.length - 1 - j]? with _ | s
      · simp
      · exact hls s (List.mem_of_getElem? hg)
    have one : ∀ (j : Nat) (v : Value), [e0, e1, e2, e3, e4, e5, e6][j]? = some v → v.oneCell' = true := fun j v hv => by
      have hj : j < (cntF 8 t (backL l l.length)).row.length := by rw [hrow.1]; exact (List.getElem?_eq_some_iff.1 hv).1
      exact (hrow.2 j _ v (List.getElem?_eq_getElem hj) hv).oneCell
    have g0 := hb3.cell 0
    have g1 := hb3.cell 1
    have g2 := hb3.cell 2
    have g3 := hb3.cell 3
    have g4 := hb3.cell 4
    have g5 := hb3.cell 5
    have g6 := hb3.cell 6
    simp at g0 g1 g2 g3 g4 g5 g6
    gi_wp2_with (refine wpListIn_storeBlk _ rfl _ _ _ rfl rfl rfl hb4 (by rw [hz]; kernel_rfl) (by rw [hz]; rfl) (fun v hv => by obtain ⟨j, hj⟩ := List.mem_iff_getElem?.1 hv; exact one j v hj) ?_; intro W1 k1 k2 k3 k4 k5 k6)
    have hDn : D ≠ w.heap.size + 1 := by omega
    have hK' : W1.heap[D]? = some (.deferred (some [])) := (k3 D hDn).trans hK
    refine ⟨by simp, .inl ⟨_, _, rfl, run_takeDeferred hK', ?_⟩⟩
    have kd : ∀ k, k ≠ D → (W1.putObj D (.deferred none)).heap[k]? = W1.heap[k]? := fun k hk => World.putObj_heap_other hk
    have k1' : Blk (W1.putObj D (.deferred none)) (w.heap.size + 1) 34 #[e0, e1, e2, e3, e4, e5, e6] := (kd _ (Ne.symm hDn)).trans k1
    have q0 := k1'.cell 0
    have q1 := k1'.cell 1
    have q2 := k1'.cell 2
    have q3 := k1'.cell 3
    have q4 := k1'.cell 4
    have q5 := k1'.cell 5
    have q6 := k1'.cell 6
    simp at q0 q1 q2 q3 q4 q5 q6
    refine ⟨_, by simp [results, Tryd.f80, go_sem, q0, q1, q2, q3, q4, q5, q6], S, e0, e1, e2, e3, e4, e5, e6, rfl, ?_, fun b hb => ?_, ?_⟩
    · exact hB.trans ⟨k4, k5, k6, by rw [World.putObj_size, k2]; exact Nat.le_refl _, fun k hk => (kd k (by omega)).trans (k3 k (by omega))⟩
    · obtain ⟨h1, cs, t, fr, h2⟩ := hS b hb
      exact ⟨by omega, by rw [World.putObj_size, k2]; exact (Array.getElem?_eq_some_iff.1 h2).1⟩
    · rw [← cntF_all]
      refine ⟨hrow.1, fun j d v hd hv => (hrow.2 j d v hd hv).keep fun p hp => World.cell?_heap ?_⟩
      rcases hp with hp | hp
      · have := hok _ hp
        exact (kd _ (by omega)).trans (k3 _ (by omega))
      · obtain ⟨h1, cs, t, fr, h2⟩ := hS _ hp
        exact (kd _ (by rintro e; rw [e, hK] at h2; cases h2)).trans (k3 _ (by omega))
  case stop =>
    rintro D c pre W _ _ h _
    exact h.elim
theorem sp_dups (l : List ByteArray) (t : Tm) (hl : l.length ≤ 8796093022207) (hls : ∀ s ∈ l, s.size ≤ maxLen) : PSpec Tryd.prog 80 [strsAV l, tmAV t] (fun _ => tmAV (cnt 8 l t)) none := by
  have hcl : ∀ t : Tm, (tmAV t).has (fun _ => true) = false := fun t => by obtain ⟨k, n, a, b, vs, xs, cs⟩ := t; rfl
  have hcl2 : ∀ (t : Tm) (q : Nat → Bool), (tmAV t).has q = false := fun t q => by obtain ⟨k, n, a, b, vs, xs, cs⟩ := t; rfl
  refine ⟨⟨_, Tryd.func80, rfl, rfl⟩, fun d => hcl2 _ _, fun _ d => hcl _, by simp, fun d w ok vals hgi hok hlen hv => ?_⟩
  match vals, hlen with
  | ⟨[v0, v1]⟩, _ =>
  have h0 : Rep w ok (strsD l) v0 := (hv 0 _ v0 rfl rfl).d_inv
  have h1 := hv 1 _ v1 rfl rfl
  obtain ⟨c0, c1, c2, c3, c4, c5, c6, rfl, hr⟩ := tm_cells h1
  have hs := strs_of_rep h0 hok
  obtain ⟨a, cap, rfl⟩ : ∃ a cap, v0 = .slice a l.length cap := by
    rcases hs with ⟨a, cc, rfl, rfl⟩ | ⟨b, o, cc, rfl, _⟩
    · exact ⟨_, _, rfl⟩
    · exact ⟨_, _, rfl⟩
  refine ((callsIn_wide (n := 3)).1 (dups_in Fence.wide 3 (fun _ => trivial) rfl (by omega) l hl hls t w ok hok a l.length cap hs c0 c1 c2 c3 c4 c5 c6 hr)).mono ?_
  rintro e w' ⟨S, d0, d1, d2, d3, d4, d5, d6, rfl, hB, hS, hrow⟩
  exact ⟨_, fun b => ok b ∨ S b, noG, rfl, hB, fun b h => .inl h, fun b h => h.imp id fun h => hS b h, tm_of_cells hrow, by simp⟩
end Go.Proofs.YtapiiklnnkkdlaaDoor

namespace Go.Proofs.YtapiiklnnkkdlaaDoor
open Go.RowKit
set_option linter.unusedVariables false
set_option linter.unusedSimpArgs false
def inN (l o : List ByteArray) : List ByteArray := l.filter fun s => hasB o s
theorem inN_len (l o : List ByteArray) : (inN l o).length ≤ l.length := List.length_filter_le _ _
theorem inN_snoc {l : List ByteArray} (o : List ByteArray) {i : Nat} {x : ByteArray} (hx : l[i]? = some x) : inN (l.take (i + 1)) o = if hasB o x then inN (l.take i) o ++ [x] else inN (l.take i) o := by
  unfold inN
  rw [List.take_add_one, hx, List.filter_append]
  cases hq : hasB o x <;> simp [List.filter, hq]
def Tm.nm : Tm → ByteArray
  | .mk _ _ a _ _ _ _ => a
def moreN (had : List ByteArray) : List Tm → List ByteArray
  | [] => []
  | x :: r => if hasB had x.nm then x.nm :: moreN (had ++ [x.nm]) r else moreN (had ++ [x.nm]) r
theorem moreN_len : ∀ (l : List Tm) (had : List ByteArray), (moreN had l).length ≤ l.length
  | [], _ => Nat.le_refl _
  | x :: r, had => by
    have := moreN_len r (had ++ [x.nm])
    rw [moreN]
    split <;> simp <;> omega
def letH (a : ByteArray) (own : List ByteArray) : List Tm → List (List ByteArray)
  | [x, y] => [inN own x.free, inN own (woN y.free [a]) ++ [a]]
  | _ => []
def letD (a : ByteArray) (own : List ByteArray) : List Tm → List ByteArray
  | [x, y] => inN (inN own x.free) (woN y.free [a])
  | _ => []
def nmH : List Tm → ByteArray
  | x :: _ => x.nm
  | [] => .empty
mutual
def Tm.ow : Tm → List ByteArray → Tm
  | .mk k n a b vs xs cs, has => cnt 9 (woN has (Tm.mk k n a b vs xs cs).free) (
      if k = 3 ∨ k = 4 ∨ k = 5 then cnt 8 (moreN [] xs) (.mk k n a b vs xs cs)
      else if k = 6 then cnt 8 (letD a (inN has (Tm.mk k n a b vs xs cs).free) xs) (.mk 6 0 a .empty [] (Tm.owZ xs (letH a (inN has (Tm.mk k n a b vs xs cs).free) xs)) [])
      else if k = 7 then .mk 7 0 .empty .empty [] xs (Cs.owL cs (inN has (Tm.mk k n a b vs xs cs).free) (nmH xs))
      else .mk k n a b vs xs cs)
def Tm.owZ : List Tm → List (List ByteArray) → List Tm
  | [], _ => []
  | x :: r, hs => x.ow (hs.headD []) :: Tm.owZ r hs.tail
def Cs.owL : List Cs → List ByteArray → ByteArray → List Cs
  | [], _, _ => []
  | c :: r, own, nm => c.ow own nm :: Cs.owL r own nm
def Cs.ow : Cs → List ByteArray → ByteArray → Cs
  | .mk t ws y, own, nm => .mk t ws (cnt 8 (inN ws y.free) (cnt 9 (if hasB y.free nm then [] else [nm]) (y.ow (if hasB y.free nm then own ++ inN ws y.free else woN (own ++ inN ws y.free) [nm]))))
end
theorem Cs.owL_snoc {l : List Cs} {i : Nat} {x : Cs} (hx : l[i]? = some x) (own : List ByteArray) (nm : ByteArray) : Cs.owL (l.take (i + 1)) own nm = Cs.owL (l.take i) own nm ++ [x.ow own nm] := by
  have : ∀ l : List Cs, Cs.owL l own nm = l.map fun c => c.ow own nm := fun l => by
    induction l with
    | nil => rfl
    | cons c r ih => rw [Cs.owL, ih]; rfl
  rw [this, this, List.take_add_one, hx, List.map_append]
  rfl
theorem Cs.owL_len (own : List ByteArray) (nm : ByteArray) : ∀ l : List Cs, (Cs.owL l own nm).length = l.length
  | [] => rfl
  | c :: r => by rw [Cs.owL, List.length_cons, Cs.owL_len own nm r, List.length_cons]
def Fn.ow (f : Fn) : Fn := ⟨f.name, f.params, f.body.ow f.params⟩
end Go.Proofs.YtapiiklnnkkdlaaDoor

namespace Go.Proofs
open Go.Shelf
def Tryd.laysM171_ren : Go.Shelf.Ren := ⟨fun | 171 => 97 | 243 => 142 | 246 => 168 | 283 => 173 | 284 => 174 | 285 => 175 | 286 => 176 | 129 => 183 | 317 => 182 | 318 => 184 | 319 => 185 | 320 => 186 | 337 => 190 | 338 => 191 | n => n, fun | 3 => 3 | 9 => 9 | 2 => 2 | 4 => 4 | 171 => 177 | 0 => 0 | 53 => 178 | 37 => 181 | 5 => 5 | 173 => 182 | 212 => 192 | 51 => 193 | 20 => 20 | 213 => 194 | 46 => 196 | 232 => 209 | 233 => 210 | n => n, fun | 17 => 0 | 18 => 3 | 19 => 4 | n => n⟩
theorem Tryd.laysM171 : Go.Proofs.LaysM.n171 Tryd.prog Tryd.laysM171_ren := {
  mixed := by kernel_rfl
  f129 := Tryd.func183.trans (congrArg some (by kernel_rfl))
  f171 := Tryd.func97.trans (congrArg some (by kernel_rfl))
  f243 := Tryd.func142.trans (congrArg some (by kernel_rfl))
  f246 := Tryd.func168.trans (congrArg some (by kernel_rfl))
  f283 := Tryd.func173.trans (congrArg some (by kernel_rfl))
  f284 := Tryd.func174.trans (congrArg some (by kernel_rfl))
  f285 := Tryd.func175.trans (congrArg some (by kernel_rfl))
  f286 := Tryd.func176.trans (congrArg some (by kernel_rfl))
  f317 := Tryd.func182.trans (congrArg some (by kernel_rfl))
  f318 := Tryd.func184.trans (congrArg some (by kernel_rfl))
  f319 := Tryd.func185.trans (congrArg some (by kernel_rfl))
  f320 := Tryd.func186.trans (congrArg some (by kernel_rfl))
  f337 := Tryd.func190.trans (congrArg some (by kernel_rfl))
  f338 := Tryd.func191.trans (congrArg some (by kernel_rfl))
  t0 := Tryd.underlying0
  a0 := Tryd.isAgg0
  z0 := Tryd.sizeOf0
  v0 := Tryd.zeroValue0
  t2 := Tryd.underlying2
  a2 := Tryd.isAgg2
  z2 := Tryd.sizeOf2
  v2 := Tryd.zeroValue2
  t3 := Tryd.underlying3
  a3 := Tryd.isAgg3
  z3 := Tryd.sizeOf3
  v3 := Tryd.zeroValue3
  t4 := Tryd.underlying4
  a4 := Tryd.isAgg4
  z4 := Tryd.sizeOf4
  v4 := Tryd.zeroValue4
  t5 := Tryd.underlying5
  a5 := Tryd.isAgg5
  z5 := Tryd.sizeOf5
  v5 := Tryd.zeroValue5
  t9 := Tryd.underlying9
  a9 := Tryd.isAgg9
  z9 := Tryd.sizeOf9
  v9 := Tryd.zeroValue9
  t20 := Tryd.underlying20
  a20 := Tryd.isAgg20
  z20 := Tryd.sizeOf20
  v20 := Tryd.zeroValue20
  t37 := Tryd.underlying181
  a37 := Tryd.isAgg181
  z37 := Tryd.sizeOf181
  v37 := Tryd.zeroValue181
  t46 := Tryd.underlying196
  a46 := Tryd.isAgg196
  z46 := Tryd.sizeOf196
  v46 := Tryd.zeroValue196
  t51 := Tryd.underlying193
  a51 := Tryd.isAgg193
  z51 := Tryd.sizeOf193
  v51 := Tryd.zeroValue193
  t53 := Tryd.underlying178
  a53 := Tryd.isAgg178
  z53 := Tryd.sizeOf178
  v53 := Tryd.zeroValue178
  t171 := Tryd.underlying177
  a171 := Tryd.isAgg177
  z171 := Tryd.sizeOf177
  v171 := Tryd.zeroValue177
  t173 := Tryd.underlying182
  a173 := Tryd.isAgg182
  z173 := Tryd.sizeOf182
  v173 := Tryd.zeroValue182
  t212 := Tryd.underlying192
  a212 := Tryd.isAgg192
  z212 := Tryd.sizeOf192
  v212 := Tryd.zeroValue192
  t213 := Tryd.underlying194
  a213 := Tryd.isAgg194
  z213 := Tryd.sizeOf194
  t232 := Tryd.underlying209
  a232 := Tryd.isAgg209
  z232 := Tryd.sizeOf209
  v232 := Tryd.zeroValue209
  t233 := Tryd.underlying210
  a233 := Tryd.isAgg210
  z233 := Tryd.sizeOf210
  v233 := Tryd.zeroValue210
  g17 := by kernel_rfl
  g18 := by kernel_rfl
  g19 := by kernel_rfl
  i0 := by kernel_rfl
  i2 := by kernel_rfl
  i3 := by kernel_rfl
  i4 := by kernel_rfl
  i5 := by kernel_rfl
  i9 := by kernel_rfl
  i20 := by kernel_rfl
  i37 := by kernel_rfl
  i46 := by kernel_rfl
  i51 := by kernel_rfl
  i53 := by kernel_rfl
  i171 := by kernel_rfl
  i173 := by kernel_rfl
  i212 := by kernel_rfl
  i232 := by kernel_rfl
  i233 := by kernel_rfl
  m17 := by kernel_rfl
  m18 := by kernel_rfl
  m19 := by kernel_rfl }
open Go.RowKit Go.Sort Go.Lib in
theorem Tryd.strconv_Itoa (n : Int) (h0 : -9223372036854775808 ≤ n) (h1 : n ≤ 9223372036854775807) (w : World) (htab : Lib.TabIs Tryd.prog w "internal/strconv.uint64pow10" .u64 Lib.pow10Tab) :
    Calls Tryd.prog 97 #[.int .i64 n] w fun e w' => e = .returned (.string ⟨(Lib.itoa n).toArray⟩) ∧ ∃ k os, w' = grow (w.drewN k) os := Any.strconv_Itoa Tryd.laysM171 n h0 h1 w htab
def Tryd.laysC172_ren : Go.Shelf.Ren := ⟨fun | 172 => 167 | 244 => 171 | 245 => 172 | 247 => 177 | 279 => 178 | 280 => 179 | 281 => 180 | 282 => 181 | 287 => 187 | 316 => 188 | 171 => 97 | 205 => 189 | 321 => 192 | 322 => 193 | 243 => 142 | 246 => 168 | 283 => 173 | 284 => 174 | 285 => 175 | 286 => 176 | 129 => 183 | 317 => 182 | 318 => 184 | 319 => 185 | 320 => 186 | 337 => 190 | 338 => 191 | n => n, fun | 9 => 9 | 3 => 3 | 75 => 172 | 76 => 173 | 4 => 4 | 5 => 5 | 167 => 184 | 37 => 181 | 0 => 0 | 85 => 185 | 2 => 2 | 168 => 187 | 53 => 178 | 175 => 198 | 46 => 196 | 210 => 201 | 127 => 205 | 145 => 208 | 143 => 206 | 21 => 21 | 171 => 177 | 173 => 182 | 212 => 192 | 51 => 193 | 20 => 20 | 213 => 194 | 232 => 209 | 233 => 210 | 80 => 97 | n => n, fun | 15 => 1 | 16 => 2 | 17 => 0 | 18 => 3 | 19 => 4 | n => n⟩
theorem Tryd.laysC172 : Go.Proofs.LaysC.n172 Tryd.prog Tryd.laysC172_ren := {
  mixed := by kernel_rfl
  f129 := Tryd.func183.trans (congrArg some (by kernel_rfl))
  f171 := Tryd.func97.trans (congrArg some (by kernel_rfl))
  f172 := Tryd.func167.trans (congrArg some (by kernel_rfl))
  f205 := Tryd.func189.trans (congrArg some (by kernel_rfl))
  f243 := Tryd.func142.trans (congrArg some (by kernel_rfl))
  f244 := Tryd.func171.trans (congrArg some (by kernel_rfl))
  f245 := Tryd.func172.trans (congrArg some (by kernel_rfl))
  f246 := Tryd.func168.trans (congrArg some (by kernel_rfl))
  f247 := Tryd.func177.trans (congrArg some (by kernel_rfl))
  f279 := Tryd.func178.trans (congrArg some (by kernel_rfl))
  f280 := Tryd.func179.trans (congrArg some (by kernel_rfl))
  f281 := Tryd.func180.trans (congrArg some (by kernel_rfl))
  f282 := Tryd.func181.trans (congrArg some (by kernel_rfl))
  f283 := Tryd.func173.trans (congrArg some (by kernel_rfl))
  f284 := Tryd.func174.trans (congrArg some (by kernel_rfl))
  f285 := Tryd.func175.trans (congrArg some (by kernel_rfl))
  f286 := Tryd.func176.trans (congrArg some (by kernel_rfl))
  f287 := Tryd.func187.trans (congrArg some (by kernel_rfl))
  f316 := Tryd.func188.trans (congrArg some (by kernel_rfl))
  f317 := Tryd.func182.trans (congrArg some (by kernel_rfl))
  f318 := Tryd.func184.trans (congrArg some (by kernel_rfl))
  f319 := Tryd.func185.trans (congrArg some (by kernel_rfl))
  f320 := Tryd.func186.trans (congrArg some (by kernel_rfl))
  f321 := Tryd.func192.trans (congrArg some (by kernel_rfl))
  f322 := Tryd.func193.trans (congrArg some (by kernel_rfl))
  f337 := Tryd.func190.trans (congrArg some (by kernel_rfl))
  f338 := Tryd.func191.trans (congrArg some (by kernel_rfl))
  t0 := Tryd.underlying0
  a0 := Tryd.isAgg0
  z0 := Tryd.sizeOf0
  v0 := Tryd.zeroValue0
  t2 := Tryd.underlying2
  a2 := Tryd.isAgg2
  z2 := Tryd.sizeOf2
  v2 := Tryd.zeroValue2
  t3 := Tryd.underlying3
  a3 := Tryd.isAgg3
  z3 := Tryd.sizeOf3
  v3 := Tryd.zeroValue3
  t4 := Tryd.underlying4
  a4 := Tryd.isAgg4
  z4 := Tryd.sizeOf4
  v4 := Tryd.zeroValue4
  t5 := Tryd.underlying5
  a5 := Tryd.isAgg5
  z5 := Tryd.sizeOf5
  v5 := Tryd.zeroValue5
  t9 := Tryd.underlying9
  a9 := Tryd.isAgg9
  z9 := Tryd.sizeOf9
  v9 := Tryd.zeroValue9
  t20 := Tryd.underlying20
  a20 := Tryd.isAgg20
  z20 := Tryd.sizeOf20
  v20 := Tryd.zeroValue20
  t21 := Tryd.underlying21
  a21 := Tryd.isAgg21
  z21 := Tryd.sizeOf21
  v21 := Tryd.zeroValue21
  t37 := Tryd.underlying181
  a37 := Tryd.isAgg181
  z37 := Tryd.sizeOf181
  v37 := Tryd.zeroValue181
  t46 := Tryd.underlying196
  a46 := Tryd.isAgg196
  z46 := Tryd.sizeOf196
  v46 := Tryd.zeroValue196
  t51 := Tryd.underlying193
  a51 := Tryd.isAgg193
  z51 := Tryd.sizeOf193
  v51 := Tryd.zeroValue193
  t53 := Tryd.underlying178
  a53 := Tryd.isAgg178
  z53 := Tryd.sizeOf178
  v53 := Tryd.zeroValue178
  t75 := Tryd.underlying172
  a75 := Tryd.isAgg172
  z75 := Tryd.sizeOf172
  v75 := Tryd.zeroValue172
  t76 := Tryd.underlying173
  a76 := Tryd.isAgg173
  z76 := Tryd.sizeOf173
  v76 := Tryd.zeroValue173
  t85 := Tryd.underlying185
  a85 := Tryd.isAgg185
  z85 := Tryd.sizeOf185
  v85 := Tryd.zeroValue185
  t127 := Tryd.underlying205
  a127 := Tryd.isAgg205
  z127 := Tryd.sizeOf205
  v127 := Tryd.zeroValue205
  t143 := Tryd.underlying206
  a143 := Tryd.isAgg206
  z143 := Tryd.sizeOf206
  v143 := Tryd.zeroValue206
  t145 := Tryd.underlying208
  a145 := Tryd.isAgg208
  z145 := Tryd.sizeOf208
  v145 := Tryd.zeroValue208
  t167 := Tryd.underlying184
  a167 := Tryd.isAgg184
  z167 := Tryd.sizeOf184
  v167 := Tryd.zeroValue184
  t168 := Tryd.underlying187
  a168 := Tryd.isAgg187
  z168 := Tryd.sizeOf187
  v168 := Tryd.zeroValue187
  t171 := Tryd.underlying177
  a171 := Tryd.isAgg177
  z171 := Tryd.sizeOf177
  v171 := Tryd.zeroValue177
  t173 := Tryd.underlying182
  a173 := Tryd.isAgg182
  z173 := Tryd.sizeOf182
  v173 := Tryd.zeroValue182
  t175 := Tryd.underlying198
  a175 := Tryd.isAgg198
  z175 := Tryd.sizeOf198
  v175 := Tryd.zeroValue198
  t210 := Tryd.underlying201
  a210 := Tryd.isAgg201
  z210 := Tryd.sizeOf201
  v210 := Tryd.zeroValue201
  t212 := Tryd.underlying192
  a212 := Tryd.isAgg192
  z212 := Tryd.sizeOf192
  v212 := Tryd.zeroValue192
  t213 := Tryd.underlying194
  a213 := Tryd.isAgg194
  z213 := Tryd.sizeOf194
  t232 := Tryd.underlying209
  a232 := Tryd.isAgg209
  z232 := Tryd.sizeOf209
  v232 := Tryd.zeroValue209
  t233 := Tryd.underlying210
  a233 := Tryd.isAgg210
  z233 := Tryd.sizeOf210
  v233 := Tryd.zeroValue210
  g15 := by kernel_rfl
  g16 := by kernel_rfl
  g17 := by kernel_rfl
  g18 := by kernel_rfl
  g19 := by kernel_rfl
  t80 := Tryd.underlying97
  a80 := Tryd.isAgg97
  z80 := Tryd.sizeOf97
  v80 := Tryd.zeroValue97
  i0 := by kernel_rfl
  i2 := by kernel_rfl
  i3 := by kernel_rfl
  i4 := by kernel_rfl
  i5 := by kernel_rfl
  i9 := by kernel_rfl
  i20 := by kernel_rfl
  i21 := by kernel_rfl
  i37 := by kernel_rfl
  i46 := by kernel_rfl
  i51 := by kernel_rfl
  i53 := by kernel_rfl
  i75 := by kernel_rfl
  i76 := by kernel_rfl
  i80 := by kernel_rfl
  i85 := by kernel_rfl
  i127 := by kernel_rfl
  i143 := by kernel_rfl
  i145 := by kernel_rfl
  i167 := by kernel_rfl
  i168 := by kernel_rfl
  i171 := by kernel_rfl
  i173 := by kernel_rfl
  i175 := by kernel_rfl
  i210 := by kernel_rfl
  i212 := by kernel_rfl
  i232 := by kernel_rfl
  i233 := by kernel_rfl
  m15 := by kernel_rfl
  m16 := by kernel_rfl
  m17 := by kernel_rfl
  m18 := by kernel_rfl
  m19 := by kernel_rfl
  c0 := by kernel_rfl
  c2 := by kernel_rfl
  c3 := by kernel_rfl
  c4 := by kernel_rfl
  c5 := by kernel_rfl
  c9 := by kernel_rfl
  c20 := by kernel_rfl
  c21 := by kernel_rfl
  c37 := by kernel_rfl
  c46 := by kernel_rfl
  c51 := by kernel_rfl
  c53 := by kernel_rfl
  c75 := by kernel_rfl
  c76 := by kernel_rfl
  c80 := by kernel_rfl
  c85 := by kernel_rfl
  c127 := by kernel_rfl
  c143 := by kernel_rfl
  c145 := by kernel_rfl
  c167 := by kernel_rfl
  c168 := by kernel_rfl
  c171 := by kernel_rfl
  c173 := by kernel_rfl
  c175 := by kernel_rfl
  c210 := by kernel_rfl
  c212 := by kernel_rfl
  c213 := by kernel_rfl
  c232 := by kernel_rfl
  c233 := by kernel_rfl }
open Go.RowKit in
theorem Tryd.strconv_Atoi_ok (s : ByteArray) (hmax : s.size ≤ 9223372036854775806) (v : Int) (h : Lib.atoiAll s.data.toList = .ok v) (w : World) :
    Calls Tryd.prog 167 #[.string s] w fun e w' => e = .returned (.tuple #[.int .i64 v, .nilIface]) ∧ (w' = w ∨ ∃ t, w' = Lib.bytesWorld w 5 t) := Any.strconv_Atoi_ok Tryd.laysC172 s hmax v h w
open Go.RowKit in
theorem Tryd.strconv_Atoi_syntax_var (s : ByteArray) (hlim : s.size ≤ 281474976710656) (h : Lib.atoiAll s.data.toList = Lib.atoiAll []) (tp : TypeId) (p : Value) (w : World) (hvar : w.var? Tryd.prog "strconv.ErrSyntax" = some #[.iface tp p]) :
    Calls Tryd.prog 167 #[.string s] w fun e w' => ∃ N, e = .returned (.tuple #[.int .i64 0, .iface 187 (.pointer (some ⟨N, 0, none⟩))]) ∧ w.heap.size ≤ N ∧ w'.heap[N]? = some (.cells #[.string ⟨#[65, 116, 111, 105]⟩, .string s, .iface tp p] 201 (0, 0)) ∧ Below w.heap.size w w' := Any.strconv_Atoi_syntax_var Tryd.laysC172 s hlim h tp p w hvar
open Go.RowKit in
theorem Tryd.strconv_Atoi_range_var (s : ByteArray) (hlim : s.size ≤ 281474976710656) (h : Lib.atoiAll s.data.toList = .range) (tp : TypeId) (p : Value) (w : World) (hvar : w.var? Tryd.prog "strconv.ErrRange" = some #[.iface tp p]) :
    Calls Tryd.prog 167 #[.string s] w fun e w' => ∃ N, e = .returned (.tuple #[.int .i64 (Lib.atoiSat s.data.toList), .iface 187 (.pointer (some ⟨N, 0, none⟩))]) ∧ w.heap.size ≤ N ∧ w'.heap[N]? = some (.cells #[.string ⟨#[65, 116, 111, 105]⟩, .string s, .iface tp p] 201 (0, 0)) ∧ Below w.heap.size w w' := Any.strconv_Atoi_range_var Tryd.laysC172 s hlim h tp p w hvar
end Go.Proofs

namespace Go.Proofs.YtapiiklnnkkdlaaDoor
open Go.RowKit
set_option linter.unusedVariables false
set_option linter.unusedSimpArgs false
def itoaB (n : Int) : ByteArray := ⟨(Lib.itoa n).toArray⟩
theorem itoaB_size {n : Int} (h : inI n) : (itoaB n).size ≤ 21 := by
  have := Lib.itoa_length_le n h.1 h.2
  simpa [itoaB, ByteArray.size] using this
theorem sp_Itoa (n : Int) (h : inI n) : PSpec Tryd.prog 97 [.d (.int n)] (fun _ => .d (.str (itoaB n))) none := by
  refine ⟨⟨_, Tryd.func97, rfl, rfl⟩, fun d => rfl, fun _ d => rfl, by simp, fun d w ok vals hgi hok hl hv => ?_⟩
  match vals, hl with
  | ⟨[v]⟩, _ =>
  obtain ⟨rfl, _⟩ := (hv 0 _ v rfl rfl).d_inv.int_inv
  refine (Tryd.strconv_Itoa n h.1 h.2 w hgi.pow).mono ?_
  rintro e w' ⟨rfl, k, os, rfl⟩
  have hs := itoaB_size h
  refine ⟨_, ok, noG, rfl, ⟨rfl, rfl, rfl, by simp [Go.Sort.grow, World.drewN], fun b hb => ?_⟩, fun b h => h, fun b h => .inl h, .d _ _ (.str _ (by unfold maxLen; omega)), by simp⟩
  simp only [Go.Sort.grow, World.drewN]
  rw [Array.getElem?_append_left hb]
end Go.Proofs.YtapiiklnnkkdlaaDoor

namespace Go.Proofs.YtapiiklnnkkdlaaDoor
open Go.RowKit
attribute [local simp] runD mkRc ldOf stOf stOk ldArg noAny dstOk guardOk opEff opEff0 effOp pureOp callOp zEff evA constAV scalAV Value.oneCell' frGet memGet startAS frOf isGoCall idIn AS.after nextR opnIds objIds AV.ids idsL AObj.ids frNo memNo opnAny isAny mkVal rdCells wrCells fldAddr idxAddr srcRows litRows toD1 toDs setAt sliceAV optI partAV bldAV fillAV binAV binI AV.cells callEff calleeOf frKill memKill AV.kill AObj.kill AV.has AV.hasL Op.operands Call.operands keepF keepM viewIds cChk renOf moGet moWs moQ cEff moLike moHave AV.ren renL AObj.ren AObj.like kept startC moMem AV.frz frz1 frzL frSub memSub frzs AS.frz frFrz memFrz AObj.frz takeMap takeLen bleF Nat.ble_eq memAny objAny mapOp D.keyOk rowAV valRow extOp wrapOp phO
set_option linter.unusedVariables false
set_option linter.unusedSimpArgs false
@[simp] theorem u8min : IntKind.u8.min = 0 := rfl
@[simp] theorem u8max : IntKind.u8.max = 255 := rfl
@[simp] theorem i32min : IntKind.i32.min = -2147483648 := rfl
@[simp] theorem i32max : IntKind.i32.max = 2147483647 := rfl
def chOk (i : Nat) (c : UInt8) : Bool := (decide ((97 : Int) ≤ c.toNat) && decide ((c.toNat : Int) ≤ 122)) || ((decide ((48 : Int) ≤ c.toNat) && decide ((c.toNat : Int) ≤ 57)) && !(i == 0))
def nameB (s : ByteArray) : Bool := ((List.range s.size).all fun j => match s[j]? with | some c => chOk j c | none => true) && (decide (1 ≤ (s.size : Int)) && decide ((s.size : Int) ≤ 8))
theorem nameB_bad {s : ByteArray} {i : Nat} {c : UInt8} (h : s[i]? = some c) (hi : i < s.size) (hc : chOk i c = false) : nameB s = false := by
  unfold nameB
  rw [Bool.and_eq_false_iff]
  left
  rw [List.all_eq_false]
  exact ⟨i, List.mem_range.2 hi, by rw [h]; simp [hc]⟩
theorem nameB_good {s : ByteArray} (h : ∀ j < s.size, ∀ c, s[j]? = some c → chOk j c = true) : nameB s = (decide (1 ≤ (s.size : Int)) && decide ((s.size : Int) ≤ 8)) := by
  unfold nameB
  have : ((List.range s.size).all fun j => match s[j]? with | some c => chOk j c | none => true) = true := by
    rw [List.all_eq_true]
    intro j hj
    have := h j (List.mem_range.1 hj)
    revert this
    cases s[j]? with
    | none => intro _; rfl
    | some c => intro h; exact h c rfl
  rw [this, Bool.true_and]
set_option maxRecDepth 20000 in
set_option maxHeartbeats 4000000 in
theorem sp_Name (s : ByteArray) (hs : s.size ≤ 9223372036854775806) : PSpec Tryd.prog 39 [.d (.str s)] (fun _ => .d (.bool (nameB s))) none := by
  refine PSpec.of Tryd.func39 rfl rfl rfl (Nat.le_of_ble_eq_true rfl) ?_
  show AWp _ _ (endQ _ Tryd.f39 _ _ _) (startAS 50 _)
  repeat (first | refine AWp.seq ?_ | refine AWp.block ?_)
  apply AWp.reg [] []
  · conv => lhs; simp
  · trivial
  repeat (first | refine AWp.seq ?_ | refine AWp.block ?_)
  apply AWp.reg [] []
  · conv => lhs; simp
  · trivial
  repeat (first | refine AWp.seq ?_ | refine AWp.block ?_)
  refine AWp.loop (σ := fun u : {i : Nat // i ≤ s.size ∧ ∀ j < i, ∀ c, s[j]? = some c → chOk j c = true} => ⟨50, [(0, .d (.str s)), (7, .d (.int s.size)), (8, .d (.int u.1))], []⟩)
    (μ := fun u => s.size - u.1) ⟨0, Nat.zero_le _, by simp⟩ (Le.sub (by simp) (by simp)) (fun ⟨i, hi, ht⟩ => ?_)
  dsimp only
  repeat (first | refine AWp.seq ?_ | refine AWp.block ?_)
  apply AWp.reg [] []
  · conv => lhs; simp
  · trivial
  repeat (first | refine AWp.seq ?_ | refine AWp.block ?_)
  refine AWp.cond rfl (fun h => ?_) (fun h => ?_)
  · have hi1 : i < s.size := by have := of_decide_eq_true h; omega
    have h1 : s[i]? = some s[i] := by rw [getElem?_pos]
    generalize s[i] = c at h1
    have hc : chOk i c = ((decide ((97 : Int) ≤ c.toNat) && decide ((c.toNat : Int) ≤ 122)) || ((decide ((48 : Int) ≤ c.toNat) && decide ((c.toNat : Int) ≤ 57)) && !(i == 0))) := rfl
    obtain ⟨A, hA⟩ : ∃ A, A = decide ((97 : Int) ≤ c.toNat) := ⟨_, rfl⟩
    obtain ⟨B, hB⟩ : ∃ B, B = decide ((c.toNat : Int) ≤ 122) := ⟨_, rfl⟩
    obtain ⟨C, hC⟩ : ∃ C, C = decide ((48 : Int) ≤ c.toNat) := ⟨_, rfl⟩
    obtain ⟨E, hE⟩ : ∃ E, E = decide ((c.toNat : Int) ≤ 57) := ⟨_, rfl⟩
    rw [← hA, ← hB, ← hC, ← hE] at hc
    refine AWp.skip ?_
    repeat (first | refine AWp.seq ?_ | refine AWp.block ?_)
    apply AWp.reg [] []
    · conv => lhs; simp
    · trivial
    refine AWp.seqJ ⟨50, [(0, .d (.str s)), (3, .d (.int i)), (4, .d (.bool (A && B))), (5, .d (.bool (C && E))), (7, .d (.int s.size)), (8, .d (.int i))], []⟩ ?_ (fun W hW => ?_)
    rotate_left
    · cases A <;> cases B <;> cases C <;> cases E
      all_goals (
        have qA := hA.symm
        have qB := hB.symm
        have qC := hC.symm
        have qE := hE.symm
        simp only [decide_eq_true_eq, decide_eq_false_iff_not] at qA qB qC qE
        refine AWp.dw [] [] mixed ?_ (hr := by conv => lhs; simp [h1, qA, qB, qC, qE])
        exact hW _ (Le.sub (by simp) (by simp)))
    obtain ⟨L, hL⟩ : ∃ L, L = (A && B) := ⟨_, rfl⟩
    obtain ⟨G, hG⟩ : ∃ G, G = (C && E) := ⟨_, rfl⟩
    rw [← hL, ← hG] at hc ⊢
    have step : chOk i c = true → ∀ j < i + 1, ∀ c, s[j]? = some c → chOk j c = true := fun hok j hj c' hc' => by
      rcases Nat.lt_or_ge j i with hlt | hge
      · exact ht j hlt c' hc'
      · obtain rfl : j = i := by omega
        rw [h1] at hc'
        cases hc'
        exact hok
    by_cases hz : i = 0
    · subst hz
      cases L <;> cases G
      all_goals first
        | (
          have hbad := nameB_bad h1 hi1 (by rw [hc]; rfl)
          refine AWp.rg [] [] ?_
          repeat (first | refine AWp.seq ?_ | refine AWp.block ?_)
          refine AWp.cond rfl (fun h2 => ?_) (fun h2 => ?_)
          rotate_left
          · cases h2
          refine AWp.rg [] [] ?_
          refine AWp.ret ?_
          try dsimp only [thenQ, blockQ]
          apply endQ.ret
          · rfl
          · conv => lhs; simp [resAV, Tryd.results39]
          rw [hbad]; rfl)
        | (
          have hgood := step (by rw [hc]; rfl)
          refine AWp.rg [] [] ?_
          repeat (first | refine AWp.seq ?_ | refine AWp.block ?_)
          refine AWp.cond rfl (fun h2 => ?_) (fun h2 => ?_)
          · cases h2
          refine AWp.skip ?_
          refine AWp.rg [] [] ?_
          refine ⟨⟨0 + 1, hi1, hgood⟩, by simp; omega, Le.sub (by simp) (by simp)⟩)
    · have hz' : ¬ (i : Int) = 0 := by omega
      have hzb : (i == 0) = false := by simp [hz]
      rw [hzb] at hc
      cases L <;> cases G
      all_goals first
        | (
          have hbad := nameB_bad h1 hi1 (by rw [hc]; rfl)
          refine AWp.rg [] [] ?_ (hr := by conv => lhs; simp [hz])
          repeat (first | refine AWp.seq ?_ | refine AWp.block ?_)
          refine AWp.cond rfl (fun h2 => ?_) (fun h2 => ?_)
          rotate_left
          · cases h2
          refine AWp.rg [] [] ?_
          refine AWp.ret ?_
          try dsimp only [thenQ, blockQ]
          apply endQ.ret
          · rfl
          · conv => lhs; simp [resAV, Tryd.results39]
          rw [hbad]; rfl)
        | (
          have hgood := step (by rw [hc]; rfl)
          refine AWp.rg [] [] ?_ (hr := by conv => lhs; simp [hz])
          repeat (first | refine AWp.seq ?_ | refine AWp.block ?_)
          refine AWp.cond rfl (fun h2 => ?_) (fun h2 => ?_)
          · cases h2
          refine AWp.skip ?_
          refine AWp.rg [] [] ?_
          refine ⟨⟨i + 1, hi1, hgood⟩, by simp; omega, Le.sub (by simp) (by simp)⟩)
  have hi1 : i = s.size := by have := of_decide_eq_false h; omega
  subst hi1
  have hg := nameB_good ht
  rw [hg]
  refine AWp.exit ?_
  by_cases g1 : (1 : Int) ≤ s.size
  · by_cases g2 : (s.size : Int) ≤ 8
    · refine AWp.rg [] [] ?_ (hr := by conv => lhs; simp [g1, g2])
      refine AWp.ret ?_
      try dsimp only [thenQ, blockQ]
      apply endQ.ret
      · rfl
      · conv => lhs; simp [resAV, Tryd.results39]
      rw [decide_eq_true g1, decide_eq_true g2]; rfl
    · refine AWp.rg [] [] ?_ (hr := by conv => lhs; simp [g1, g2])
      refine AWp.ret ?_
      try dsimp only [thenQ, blockQ]
      apply endQ.ret
      · rfl
      · conv => lhs; simp [resAV, Tryd.results39]
      rw [decide_eq_true g1, decide_eq_false g2]; rfl
  · refine AWp.rg [] [] ?_ (hr := by conv => lhs; simp [g1])
    refine AWp.ret ?_
    try dsimp only [thenQ, blockQ]
    apply endQ.ret
    · rfl
    · conv => lhs; simp [resAV, Tryd.results39]
    rw [decide_eq_false g1]; rfl

def twB (l : List ByteArray) : Bool := (List.range l.length).any fun j => match l[j]? with | some x => hasB (l.take j) x | none => false
def badB (l : List ByteArray) : Bool := l.any fun s => !nameB s

end Go.Proofs.YtapiiklnnkkdlaaDoor
