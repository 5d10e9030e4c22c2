import Derived.Test.YtapiiklnnkkdlaaDoorNamesC
import Derived.RangeFuncNested
import Derived.RangeFuncWrites
import Derived.RangeFuncBound
import Derived.RangeFuncCalls
import Derived.RangeFuncLeaves
import Derived.RangeFuncBox
import Derived.Shelf.Abstract
import Derived.WalkKit
import Derived.OwnWalkIn
import Derived.TacticsInMore
import Derived.LoopNIn
import Derived.LoopIn
/- The names that a term needs: plainly; functions that give an array of their own. -/
namespace Go.Proofs.YtapiiklnnkkdlaaDoor
open Go.RowKit
set_option linter.unusedVariables false
set_option linter.unusedSimpArgs false
def endX (P : Program) (fn : Func) (r : Nat → AV) (x : Option AObj) : Exit → AS → Prop := fun e s => ∃ o, (∀ d, r d = (r o).ren (fun _ => d)) ∧ (∀ i ∈ (r o).ids, i = o) ∧ endQ P fn r x o e s
theorem endX.ret {P : Program} {fn : Func} {n : Nat} (o : Nat) {s : AS} {cs : List AV} {y : AObj} (h : resAV P s fn.results.toList = some cs) (hr : (resVal cs).nilD = .arr o 0 n) (hx : memGet s.mem o = some y) (ho : Nat.ble 500 o = false) : endX P fn (fun d => .arr d 0 n) (some y) .ret s :=
  ⟨o, fun _ => rfl, by simp [AV.ids, idsL], .inl rfl, s, Le.refl s, cs, h, hr, rfl, fun z hz => by cases hz; exact ⟨hx, ho⟩⟩
theorem PSpec.ofArrX {P : Program} {k : Nat} {fn : Func} {c : Code} (hf : P.funcs[k]? = some fn) (hnm : (fn.name == "runtime.NumGoroutine") = false) (hb : fn.body = some c) {args : List AV} (r : Nat → AV) {e : TypeId} {sz : Nat} {rows : List (List D)} (hn : args.length ≤ fn.ntmps)
    (hrcl : ∀ d, (r d).has (fun i => !(d == i)) = false) (h : AWp P c (endX P fn r (some (.arr e sz rows))) (startAS fn.ntmps args)) : PSpec P k args r (some (.arr e sz rows)) := by
  refine ⟨⟨fn, hf, hnm, by rw [hb]; rfl⟩, hrcl, (fun h => by cases h), fun y hy => ⟨e, sz, rows, by cases hy; rfl⟩, fun d w ok vals hgi hok hl hv => ?_⟩
  refine calls_of_wp hf hb ?_
  have hst : St ⟨w, ok, fun _ => False, noG⟩ (startAS fn.ntmps args) { tmps := vals ++ Array.replicate (fn.ntmps - vals.size) undef, defers := [] } w := by
    refine ⟨ok, noG, ⟨(fun o x hx => by cases hx), (fun i j xi xj b hi => by cases hi), (fun i x b hi => by cases hi), fun b hb => ⟨hok b hb, .inl hb⟩, fun b hb => hb, Nat.le_refl _, fun b _ _ => rfl, fun i _ => ⟨rfl, rfl⟩, rfl, rfl, rfl, hgi, fun _ _ h => h⟩, by simp [startAS]; omega, rfl, fun t => ?_⟩
    exact frStart (C := ⟨w, ok, fun _ => False, noG⟩) hl hn hv t
  refine wp_mono (h _ _ w hst) ?_
  rintro ex a' w' ⟨s, ⟨o, hren, hids, he, s', hle, cs, hres, hr, hrn, hx⟩, hs⟩
  obtain ⟨ok', g, hM, h1, h2, h3⟩ := hle _ _ _ hs
  obtain ⟨v, hv1, hv2⟩ := results_ok hM h3 hres
  obtain ⟨hxo, hxs⟩ := hx _ rfl
  have hv2 := hv2.nilD
  rw [hr, hrn] at hv2
  have hfin : a'.defers = [] ∧ ∃ v, (results fn a'.tmps).run P w' = .ok v w' ∧ ∃ v' ok' g', Ending.returned v = .returned v' ∧ Below w.heap.size w w' ∧ (∀ b, ok b → ok' b) ∧ (∀ b, ok' b → ok b ∨ (w.heap.size ≤ b ∧ b < w'.heap.size)) ∧ VR w' ok' g' (oneM d (some (.arr e sz rows))) (r d) v' ∧
      (∀ y, (some (.arr e sz rows) : Option AObj) = some y → OR w' ok' g' (oneM d (some (.arr e sz rows))) d y ∧ ∀ b, g'.bl d = some b → ¬ ok' b ∧ w.heap.size ≤ b ∧ b < w'.heap.size) := by
    refine ⟨h2, v, hv1, v, ok', ⟨fun _ => g.bl o, fun _ => g.cp o⟩, rfl, ⟨hM.os, hM.tape, hM.output, hM.size, fun b hb => hM.heap b hb (fun h => h)⟩, hM.okk, fun b hb => ?_, ?_, fun y hy => ?_⟩
    · obtain ⟨k1, k2⟩ := hM.okb b hb
      rcases k2 with k2 | k2
      · exact .inl k2
      · exact .inr ⟨k2, k1⟩
    · rw [hren d]
      refine VR.reren _ hv2 fun i hi => ?_
      have := hids i hi
      subst this
      exact ⟨_, hxo, by simp [oneM, AObj.ren], rfl, rfl⟩
    · cases hy
      have hO := hM.obj o _ hxo
      refine ⟨hO, fun b hb => ?_⟩
      obtain ⟨k1, k2, k3⟩ := hM.own o _ b hxo hb
      refine ⟨k1, ?_, k2⟩
      rcases k3 with k3 | ⟨k3, _⟩
      · exact k3
      · exact k3.elim
  rcases he with rfl | rfl
  · exact hfin
  · exact hfin
mutual
def Tm.free : Tm → List ByteArray
  | .mk k _ a _ _ xs cs => if k = 1 then [a] else if k = 6 ∧ xs.length = 2 then Tm.freeL a [] xs else Cs.frees (Tm.frees (if 8 ≤ k ∧ k ≤ 11 then [a] else []) xs) cs
def Tm.frees : List ByteArray → List Tm → List ByteArray
  | o, [] => o
  | o, x :: r => Tm.frees (addN o x.free) r
def Tm.freeL (a : ByteArray) : List ByteArray → List Tm → List ByteArray
  | o, [] => o
  | o, x :: r => Tm.freeB a (addN o x.free) r
def Tm.freeB (a : ByteArray) : List ByteArray → List Tm → List ByteArray
  | o, [] => o
  | o, x :: _ => addN o (woN x.free [a])
def Cs.frees : List ByteArray → List Cs → List ByteArray
  | o, [] => o
  | o, c :: r => Cs.frees (addN o c.freeC) r
def Cs.freeC : Cs → List ByteArray
  | .mk _ vs b => woN b.free vs
end
theorem Tm.frees_eq (l : List Tm) : ∀ o, Tm.frees o l = l.foldl (fun o x => addN o x.free) o := by
  induction l with
  | nil => intro o; simp [Tm.frees]
  | cons x r ih => intro o; simp [Tm.frees, ih]
theorem Cs.frees_eq (l : List Cs) : ∀ o, Cs.frees o l = l.foldl (fun o x => addN o x.freeC) o := by
  induction l with
  | nil => intro o; simp [Cs.frees]
  | cons x r ih => intro o; simp [Cs.frees, ih]
theorem nodup_addN (more : List ByteArray) : ∀ l : List ByteArray, l.Nodup → (addN l more).Nodup := by
  induction more with
  | nil => intro l h; simpa [addN] using h
  | cons s more ih =>
    intro l h
    have := ih (if hasB l s then l else l ++ [s]) (by
      split
      · exact h
      · rename_i hs
        have hs' := hasB_not.1 (by simpa using hs)
        rw [List.nodup_append]
        exact ⟨h, by simp, fun x hx y hy => by simp at hy; subst hy; rintro rfl; exact hs' hx⟩)
    simpa only [addN, List.foldl_cons] using this
theorem addN_app (more : List ByteArray) : ∀ l : List ByteArray, (l ++ more).Nodup → addN l more = l ++ more := by
  induction more with
  | nil => intro l h; simp [addN]
  | cons s more ih =>
    intro l h
    have hs : hasB l s = false := hasB_not.2 fun hm => by
      rw [List.nodup_append] at h
      exact h.2.2 s hm s (List.mem_cons_self ..) rfl
    have := ih (l ++ [s]) (by simpa using h)
    simp only [addN, List.foldl_cons, hs] at this ⊢
    simpa using this
theorem addN_nil {l : List ByteArray} (h : l.Nodup) : addN [] l = l := by simpa using addN_app l [] (by simpa using h)
theorem frees_nodup (l : List Tm) : ∀ o : List ByteArray, o.Nodup → (l.foldl (fun o x => addN o x.free) o).Nodup := by
  induction l with
  | nil => intro o h; exact h
  | cons x r ih => intro o h; exact ih _ (nodup_addN _ _ h)
theorem freesC_nodup (l : List Cs) : ∀ o : List ByteArray, o.Nodup → (l.foldl (fun o x => addN o x.freeC) o).Nodup := by
  induction l with
  | nil => intro o h; exact h
  | cons x r ih => intro o h; exact ih _ (nodup_addN _ _ h)
theorem Tm.free_nodup (t : Tm) : t.free.Nodup := by
  obtain ⟨k, n, a, b, vs, xs, cs⟩ := t
  simp only [Tm.free]
  split
  · simp
  split
  · rename_i h
    obtain ⟨_, h2⟩ := h
    match xs, h2 with
    | [x, y], _ => simp only [Tm.freeL, Tm.freeB]; exact nodup_addN _ _ (nodup_addN _ _ (by simp))
  · rw [Tm.frees_eq, Cs.frees_eq]
    refine freesC_nodup _ _ (frees_nodup _ _ ?_)
    split <;> simp
mutual
theorem Tm.free_len : ∀ t : Tm, t.free.length ≤ t.sz
  | .mk k n a b vs xs cs => by
    simp only [Tm.free, Tm.sz]
    split
    · simp; omega
    split
    · have := Tm.freeL_len a xs []
      simp at this; omega
    · have h1 := Tm.frees_len xs (if 8 ≤ k ∧ k ≤ 11 then [a] else [])
      have h2 := Cs.frees_len cs (Tm.frees (if 8 ≤ k ∧ k ≤ 11 then [a] else []) xs)
      have h3 : (if 8 ≤ k ∧ k ≤ 11 then [a] else []).length ≤ 1 := by split <;> simp
      omega
theorem Tm.frees_len : ∀ (l : List Tm) (o : List ByteArray), (Tm.frees o l).length ≤ o.length + Tm.szs l
  | [], o => by simp [Tm.frees]
  | x :: r, o => by
    have h1 := Tm.free_len x
    have h2 := Tm.frees_len r (addN o x.free)
    have h3 := addN_len x.free o
    simp only [Tm.frees, Tm.szs]
    omega
theorem Tm.freeL_len (a : ByteArray) : ∀ (l : List Tm) (o : List ByteArray), (Tm.freeL a o l).length ≤ o.length + Tm.szs l
  | [], o => by simp [Tm.freeL]
  | x :: r, o => by
    have h1 := Tm.free_len x
    have h2 := Tm.freeB_len a r (addN o x.free)
    have h3 := addN_len x.free o
    simp only [Tm.freeL, Tm.szs]
    omega
theorem Tm.freeB_len (a : ByteArray) : ∀ (l : List Tm) (o : List ByteArray), (Tm.freeB a o l).length ≤ o.length + Tm.szs l
  | [], o => by simp [Tm.freeB]
  | x :: r, o => by
    have h1 := Tm.free_len x
    have h3 := addN_len (woN x.free [a]) o
    have h4 := woN_len x.free [a]
    simp only [Tm.freeB, Tm.szs]
    omega
theorem Cs.frees_len : ∀ (l : List Cs) (o : List ByteArray), (Cs.frees o l).length ≤ o.length + Cs.szs l
  | [], o => by simp [Cs.frees]
  | x :: r, o => by
    have h1 := Cs.freeC_len x
    have h2 := Cs.frees_len r (addN o x.freeC)
    have h3 := addN_len x.freeC o
    simp only [Cs.frees, Cs.szs]
    omega
theorem Cs.freeC_len : ∀ (c : Cs), c.freeC.length ≤ c.sz
  | .mk t vs b => by
    have h1 := Tm.free_len b
    have h4 := woN_len b.free vs
    simp only [Cs.freeC, Cs.sz]
    omega
end
theorem Tm.szs_take {l : List Tm} {i : Nat} {x : Tm} (hx : l[i]? = some x) : Tm.szs (l.take i) + x.sz ≤ Tm.szs l := by
  induction l generalizing i with
  | nil => simp at hx
  | cons y r ih =>
    cases i with
    | zero => simp at hx; subst hx; simp [Tm.szs]
    | succ i => have := ih (i := i) (by simpa using hx); simp only [List.take_succ_cons, Tm.szs]; omega
theorem Cs.szs_take {l : List Cs} {i : Nat} {x : Cs} (hx : l[i]? = some x) : Cs.szs (l.take i) + x.sz ≤ Cs.szs l := by
  induction l generalizing i with
  | nil => simp at hx
  | cons y r ih =>
    cases i with
    | zero => simp at hx; subst hx; simp [Cs.szs]
    | succ i => have := ih (i := i) (by simpa using hx); simp only [List.take_succ_cons, Cs.szs]; omega
theorem Tm.frees_snoc {o : List ByteArray} {l : List Tm} {i : Nat} {x : Tm} (hx : l[i]? = some x) : Tm.frees o (l.take (i + 1)) = addN (Tm.frees o (l.take i)) x.free := by
  rw [List.take_add_one, hx]
  simp [Tm.frees_eq]
theorem Cs.frees_snoc {o : List ByteArray} {l : List Cs} {i : Nat} {x : Cs} (hx : l[i]? = some x) : Cs.frees o (l.take (i + 1)) = addN (Cs.frees o (l.take i)) x.freeC := by
  rw [List.take_add_one, hx]
  simp [Cs.frees_eq]
end Go.Proofs.YtapiiklnnkkdlaaDoor

namespace Go.Proofs.YtapiiklnnkkdlaaDoor
open Go.RowKit
attribute [local simp] runD mkRc ldOf stOf stOk ldArg noAny dstOk guardOk opEff opEff0 effOp pureOp callOp zEff evA constAV scalAV Value.oneCell' frGet memGet startAS frOf isGoCall idIn AS.after nextR opnIds objIds AV.ids idsL AObj.ids frNo memNo opnAny isAny mkVal rdCells wrCells fldAddr idxAddr srcRows litRows toD1 toDs setAt sliceAV optI partAV bldAV fillAV binAV binI AV.cells callEff calleeOf frKill memKill AV.kill AObj.kill AV.has AV.hasL Op.operands Call.operands keepF keepM viewIds cChk renOf moGet moWs moQ cEff moLike moHave AV.ren renL AObj.ren AObj.like kept startC moMem AV.frz frz1 frzL frSub memSub frzs AS.frz frFrz memFrz AObj.frz takeMap takeLen bleF Nat.ble_eq memAny objAny mapOp D.keyOk rowAV valRow extOp wrapOp phO frLow memLow memLow1 objLow memEmpty Low LowL
set_option linter.unusedVariables false
set_option linter.unusedSimpArgs false
theorem AWp.seqJ {P : Program} {Q : Exit → AS → Prop} {s : AS} {x y : Code} (s0 : AS) (h2 : AWp P y Q s0) (h1 : ∀ W : AS → Prop, (∀ s', Le s' s0 → W s') → AWp P x (thenQ W Q) s) : AWp P (.seq x y) Q s :=
  AWp.seq (h1 _ fun _ hl => AWp.le hl h2)
abbrev tmCells (k n : Int) (a b : ByteArray) (vs : List ByteArray) (xs : List Tm) (cs : List Cs) : List AV :=
  [.d (.int k), .d (.int n), .d (.str a), .d (.str b), .d (strsD vs), .d (.sl (xs.map Tm.row)), .d (.sl (cs.map Cs.row))]
def tmObj (k n : Int) (a b : ByteArray) (vs : List ByteArray) (xs : List Tm) (cs : List Cs) : Option AObj := some (.blk 34 (tmCells k n a b vs xs cs))
structure Tm.Fit (t : Tm) : Prop where
  ok : t.Ok
  sz : t.sz ≤ 1048576
theorem Tm.Fit.arg {k n : Int} {a b : ByteArray} {vs : List ByteArray} {xs : List Tm} {cs : List Cs} (h : (Tm.mk k n a b vs xs cs).Fit) {x : Tm} (hx : x ∈ xs) : x.Fit :=
  ⟨h.ok.arg hx, by have := Tm.sz_arg (k := k) (n := n) (a := a) (b := b) (vs := vs) (cs := cs) hx; have := h.sz; omega⟩
theorem Tm.Fit.case {k n : Int} {a b : ByteArray} {vs : List ByteArray} {xs : List Tm} {cs : List Cs} (h : (Tm.mk k n a b vs xs cs).Fit) {t : Int} {ws : List ByteArray} {x : Tm} (hx : Cs.mk t ws x ∈ cs) : x.Fit ∧ ws.length ≤ 8796093022207 :=
  ⟨⟨(h.ok.case hx).body.1, by have := Tm.sz_case (k := k) (n := n) (a := a) (b := b) (vs := vs) (xs := xs) hx; have := h.sz; omega⟩, (h.ok.case hx).body.2⟩
theorem sz_all {k n : Int} {a b : ByteArray} {vs : List ByteArray} {xs : List Tm} {cs : List Cs} (h : (Tm.mk k n a b vs xs cs).Fit) : 1 + Tm.szs xs + Cs.szs cs ≤ 1048576 := by
  have := h.sz
  simpa only [Tm.sz] using this
set_option maxRecDepth 20000 in
set_option maxHeartbeats 8000000 in
theorem sp_Free_at : ∀ (N : Nat) (t : Tm), t.sz < N → t.Fit → PSpec Tryd.prog 77 [tmAV t] (fun d => .arr d 0 t.free.length) (some (.arr 9 1 (t.free.map strR))) := by
  intro N
  induction N with
  | zero => intro s h; omega
  | succ N ih =>
  intro t hN hF
  have hO := hF.ok
  obtain ⟨k, n, a, b, vs, xs, cs⟩ := t
  obtain ⟨o1, o2, o3, o4, o5⟩ := hO.vars
  have hsz := sz_all hF
  refine PSpec.ofArrX Tryd.func77 rfl rfl _ (Nat.le_of_ble_eq_true rfl) (fun d => by simp [AV.has, AV.hasL]) ?_
  show AWp _ _ (endX _ Tryd.f77 _ _) (startAS 77 _)
  repeat (first | refine AWp.seq ?_ | refine AWp.block ?_)
  apply AWp.reg [] []
  · conv => lhs; simp
  · trivial
  repeat (first | refine AWp.seq ?_ | refine AWp.block ?_)
  apply AWp.reg [] []
  · conv => lhs; simp
  · trivial
  by_cases e1 : k = 1
  · subst e1
    have hf : (Tm.mk 1 n a b vs xs cs).free = [a] := by simp [Tm.free]
    rw [hf]
    repeat (first | refine AWp.seq ?_ | refine AWp.block ?_)
    apply AWp.reg [] []
    · conv => lhs; simp
    · trivial
    repeat (first | refine AWp.seq ?_ | refine AWp.block ?_)
    apply AWp.reg [] []
    · conv => lhs; simp
    · trivial
    repeat (first | refine AWp.seq ?_ | refine AWp.block ?_)
    refine AWp.cond rfl (fun h => ?_) (fun h => ?_)
    · refine AWp.rg [] [] ?_
      refine AWp.ret ?_
      try dsimp only [thenQ, blockQ]
      apply endX.ret 14
      · conv => lhs; simp [resAV, Tryd.results77]
      · rfl
      · rfl
      · rfl
    · simp at h
  by_cases e6 : k = 6 ∧ xs.length = 2
  · obtain ⟨e6, e7⟩ := e6
    subst e6
    match xs, e7 with
    | [x, y], _ =>
    have hf : (Tm.mk 6 n a b vs [x, y] cs).free = addN x.free (woN y.free [a]) := by
      simp [Tm.free, Tm.freeL, Tm.freeB, addN_nil x.free_nodup]
    rw [hf]
    have hx := ih x (by have := Tm.sz_arg (k := 6) (n := n) (a := a) (b := b) (vs := vs) (cs := cs) (x := x) (xs := [x, y]) (by simp); omega) (hF.arg (by simp))
    have hy := ih y (by have := Tm.sz_arg (k := 6) (n := n) (a := a) (b := b) (vs := vs) (cs := cs) (x := y) (xs := [x, y]) (by simp); omega) (hF.arg (by simp))
    have lx := x.free_len
    have ly := y.free_len
    simp only [Tm.szs] at hsz
    have hwo := sp_without y.free [a] (by omega) (by simp)
    have lw := woN_len y.free [a]
    have had := cs_add x.free (woN y.free [a]) (by omega)
    generalize x.free = fx at *
    generalize woN y.free [a] = fw at *
    generalize y.free = fy at *
    obtain ⟨xk, xn, xa, xb, xv, xx, xc⟩ := x
    obtain ⟨yk, yn, ya, yb, yv, yx, yc⟩ := y
    repeat (first | refine AWp.seq ?_ | refine AWp.block ?_)
    apply AWp.reg [] []
    · conv => lhs; simp
    · trivial
    repeat (first | refine AWp.seq ?_ | refine AWp.block ?_)
    apply AWp.reg [] []
    · conv => lhs; simp
    · trivial
    repeat (first | refine AWp.seq ?_ | refine AWp.block ?_)
    refine AWp.cond rfl (fun h => ?_) (fun h => ?_)
    · simp at h
    repeat (first | refine AWp.seq ?_ | refine AWp.block ?_)
    apply AWp.reg [] []
    · conv => lhs; simp
    · trivial
    repeat (first | refine AWp.seq ?_ | refine AWp.block ?_)
    refine AWp.cond rfl (fun h2 => ?_) (fun h2 => ?_)
    rotate_left
    · simp at h2
    repeat (first | refine AWp.seq ?_ | refine AWp.block ?_)
    apply AWp.reg [] []
    · conv => lhs; simp
    · trivial
    repeat (first | refine AWp.seq ?_ | refine AWp.block ?_)
    refine AWp.cond rfl (fun h3 => ?_) (fun h3 => ?_)
    rotate_left
    · simp at h3
    repeat (first | refine AWp.seq ?_ | refine AWp.block ?_)
    apply AWp.draw [9, 12] [.p (fun d => .arr d 0 fx.length) (some (.arr 9 1 (fx.map strR))), .p (fun d => .arr d 0 fy.length) (some (.arr 9 1 (fy.map strR))), .p (fun _ => strsAV fw) none, .c [(500, 25)] [.arr 500 0 fx.length, strsAV fw] [(500, .arr 9 1 (fx.map strR))] (.arr 500 0 (addN fx fw).length) [(500, .arr 9 1 ((addN fx fw).map strR))]] mixed
    · conv => lhs; simp [Tm.row, Tm.rows_eq, Cs.rows_eq, tmAV]
    · kernel_rfl
    · exact ⟨hx, hy, hwo, had⟩
    refine AWp.ret ?_
    try dsimp only [thenQ, blockQ]
    apply endX.ret 25
    · conv => lhs; simp [resAV, Tryd.results77]
    · rfl
    · rfl
    · rfl
  obtain ⟨o0, ho0⟩ : ∃ o0, o0 = if 8 ≤ k ∧ k ≤ 11 then [a] else [] := ⟨_, rfl⟩
  have hf : (Tm.mk k n a b vs xs cs).free = Cs.frees (Tm.frees o0 xs) cs := by simp only [Tm.free, if_neg e1, if_neg e6, ho0]
  have hl0 : o0.length ≤ 1 := by rw [ho0]; split <;> simp
  rw [hf]
  refine AWp.seqJ ⟨77, [(1, .ptr 1 0), (3, .arr 400 0 o0.length)], [(1, tmObj k n a b vs xs cs), (400, some (.arr 9 1 (o0.map strR)))]⟩ ?_ (fun W hW => ?_)
  rotate_left
  · by_cases k6 : k = 6
    · subst k6
      have h7 : ¬ (xs.length : Int) = 2 := fun h => e6 ⟨rfl, by omega⟩
      rw [if_neg (by omega)] at ho0
      subst ho0
      repeat (first | refine AWp.seq ?_ | refine AWp.block ?_)
      apply AWp.reg [] []
      · conv => lhs; simp
      · trivial
      repeat (first | refine AWp.seq ?_ | refine AWp.block ?_)
      apply AWp.reg [] []
      · conv => lhs; simp
      · trivial
      repeat (first | refine AWp.seq ?_ | refine AWp.block ?_)
      refine AWp.cond rfl (fun h => ?_) (fun h => ?_)
      · simp at h
      repeat (first | refine AWp.seq ?_ | refine AWp.block ?_)
      apply AWp.reg [] []
      · conv => lhs; simp
      · trivial
      repeat (first | refine AWp.seq ?_ | refine AWp.block ?_)
      refine AWp.cond rfl (fun h2 => ?_) (fun h2 => ?_)
      rotate_left
      · simp at h2
      repeat (first | refine AWp.seq ?_ | refine AWp.block ?_)
      apply AWp.reg [] []
      · conv => lhs; simp [h7]
      · trivial
      repeat (first | refine AWp.seq ?_ | refine AWp.block ?_)
      refine AWp.cond rfl (fun h3 => ?_) (fun h3 => ?_)
      · simp at h3
      refine AWp.skip ?_
      exact hW _ (Le.low [400] [] (fr := [(1, .ptr 1 0), (3, .arr 400 0 0)]) (mem := [(1, tmObj 6 n a b vs xs cs), (400, some (.arr 9 1 []))]) rfl (by simp) (by simp [tmObj]))
    by_cases k8 : k = 8
    · subst k8
      rw [if_pos (by omega)] at ho0
      subst ho0
      repeat (first | refine AWp.seq ?_ | refine AWp.block ?_)
      apply AWp.reg [] []
      · conv => lhs; simp
      · trivial
      repeat (first | refine AWp.seq ?_ | refine AWp.block ?_)
      apply AWp.reg [] []
      · conv => lhs; simp
      · trivial
      repeat (first | refine AWp.seq ?_ | refine AWp.block ?_)
      refine AWp.cond rfl (fun h => ?_) (fun h => ?_)
      · simp at h
      repeat (first | refine AWp.seq ?_ | refine AWp.block ?_)
      apply AWp.reg [] []
      · conv => lhs; simp
      · trivial
      repeat (first | refine AWp.seq ?_ | refine AWp.block ?_)
      refine AWp.cond rfl (fun h2 => ?_) (fun h2 => ?_)
      · simp at h2
      repeat (first | refine AWp.seq ?_ | refine AWp.block ?_)
      apply AWp.reg [] []
      · conv => lhs; simp
      · trivial
      repeat (first | refine AWp.seq ?_ | refine AWp.block ?_)
      refine AWp.cond rfl (fun h3 => ?_) (fun h3 => ?_)
      rotate_left
      · simp at h3
      refine AWp.skip ?_
      repeat (first | refine AWp.seq ?_ | refine AWp.block ?_)
      refine AWp.cond rfl (fun h4 => ?_) (fun h4 => ?_)
      rotate_left
      · simp at h4
      refine AWp.rg [] [] ?_
      exact hW _ (Le.trans (Le.swap _ 41 400 rfl rfl) (Le.sub (by simp [AS.swap, swN]) (by simp [AS.swap, swN, tmObj])))
    by_cases k9 : k = 9
    · subst k9
      rw [if_pos (by omega)] at ho0
      subst ho0
      repeat (first | refine AWp.seq ?_ | refine AWp.block ?_)
      apply AWp.reg [] []
      · conv => lhs; simp
      · trivial
      repeat (first | refine AWp.seq ?_ | refine AWp.block ?_)
      apply AWp.reg [] []
      · conv => lhs; simp
      · trivial
      repeat (first | refine AWp.seq ?_ | refine AWp.block ?_)
      refine AWp.cond rfl (fun h => ?_) (fun h => ?_)
      · simp at h
      repeat (first | refine AWp.seq ?_ | refine AWp.block ?_)
      apply AWp.reg [] []
      · conv => lhs; simp
      · trivial
      repeat (first | refine AWp.seq ?_ | refine AWp.block ?_)
      refine AWp.cond rfl (fun h2 => ?_) (fun h2 => ?_)
      · simp at h2
      repeat (first | refine AWp.seq ?_ | refine AWp.block ?_)
      apply AWp.reg [] []
      · conv => lhs; simp
      · trivial
      repeat (first | refine AWp.seq ?_ | refine AWp.block ?_)
      refine AWp.cond rfl (fun h3 => ?_) (fun h3 => ?_)
      · simp at h3
      repeat (first | refine AWp.seq ?_ | refine AWp.block ?_)
      apply AWp.reg [] []
      · conv => lhs; simp
      · trivial
      repeat (first | refine AWp.seq ?_ | refine AWp.block ?_)
      refine AWp.cond rfl (fun h4 => ?_) (fun h4 => ?_)
      rotate_left
      · simp at h4
      refine AWp.rg [] [] ?_
      exact hW _ (Le.trans (Le.swap _ 41 400 rfl rfl) (Le.sub (by simp [AS.swap, swN]) (by simp [AS.swap, swN, tmObj])))
    by_cases k10 : k = 10
    · subst k10
      rw [if_pos (by omega)] at ho0
      subst ho0
      repeat (first | refine AWp.seq ?_ | refine AWp.block ?_)
      apply AWp.reg [] []
      · conv => lhs; simp
      · trivial
      repeat (first | refine AWp.seq ?_ | refine AWp.block ?_)
      apply AWp.reg [] []
      · conv => lhs; simp
      · trivial
      repeat (first | refine AWp.seq ?_ | refine AWp.block ?_)
      refine AWp.cond rfl (fun h => ?_) (fun h => ?_)
      · simp at h
      repeat (first | refine AWp.seq ?_ | refine AWp.block ?_)
      apply AWp.reg [] []
      · conv => lhs; simp
      · trivial
      repeat (first | refine AWp.seq ?_ | refine AWp.block ?_)
      refine AWp.cond rfl (fun h2 => ?_) (fun h2 => ?_)
      · simp at h2
      repeat (first | refine AWp.seq ?_ | refine AWp.block ?_)
      apply AWp.reg [] []
      · conv => lhs; simp
      · trivial
      repeat (first | refine AWp.seq ?_ | refine AWp.block ?_)
      refine AWp.cond rfl (fun h3 => ?_) (fun h3 => ?_)
      · simp at h3
      repeat (first | refine AWp.seq ?_ | refine AWp.block ?_)
      apply AWp.reg [] []
      · conv => lhs; simp
      · trivial
      repeat (first | refine AWp.seq ?_ | refine AWp.block ?_)
      refine AWp.cond rfl (fun h4 => ?_) (fun h4 => ?_)
      · simp at h4
      repeat (first | refine AWp.seq ?_ | refine AWp.block ?_)
      apply AWp.reg [] []
      · conv => lhs; simp
      · trivial
      repeat (first | refine AWp.seq ?_ | refine AWp.block ?_)
      refine AWp.cond rfl (fun h5 => ?_) (fun h5 => ?_)
      rotate_left
      · simp at h5
      refine AWp.skip ?_
      repeat (first | refine AWp.seq ?_ | refine AWp.block ?_)
      refine AWp.cond rfl (fun h6 => ?_) (fun h6 => ?_)
      rotate_left
      · simp at h6
      refine AWp.rg [] [] ?_
      exact hW _ (Le.trans (Le.swap _ 47 400 rfl rfl) (Le.sub (by simp [AS.swap, swN]) (by simp [AS.swap, swN, tmObj])))
    by_cases k11 : k = 11
    · subst k11
      rw [if_pos (by omega)] at ho0
      subst ho0
      repeat (first | refine AWp.seq ?_ | refine AWp.block ?_)
      apply AWp.reg [] []
      · conv => lhs; simp
      · trivial
      repeat (first | refine AWp.seq ?_ | refine AWp.block ?_)
      apply AWp.reg [] []
      · conv => lhs; simp
      · trivial
      repeat (first | refine AWp.seq ?_ | refine AWp.block ?_)
      refine AWp.cond rfl (fun h => ?_) (fun h => ?_)
      · simp at h
      repeat (first | refine AWp.seq ?_ | refine AWp.block ?_)
      apply AWp.reg [] []
      · conv => lhs; simp
      · trivial
      repeat (first | refine AWp.seq ?_ | refine AWp.block ?_)
      refine AWp.cond rfl (fun h2 => ?_) (fun h2 => ?_)
      · simp at h2
      repeat (first | refine AWp.seq ?_ | refine AWp.block ?_)
      apply AWp.reg [] []
      · conv => lhs; simp
      · trivial
      repeat (first | refine AWp.seq ?_ | refine AWp.block ?_)
      refine AWp.cond rfl (fun h3 => ?_) (fun h3 => ?_)
      · simp at h3
      repeat (first | refine AWp.seq ?_ | refine AWp.block ?_)
      apply AWp.reg [] []
      · conv => lhs; simp
      · trivial
      repeat (first | refine AWp.seq ?_ | refine AWp.block ?_)
      refine AWp.cond rfl (fun h4 => ?_) (fun h4 => ?_)
      · simp at h4
      repeat (first | refine AWp.seq ?_ | refine AWp.block ?_)
      apply AWp.reg [] []
      · conv => lhs; simp
      · trivial
      repeat (first | refine AWp.seq ?_ | refine AWp.block ?_)
      refine AWp.cond rfl (fun h5 => ?_) (fun h5 => ?_)
      · simp at h5
      repeat (first | refine AWp.seq ?_ | refine AWp.block ?_)
      apply AWp.reg [] []
      · conv => lhs; simp
      · trivial
      repeat (first | refine AWp.seq ?_ | refine AWp.block ?_)
      refine AWp.cond rfl (fun h6 => ?_) (fun h6 => ?_)
      rotate_left
      · simp at h6
      refine AWp.rg [] [] ?_
      exact hW _ (Le.trans (Le.swap _ 47 400 rfl rfl) (Le.sub (by simp [AS.swap, swN]) (by simp [AS.swap, swN, tmObj])))
    rw [if_neg (by omega)] at ho0
    subst ho0
    repeat (first | refine AWp.seq ?_ | refine AWp.block ?_)
    apply AWp.reg [] []
    · conv => lhs; simp
    · trivial
    repeat (first | refine AWp.seq ?_ | refine AWp.block ?_)
    apply AWp.reg [] []
    · conv => lhs; simp [e1]
    · trivial
    refine AWp.cn ?_
    repeat (first | refine AWp.seq ?_ | refine AWp.block ?_)
    apply AWp.reg [] []
    · conv => lhs; simp [k6]
    · trivial
    refine AWp.cn ?_
    repeat (first | refine AWp.seq ?_ | refine AWp.block ?_)
    apply AWp.reg [] []
    · conv => lhs; simp [k8]
    · trivial
    refine AWp.cn ?_
    repeat (first | refine AWp.seq ?_ | refine AWp.block ?_)
    apply AWp.reg [] []
    · conv => lhs; simp [k9]
    · trivial
    repeat (first | refine AWp.seq ?_ | refine AWp.block ?_)
    refine AWp.cond rfl (fun h4 => ?_) (fun h4 => ?_)
    · cases h4
    repeat (first | refine AWp.seq ?_ | refine AWp.block ?_)
    apply AWp.reg [] []
    · conv => lhs; simp [k10]
    · trivial
    refine AWp.cn ?_
    repeat (first | refine AWp.seq ?_ | refine AWp.block ?_)
    apply AWp.reg [] []
    · conv => lhs; simp [k11]
    · trivial
    repeat (first | refine AWp.seq ?_ | refine AWp.block ?_)
    refine AWp.cond rfl (fun h6 => ?_) (fun h6 => ?_)
    · cases h6
    refine AWp.skip ?_
    exact hW _ (Le.low [400] [] (fr := [(1, .ptr 1 0), (3, .arr 400 0 0)]) (mem := [(1, tmObj k n a b vs xs cs), (400, some (.arr 9 1 []))]) rfl (by simp) (by simp [tmObj]))
  · repeat (first | refine AWp.seq ?_ | refine AWp.block ?_)
    apply AWp.reg [] []
    · conv => lhs; simp [tmObj]
    · trivial
    repeat (first | refine AWp.seq ?_ | refine AWp.block ?_)
    refine AWp.loop (σ := fun u : {i : Nat // i ≤ xs.length} => ⟨77, [(1, .ptr 1 0), (3, .arr 400 0 (Tm.frees o0 (xs.take u.1)).length), (49, .d (.sl (xs.map Tm.row))), (50, .d (.int xs.length)), (51, .d (.int u.1))], [(1, tmObj k n a b vs xs cs), (400, some (.arr 9 1 ((Tm.frees o0 (xs.take u.1)).map strR)))]⟩)
      (μ := fun u => xs.length - u.1) ⟨0, Nat.zero_le _⟩ (Le.sub (by simp [Tm.frees]) (by simp [Tm.frees, tmObj])) (fun ⟨i, hi⟩ => ?_)
    dsimp only
    have hL0 := Tm.frees_len (xs.take i) o0
    have hS : ∀ x, xs[i]? = some x → Tm.frees o0 (xs.take (i + 1)) = addN (Tm.frees o0 (xs.take i)) x.free := fun x => Tm.frees_snoc
    obtain ⟨L, hL⟩ : ∃ L, L = Tm.frees o0 (xs.take i) := ⟨_, rfl⟩
    rw [← hL] at hL0 hS ⊢
    repeat (first | refine AWp.seq ?_ | refine AWp.block ?_)
    apply AWp.reg [] []
    · conv => lhs; simp
    · trivial
    repeat (first | refine AWp.seq ?_ | refine AWp.block ?_)
    refine AWp.cond rfl (fun h => ?_) (fun h => ?_)
    · have hi1 : i < xs.length := by have := of_decide_eq_true h; omega
      have h1 : xs[i]? = some xs[i] := List.getElem?_eq_getElem hi1
      have hmem : xs[i] ∈ xs := List.getElem_mem hi1
      generalize xs[i] = x at h1 hmem
      have hx := ih x (by have := Tm.sz_arg (k := k) (n := n) (a := a) (b := b) (vs := vs) (cs := cs) hmem; omega) (hF.arg hmem)
      have lx := x.free_len
      have lt := Tm.szs_take h1
      have had := cs_add L x.free (by omega)
      have hS1 := hS x h1
      generalize x.free = fx at *
      obtain ⟨xk, xn, xa, xb, xv, xx, xc⟩ := x
      refine AWp.skip ?_
      refine AWp.rg [] [] ?_ (hr := by conv => lhs; simp [h1, Tm.row, Tm.rows_eq, Cs.rows_eq])
      repeat (first | refine AWp.seq ?_ | refine AWp.block ?_)
      apply AWp.reg [2] [.p (fun d => .arr d 0 fx.length) (some (.arr 9 1 (fx.map strR))), .c [(500, 400)] [.arr 500 0 L.length, strsAV fx] [(500, .arr 9 1 (L.map strR))] (.arr 500 0 (addN L fx).length) [(500, .arr 9 1 ((addN L fx).map strR))]]
      · conv => lhs; simp [tmAV, tmObj]
      · exact ⟨hx, had⟩
      refine AWp.rg [] [] ?_
      refine ⟨⟨i + 1, hi1⟩, by simp; omega, ?_⟩
      dsimp only
      rw [hS1]
      exact Le.sub (by simp) (by simp [tmObj])
    have hi1 : i = xs.length := by have := of_decide_eq_false h; omega
    subst hi1
    rw [List.take_length] at hL
    clear h hS
    refine AWp.exit ?_
    repeat (first | refine AWp.seq ?_ | refine AWp.block ?_)
    apply AWp.reg [] []
    · conv => lhs; simp [tmObj]
    · trivial
    repeat (first | refine AWp.seq ?_ | refine AWp.block ?_)
    refine AWp.loop (σ := fun u : {i : Nat // i ≤ cs.length} => ⟨77, [(1, .ptr 1 0), (3, .arr 400 0 (Cs.frees L (cs.take u.1)).length), (61, .d (.sl (cs.map Cs.row))), (62, .d (.int cs.length)), (63, .d (.int u.1))], [(1, tmObj k n a b vs xs cs), (400, some (.arr 9 1 ((Cs.frees L (cs.take u.1)).map strR)))]⟩)
      (μ := fun u => cs.length - u.1) ⟨0, Nat.zero_le _⟩ (Le.sub (by simp [Cs.frees]) (by simp [Cs.frees, tmObj])) (fun ⟨i, hi⟩ => ?_)
    dsimp only
    have hM0 := Cs.frees_len (cs.take i) L
    have hS : ∀ x, cs[i]? = some x → Cs.frees L (cs.take (i + 1)) = addN (Cs.frees L (cs.take i)) x.freeC := fun x => Cs.frees_snoc
    obtain ⟨M, hM⟩ : ∃ M, M = Cs.frees L (cs.take i) := ⟨_, rfl⟩
    rw [← hM] at hM0 hS ⊢
    have hlx : Tm.szs (xs.take xs.length) = Tm.szs xs := by rw [List.take_length]
    repeat (first | refine AWp.seq ?_ | refine AWp.block ?_)
    apply AWp.reg [] []
    · conv => lhs; simp
    · trivial
    repeat (first | refine AWp.seq ?_ | refine AWp.block ?_)
    refine AWp.cond rfl (fun h => ?_) (fun h => ?_)
    · have hi1 : i < cs.length := by have := of_decide_eq_true h; omega
      have h1 : cs[i]? = some cs[i] := List.getElem?_eq_getElem hi1
      have hmem : cs[i] ∈ cs := List.getElem_mem hi1
      generalize cs[i] = x at h1 hmem
      have lx := x.freeC_len
      have lt := Cs.szs_take h1
      have hS1 := hS x h1
      obtain ⟨g, ws, x⟩ := x
      obtain ⟨oc1, oc2⟩ := hF.case hmem
      have hx := ih x (by have := Tm.sz_case (k := k) (n := n) (a := a) (b := b) (vs := vs) (xs := xs) hmem; omega) oc1
      have lx2 := x.free_len
      have oc3 := oc1.sz
      have hwo := sp_without x.free ws (by omega) (by omega)
      simp only [Cs.freeC] at hS1 lx
      have had := cs_add M (woN x.free ws) (by omega)
      generalize woN x.free ws = fw at *
      generalize x.free = fx at *
      obtain ⟨xk, xn, xa, xb, xv, xx, xc⟩ := x
      refine AWp.skip ?_
      refine AWp.rg [] [] ?_ (hr := by conv => lhs; simp [h1, Cs.row, Tm.row, Tm.rows_eq, Cs.rows_eq])
      repeat (first | refine AWp.seq ?_ | refine AWp.block ?_)
      apply AWp.draw [3] [.p (fun d => .arr d 0 fx.length) (some (.arr 9 1 (fx.map strR))), .p (fun _ => strsAV fw) none, .c [(500, 400)] [.arr 500 0 M.length, strsAV fw] [(500, .arr 9 1 (M.map strR))] (.arr 500 0 (addN M fw).length) [(500, .arr 9 1 ((addN M fw).map strR))]] mixed
      · conv => lhs; simp [tmAV, tmObj]
      · kernel_rfl
      · exact ⟨hx, hwo, had⟩
      refine AWp.rg [] [] ?_
      refine ⟨⟨i + 1, hi1⟩, by simp; omega, ?_⟩
      dsimp only
      rw [hS1]
      exact Le.sub (by simp) (by simp [tmObj])
    have hi1 : i = cs.length := by have := of_decide_eq_false h; omega
    subst hi1
    rw [List.take_length, hL] at hM
    rw [← hM]
    refine AWp.exit ?_
    repeat (first | refine AWp.seq ?_ | refine AWp.block ?_)
    apply AWp.reg [] []
    · conv => lhs; simp
    · trivial
    refine AWp.ret ?_
    try dsimp only [thenQ, blockQ]
    apply endX.ret 400
    · conv => lhs; simp [resAV, Tryd.results77]
    · rfl
    · rfl
    · rfl
theorem sp_Free (t : Tm) (h : t.Fit) : PSpec Tryd.prog 77 [tmAV t] (fun d => .arr d 0 t.free.length) (some (.arr 9 1 (t.free.map strR))) := sp_Free_at _ t (Nat.lt_succ_self _) h
end Go.Proofs.YtapiiklnnkkdlaaDoor

namespace Go.Proofs.YtapiiklnnkkdlaaDoor
open Go.RowKit
attribute [local simp] runD mkRc ldOf stOf stOk ldArg noAny dstOk guardOk opEff opEff0 effOp pureOp callOp zEff evA constAV scalAV Value.oneCell' frGet memGet startAS frOf isGoCall idIn AS.after nextR opnIds objIds AV.ids idsL AObj.ids frNo memNo opnAny isAny mkVal rdCells wrCells fldAddr idxAddr srcRows litRows toD1 toDs setAt sliceAV optI partAV bldAV fillAV binAV binI AV.cells callEff calleeOf frKill memKill AV.kill AObj.kill AV.has AV.hasL Op.operands Call.operands keepF keepM viewIds cChk renOf moGet moWs moQ cEff moLike moHave AV.ren renL AObj.ren AObj.like kept startC moMem AV.frz frz1 frzL frSub memSub frzs AS.frz frFrz memFrz AObj.frz takeMap takeLen bleF Nat.ble_eq memAny objAny mapOp D.keyOk rowAV valRow extOp wrapOp phO
set_option linter.unusedVariables false
set_option linter.unusedSimpArgs false
end Go.Proofs.YtapiiklnnkkdlaaDoor

namespace Go.Proofs.YtapiiklnnkkdlaaDoor
open Go.RowKit
attribute [local simp] runD mkRc ldOf stOf stOk ldArg noAny dstOk guardOk opEff opEff0 effOp pureOp callOp zEff evA constAV scalAV Value.oneCell' frGet memGet startAS frOf isGoCall idIn AS.after nextR opnIds objIds AV.ids idsL AObj.ids frNo memNo opnAny isAny mkVal rdCells wrCells fldAddr idxAddr srcRows litRows toD1 toDs setAt sliceAV optI partAV bldAV fillAV binAV binI AV.cells callEff calleeOf frKill memKill AV.kill AObj.kill AV.has AV.hasL Op.operands Call.operands keepF keepM viewIds cChk renOf moGet moWs moQ cEff moLike moHave AV.ren renL AObj.ren AObj.like kept startC moMem AV.frz frz1 frzL frSub memSub frzs AS.frz frFrz memFrz AObj.frz takeMap takeLen bleF Nat.ble_eq memAny objAny mapOp D.keyOk rowAV valRow extOp wrapOp phO frLow memLow memLow1 objLow memEmpty Low LowL
set_option linter.unusedVariables false
set_option linter.unusedSimpArgs false
end Go.Proofs.YtapiiklnnkkdlaaDoor

namespace Go.Proofs.YtapiiklnnkkdlaaDoor
open Go.RowKit Go.Shelf
set_option linter.unusedVariables false
set_option linter.unusedSimpArgs false
attribute [local go_sem] Oper.semAt_some
def backF (l : List ByteArray) (j : Nat) : Int × ByteArray := (((l.length : Int) - 1 - j), l[l.length - 1 - j]?.getD .empty)
def backL (l : List ByteArray) (k : Nat) : List (Int × ByteArray) := (List.range k).map (backF l)
theorem backL_succ (l : List ByteArray) (k : Nat) : backL l (k + 1) = backL l k ++ [backF l k] := by simp [backL, List.range_succ]
theorem backL_len (l : List ByteArray) (k : Nat) : (backL l k).length = k := by simp [backL]
def KpB (n₀ Bs : Nat) (A B : World) : Prop := Below n₀ A B ∧ B.cell? ⟨Bs, 0, none⟩ = A.cell? ⟨Bs, 0, none⟩
theorem KpB.refl (n₀ Bs : Nat) (A : World) : KpB n₀ Bs A A := ⟨Below.refl _ _, rfl⟩
theorem KpB.trans {n₀ Bs : Nat} {A B C : World} (h : KpB n₀ Bs A B) (k : KpB n₀ Bs B C) : KpB n₀ Bs A C := ⟨h.1.trans k.1, k.2.trans h.2⟩
set_option maxRecDepth 100000 in
set_option maxHeartbeats 2000000 in
theorem back1_in (F : Fence) (n : Nat) (h7 : F.fn 166) (hro : F.round = none) (hn : 1 ≤ n) (lp Bs n₀ b off cap : Nat) (l : List ByteArray) (hreach : l.length ≤ 8796093022207) (hb : b < n₀) (J Jx : List (Int × ByteArray) → World → Prop)
    (hY : ∀ pre x W, J pre W → pre.length < l.length → YieldAt F (n - 1) Tryd.prog lp #[.int .i64 x.1, .string x.2] W fun e W' =>
      (e = .returned (.bool true) ∧ J (pre ++ [x]) W' ∧ KpB n₀ Bs W W') ∨ (e = .returned (.bool false) ∧ Jx (pre ++ [x]) W'))
    (W : World) (hBs : W.cell? ⟨Bs, 0, none⟩ = some (.slice (some ⟨b, off, none⟩) l.length cap)) (hc : ∀ j, j < l.length → W.cell? ⟨b, off + j, none⟩ = some (.string (l[j]?.getD .empty))) (h0 : J [] W) :
    CallsIn F n Tryd.prog 166 #[.func (.yield lp) #[] #[], .pointer (some ⟨Bs, 0, none⟩)] W fun e W' => (∃ v, e = .returned v) ∧
      ((∃ ys, ys = backL l l.length ∧ J ys W') ∨ (∃ pre, (∃ k, k ≤ l.length ∧ pre = backL l k) ∧ Jx pre W')) := by
  refine callsIn_of_wp Tryd.func166 rfl h7 ?_ hro
  simp only [Tryd.ntmps166, List.size_toArray, List.length_cons, List.length_nil, Nat.reduceAdd, Nat.reduceSub, Array.replicate_succ, Array.replicate_zero, List.push_toArray, List.append_toArray, List.nil_append, List.cons_append]
  gi_wp2
  gi_loopw [3] (fun i wr => ∃ k : Nat, k ≤ l.length ∧ i = .int .i64 ((l.length : Int) - 1 - k) ∧ J (backL l k) wr ∧ KpB n₀ Bs W wr)
    (fun i _ => (intOf i + 1).toNat)
  case atStart => exact ⟨0, Nat.zero_le _, by simp, h0, KpB.refl _ _ _⟩
  case round =>
    obtain ⟨k, hk, rfl, hJs, hnx⟩ := hrel
    have hcs : wr.cell? ⟨Bs, 0, none⟩ = some (.slice (some ⟨b, off, none⟩) l.length cap) := hnx.2.trans hBs
    by_cases hlt : k < l.length
    · have hcx : wr.cell? ⟨b, off + (l.length - 1 - k), none⟩ = some (.string (l[l.length - 1 - k]?.getD .empty)) := (hnx.1.cell (p := ⟨b, off + (l.length - 1 - k), none⟩) hb).trans (hc _ (by omega))
      obtain ⟨fn, tmps, assign, body, hy, hR⟩ := hY _ (backF l k) wr hJs (by rw [backL_len]; exact hlt)
      dsimp only [backF] at hy
      obtain ⟨q, hq⟩ : ∃ q, l.length = q + 1 + k := ⟨l.length - 1 - k, by omega⟩
      have hqi : (l.length : Int) - 1 - k = (q : Int) := by omega
      have hqn : l.length - 1 - k = q := by omega
      rw [hqi] at hy ⊢
      rw [hqn] at hy hcx
      have hql : q < l.length := by omega
      obtain ⟨s, hs⟩ : ∃ s, l[q]?.getD .empty = s := ⟨_, rfl⟩
      rw [hs] at hy hcx
      clear hq
      gi_wp2
      refine hR.mono ?_
      rintro e W3 (⟨rfl, hJ3, hk3⟩ | ⟨rfl, hJx3⟩)
      · gi_wp2
        go_roundw
        case rel => exact ⟨k + 1, by omega, by simp; omega, by rw [backL_succ]; exact hJ3, hnx.trans hk3⟩
        case measure => simp [intOf]
      · gi_wp2
        refine bodyPost_ret (results_none rfl _ _ _) rfl ?_
        exact ⟨⟨_, rfl⟩, .inr ⟨_, ⟨k + 1, by omega, (backL_succ _ _).symm⟩, hJx3⟩⟩
    · obtain rfl : k = l.length := by omega
      have hqi : (l.length : Int) - 1 - (l.length : Int) = -1 := by omega
      rw [hqi]
      gi_wp2
      go_end0
      exact ⟨⟨_, rfl⟩, .inl ⟨_, rfl, hJs⟩⟩
set_option maxRecDepth 100000 in
set_option maxHeartbeats 1000000 in
theorem back1_nil_in (F : Fence) (n : Nat) (h7 : F.fn 166) (hro : F.round = none) (lp Bs : Nat) (a : Option Addr) (cc : Nat) (J : List (Int × ByteArray) → World → Prop) (W : World) (hBs : W.cell? ⟨Bs, 0, none⟩ = some (.slice a 0 cc)) (h0 : J [] W) :
    CallsIn F n Tryd.prog 166 #[.func (.yield lp) #[] #[], .pointer (some ⟨Bs, 0, none⟩)] W fun e W' => (∃ v, e = .returned v) ∧ J [] W' := by
  refine callsIn_of_wp Tryd.func166 rfl h7 ?_ hro
  simp only [Tryd.ntmps166, List.size_toArray, List.length_cons, List.length_nil, Nat.reduceAdd, Nat.reduceSub, Array.replicate_succ, Array.replicate_zero, List.push_toArray, List.append_toArray, List.nil_append, List.cons_append]
  gi_wp2
  gi_loopw [3] (fun i wr => i = .int .i64 (-1) ∧ J [] wr) (fun _ _ => 0)
  case atStart => exact ⟨by simp, h0⟩
  case round =>
    obtain ⟨rfl, hJs⟩ := hrel
    gi_wp2
    go_end0
    exact ⟨⟨_, rfl⟩, hJs⟩
set_option maxHeartbeats 1000000 in
theorem back_in (F : Fence) (n : Nat) (h5 : F.fn 126) (hro : F.round = none) (a : Option Addr) (len cap : Nat) (w : World) :
    CallsIn F n Tryd.prog 126 #[.slice a len cap] w fun e w' => e = .returned (.func (.func 166) #[] #[.pointer (some ⟨w.heap.size, 0, none⟩)]) ∧ w' = w.alloc (.cells #[.slice a len cap] 30) := by
  refine callsIn_of_wp Tryd.func126 rfl h5 ?_ hro
  simp only [Tryd.ntmps126, List.size_toArray, List.length_cons, List.length_nil, Nat.reduceAdd, Nat.reduceSub, Array.replicate_succ, Array.replicate_zero, List.push_toArray, List.append_toArray, List.nil_append, List.cons_append]
  gi_wp2
  go_ret
  exact ⟨rfl, rfl⟩
def Strs (n₀ : Nat) (W : World) (sv : Value) (l : List ByteArray) : Prop :=
  (∃ a cc, sv = .slice a 0 cc ∧ l = []) ∨ ∃ b off cap, sv = .slice (some ⟨b, off, none⟩) l.length cap ∧ b < n₀ ∧ ∀ j, j < l.length → W.cell? ⟨b, off + j, none⟩ = some (.string (l[j]?.getD .empty))
theorem Strs.below {n₀ : Nat} {A B : World} (h : Below n₀ A B) {sv : Value} {l : List ByteArray} : Strs n₀ A sv l → Strs n₀ B sv l
  | .inl e => .inl e
  | .inr ⟨b, off, cap, e, hb, hc⟩ => .inr ⟨b, off, cap, e, hb, fun j hj => (h.cell (p := ⟨b, off + j, none⟩) hb).trans (hc j hj)⟩
theorem strs_of_rep {w : World} {ok : Nat → Prop} {l : List ByteArray} {v : Value} (h : Rep w ok (strsD l) v) {n₀ : Nat} (hok : ∀ b, ok b → b < n₀) : Strs n₀ w v l := by
  rw [strsD] at h
  generalize hr : l.map strR = rows at h
  cases h with
  | empty a cc ha hcc =>
    have : l = [] := by simpa using hr
    exact .inl ⟨a, cc, rfl, this⟩
  | sl rows size b o cc V hne hlen hcc hsz' hok' hcell hrep =>
    subst hr
    have hs1 : size = 1 := by
      rcases l with _ | ⟨x, l⟩
      · exact absurd rfl hne
      · exact (hsz' 0 (strR x) rfl).symm.trans rfl
    subst hs1
    refine .inr ⟨b, o, cc, by rw [List.length_map], hok _ hok', fun j hj => ?_⟩
    have h1 := hcell j 0 (by simpa using hj) (by omega)
    have h2 : l[j]? = some l[j] := List.getElem?_eq_getElem hj
    have h3 := hrep j 0 (strR l[j]) (.str l[j]) (by rw [List.getElem?_map, h2]; rfl) rfl
    rw [h2, Option.getD_some]
    simp only [Nat.mul_one, Nat.add_zero] at h1
    rw [h1, h3.str_inv.1]
theorem back_stops (F : Fence) (n : Nat) (h8 : F.fn 166) (hro : F.round = none) (hn : 1 ≤ n) (Bs n₀ : Nat) (sv : Value) (l : List ByteArray) (hreach : l.length ≤ 8796093022207) (w : World) (hBs : Bs < w.heap.size) (hn₀ : n₀ ≤ w.heap.size)
    (hc : w.cell? ⟨Bs, 0, none⟩ = some sv) (hI : Strs n₀ w sv l) :
    SeqStopsK F n Tryd.prog 166 #[.pointer (some ⟨Bs, 0, none⟩)] (fun x : Int × ByteArray => #[Value.int .i64 x.1, Value.string x.2]) (KpB n₀ Bs) (fun ys => ys = backL l l.length)
      (fun pre => ∃ k, k ≤ l.length ∧ pre = backL l k) l.length w := fun lp J Jx W hW _ _ hY h0 => by
  have hc' := (hW.cell (p := ⟨Bs, 0, none⟩) hBs).trans hc
  rcases hI.below (hW.mono hn₀) with ⟨a, cc, rfl, rfl⟩ | ⟨b, off, cap, rfl, hb, hcs⟩
  · exact (back1_nil_in F n h8 hro lp Bs a cc J W hc' h0).mono fun e W' ⟨he, hj⟩ => ⟨he, .inl ⟨_, rfl, hj⟩⟩
  · exact back1_in F n h8 hro hn lp Bs n₀ b off cap l hreach hb J Jx hY W hc' hcs h0
end Go.Proofs.YtapiiklnnkkdlaaDoor
