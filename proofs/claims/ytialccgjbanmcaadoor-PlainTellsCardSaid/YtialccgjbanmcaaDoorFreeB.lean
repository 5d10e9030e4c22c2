/- scope.Free, by the abstract machine. -/
import Derived.Test.YtialccgjbanmcaaDoorFreeA
namespace Go.Proofs.YtialccgjbanmcaaDoor
open Go.RowKit
attribute [local simp] runD mkRc ldOf ldArg noAny dstOk guardOk opEff opEff0 effOp pureOp callOp zEff evA constAV frGet memGet startAS frOf isGoCall idIn AS.after nextR opnIds objIds AV.ids idsL AObj.ids frNo memNo opnAny isAny mkVal rdCells wrCells fldAddr idxAddr srcRows litRows toD1 toDs setAt sliceAV optI partAV bldAV fillAV binAV binI AV.cells callEff calleeOf frKill memKill AV.kill AObj.kill AV.has AV.hasL Op.operands Call.operands keepF keepM viewIds cChk renOf moGet moWs moQ cEff moLike moHave AV.ren renL AObj.ren AObj.like kept startC moMem AV.frz frz1 frzL frSub memSub frzs AS.frz frFrz memFrz AObj.frz takeMap takeLen bleF Nat.ble_eq memAny objAny mapOp D.keyOk rowAV valRow extOp wrapOp phO frLow memLow memLow1 objLow memEmpty Low LowL
set_option linter.unusedVariables false
set_option linter.unusedSimpArgs false

/-- Several ways into one state. -/
theorem AWp.seqJ {P : Program} {Q : Exit → AS → Prop} {s : AS} {x y : Code} (s0 : AS) (h2 : AWp P y Q s0) (h1 : ∀ W : AS → Prop, (∀ s', Le s' s0 → W s') → AWp P x (thenQ W Q) s) : AWp P (.seq x y) Q s :=
  AWp.seq (h1 _ fun _ hl => AWp.le hl h2)

abbrev tmCells (k n : Int) (a b : ByteArray) (vs : List ByteArray) (xs : List Tm) (cs : List Cs) : List AV :=
  [.d (.int k), .d (.int n), .d (.str a), .d (.str b), .d (strsD vs), .d (.sl (xs.map Tm.row)), .d (.sl (cs.map Cs.row))]
def tmObj (k n : Int) (a b : ByteArray) (vs : List ByteArray) (xs : List Tm) (cs : List Cs) : Option AObj := some (.blk 32 (tmCells k n a b vs xs cs))
def strsO (l : List ByteArray) : AObj := .arr 9 1 (l.map strR)

/-- A term of not too many. -/
structure Tm.Fit (t : Tm) : Prop where
  ok : t.Ok
  sz : t.sz ≤ 1048576
theorem Tm.Fit.arg {k n : Int} {a b : ByteArray} {vs : List ByteArray} {xs : List Tm} {cs : List Cs} (h : (Tm.mk k n a b vs xs cs).Fit) {x : Tm} (hx : x ∈ xs) : x.Fit :=
  ⟨h.ok.arg hx, by have := Tm.sz_arg (k := k) (n := n) (a := a) (b := b) (vs := vs) (cs := cs) hx; have := h.sz; omega⟩
theorem Tm.Fit.case {k n : Int} {a b : ByteArray} {vs : List ByteArray} {xs : List Tm} {cs : List Cs} (h : (Tm.mk k n a b vs xs cs).Fit) {t : Int} {ws : List ByteArray} {x : Tm} (hx : Cs.mk t ws x ∈ cs) : x.Fit ∧ ws.length ≤ 8796093022207 :=
  ⟨⟨(h.ok.case hx).body.1, by have := Tm.sz_case (k := k) (n := n) (a := a) (b := b) (vs := vs) (xs := xs) hx; have := h.sz; omega⟩, (h.ok.case hx).body.2⟩
theorem sz_all {k n : Int} {a b : ByteArray} {vs : List ByteArray} {xs : List Tm} {cs : List Cs} (h : (Tm.mk k n a b vs xs cs).Fit) : 1 + Tm.szs xs + Cs.szs cs ≤ 1048576 := by
  have := h.sz
  simpa only [Tm.sz] using this

set_option maxRecDepth 20000 in
set_option maxHeartbeats 8000000 in
theorem sp_Free_at : ∀ (N : Nat) (t : Tm), t.sz < N → t.Fit → PSpec Tryd.prog 69 [tmAV t] (fun d => .arr d 0 t.free.length) (some (.arr 9 1 (t.free.map strR))) := by
  intro N
  induction N with
  | zero => intro s h; omega
  | succ N ih =>
  intro t hN hF
  have hO := hF.ok
  obtain ⟨k, n, a, b, vs, xs, cs⟩ := t
  obtain ⟨o1, o2, o3, o4, o5⟩ := hO.vars
  have hsz := sz_all hF
  refine PSpec.ofArrX Tryd.func69 rfl rfl _ (Nat.le_of_ble_eq_true rfl) (fun d => by simp [AV.has, AV.hasL]) ?_
  show AWp _ _ (endX _ Tryd.f69 _ _) (startAS 77 _)
  repeat (first | refine AWp.seq ?_ | refine AWp.block ?_)
  apply AWp.reg [] []
  · conv => lhs; simp
  · trivial
  repeat (first | refine AWp.seq ?_ | refine AWp.block ?_)
  apply AWp.reg [] []
  · conv => lhs; simp
  · trivial
  by_cases e1 : k = 1
  · subst e1
    have hf : (Tm.mk 1 n a b vs xs cs).free = [a] := by simp [Tm.free]
    rw [hf]
    repeat (first | refine AWp.seq ?_ | refine AWp.block ?_)
    apply AWp.reg [] []
    · conv => lhs; simp
    · trivial
    repeat (first | refine AWp.seq ?_ | refine AWp.block ?_)
    apply AWp.reg [] []
    · conv => lhs; simp
    · trivial
    repeat (first | refine AWp.seq ?_ | refine AWp.block ?_)
    refine AWp.cond rfl (fun h => ?_) (fun h => ?_)
    · repeat (first | refine AWp.seq ?_ | refine AWp.block ?_)
      apply AWp.reg [] []
      · conv => lhs; simp
      · first | trivial | omega | (simp [inI, maxLen]; done) | (simp [inI, maxLen]; omega)
      refine AWp.ret ?_
      try dsimp only [thenQ, blockQ]
      apply endX.ret 14
      · conv => lhs; simp [resAV, Tryd.results69]
      · rfl
      · rfl
      · rfl
    · simp at h
  by_cases e6 : k = 6 ∧ xs.length = 2
  · obtain ⟨e6, e7⟩ := e6
    subst e6
    match xs, e7 with
    | [x, y], _ =>
    have hf : (Tm.mk 6 n a b vs [x, y] cs).free = addN x.free (woN y.free [a]) := by
      simp [Tm.free, Tm.freeL, Tm.freeB, addN_nil x.free_nodup]
    rw [hf]
    have hx := ih x (by have := Tm.sz_arg (k := 6) (n := n) (a := a) (b := b) (vs := vs) (cs := cs) (x := x) (xs := [x, y]) (by simp); omega) (hF.arg (by simp))
    have hy := ih y (by have := Tm.sz_arg (k := 6) (n := n) (a := a) (b := b) (vs := vs) (cs := cs) (x := y) (xs := [x, y]) (by simp); omega) (hF.arg (by simp))
    have lx := x.free_len
    have ly := y.free_len
    simp only [Tm.szs] at hsz
    have hwo := sp_without y.free [a] (by omega) (by simp)
    have lw := woN_len y.free [a]
    have had := cs_add x.free (woN y.free [a]) (by omega)
    generalize x.free = fx at *
    generalize woN y.free [a] = fw at *
    generalize y.free = fy at *
    obtain ⟨xk, xn, xa, xb, xv, xx, xc⟩ := x
    obtain ⟨yk, yn, ya, yb, yv, yx, yc⟩ := y
    repeat (first | refine AWp.seq ?_ | refine AWp.block ?_)
    apply AWp.reg [] []
    · conv => lhs; simp
    · trivial
    repeat (first | refine AWp.seq ?_ | refine AWp.block ?_)
    apply AWp.reg [] []
    · conv => lhs; simp
    · trivial
    repeat (first | refine AWp.seq ?_ | refine AWp.block ?_)
    refine AWp.cond rfl (fun h => ?_) (fun h => ?_)
    · simp at h
    repeat (first | refine AWp.seq ?_ | refine AWp.block ?_)
    apply AWp.reg [] []
    · conv => lhs; simp
    · trivial
    repeat (first | refine AWp.seq ?_ | refine AWp.block ?_)
    refine AWp.cond rfl (fun h2 => ?_) (fun h2 => ?_)
    rotate_left
    · simp at h2
    repeat (first | refine AWp.seq ?_ | refine AWp.block ?_)
    apply AWp.reg [] []
    · conv => lhs; simp
    · trivial
    repeat (first | refine AWp.seq ?_ | refine AWp.block ?_)
    refine AWp.cond rfl (fun h3 => ?_) (fun h3 => ?_)
    rotate_left
    · simp at h3
    repeat (first | refine AWp.seq ?_ | refine AWp.block ?_)
    apply AWp.draw [9, 12] [.p (fun d => .arr d 0 fx.length) (some (.arr 9 1 (fx.map strR))), .p (fun d => .arr d 0 fy.length) (some (.arr 9 1 (fy.map strR))), .p (fun _ => strsAV fw) none, .c [(500, 25)] [.arr 500 0 fx.length, strsAV fw] [(500, .arr 9 1 (fx.map strR))] (.arr 500 0 (addN fx fw).length) [(500, .arr 9 1 ((addN fx fw).map strR))]] mixed
    · conv => lhs; simp [Tm.row, Tm.rows_eq, Cs.rows_eq, tmAV]
    · kernel_rfl
    · exact ⟨hx, hy, hwo, had⟩
    refine AWp.ret ?_
    try dsimp only [thenQ, blockQ]
    apply endX.ret 25
    · conv => lhs; simp [resAV, Tryd.results69]
    · rfl
    · rfl
    · rfl
  obtain ⟨o0, ho0⟩ : ∃ o0, o0 = if 8 ≤ k ∧ k ≤ 11 then [a] else [] := ⟨_, rfl⟩
  have hf : (Tm.mk k n a b vs xs cs).free = Cs.frees (Tm.frees o0 xs) cs := by simp only [Tm.free, if_neg e1, if_neg e6, ho0]
  have hl0 : o0.length ≤ 1 := by rw [ho0]; split <;> simp
  rw [hf]
  refine AWp.seqJ ⟨77, [(1, .ptr 1 0), (3, .arr 400 0 o0.length)], [(1, tmObj k n a b vs xs cs), (400, some (.arr 9 1 (o0.map strR)))]⟩ ?_ (fun W hW => ?_)
  rotate_left
  · by_cases k6 : k = 6
    · subst k6
      have h7 : ¬ (xs.length : Int) = 2 := fun h => e6 ⟨rfl, by omega⟩
      rw [if_neg (by omega)] at ho0
      subst ho0
      repeat (first | refine AWp.seq ?_ | refine AWp.block ?_)
      apply AWp.reg [] []
      · conv => lhs; simp
      · trivial
      repeat (first | refine AWp.seq ?_ | refine AWp.block ?_)
      apply AWp.reg [] []
      · conv => lhs; simp
      · trivial
      repeat (first | refine AWp.seq ?_ | refine AWp.block ?_)
      refine AWp.cond rfl (fun h => ?_) (fun h => ?_)
      · simp at h
      repeat (first | refine AWp.seq ?_ | refine AWp.block ?_)
      apply AWp.reg [] []
      · conv => lhs; simp
      · trivial
      repeat (first | refine AWp.seq ?_ | refine AWp.block ?_)
      refine AWp.cond rfl (fun h2 => ?_) (fun h2 => ?_)
      rotate_left
      · simp at h2
      repeat (first | refine AWp.seq ?_ | refine AWp.block ?_)
      apply AWp.reg [] []
      · conv => lhs; simp [h7]
      · trivial
      repeat (first | refine AWp.seq ?_ | refine AWp.block ?_)
      refine AWp.cond rfl (fun h3 => ?_) (fun h3 => ?_)
      · simp at h3
      refine AWp.skip ?_
      exact hW _ (Le.low [400] [] (fr := [(1, .ptr 1 0), (3, .arr 400 0 0)]) (mem := [(1, tmObj 6 n a b vs xs cs), (400, some (.arr 9 1 []))]) rfl (by simp) (by simp [tmObj]))
    by_cases k8 : k = 8
    · subst k8
      rw [if_pos (by omega)] at ho0
      subst ho0
      repeat (first | refine AWp.seq ?_ | refine AWp.block ?_)
      apply AWp.reg [] []
      · conv => lhs; simp
      · trivial
      repeat (first | refine AWp.seq ?_ | refine AWp.block ?_)
      apply AWp.reg [] []
      · conv => lhs; simp
      · trivial
      repeat (first | refine AWp.seq ?_ | refine AWp.block ?_)
      refine AWp.cond rfl (fun h => ?_) (fun h => ?_)
      · simp at h
      repeat (first | refine AWp.seq ?_ | refine AWp.block ?_)
      apply AWp.reg [] []
      · conv => lhs; simp
      · trivial
      repeat (first | refine AWp.seq ?_ | refine AWp.block ?_)
      refine AWp.cond rfl (fun h2 => ?_) (fun h2 => ?_)
      · simp at h2
      repeat (first | refine AWp.seq ?_ | refine AWp.block ?_)
      apply AWp.reg [] []
      · conv => lhs; simp
      · trivial
      repeat (first | refine AWp.seq ?_ | refine AWp.block ?_)
      refine AWp.cond rfl (fun h3 => ?_) (fun h3 => ?_)
      rotate_left
      · simp at h3
      refine AWp.skip ?_
      repeat (first | refine AWp.seq ?_ | refine AWp.block ?_)
      refine AWp.cond rfl (fun h4 => ?_) (fun h4 => ?_)
      rotate_left
      · simp at h4
      repeat (first | refine AWp.seq ?_ | refine AWp.block ?_)
      apply AWp.reg [] []
      · conv => lhs; simp
      · first | trivial | omega | (simp [inI, maxLen]; done) | (simp [inI, maxLen]; omega)
      exact hW _ (Le.trans (Le.swap _ 41 400 rfl rfl) (Le.sub (by simp [AS.swap, swN]) (by simp [AS.swap, swN, tmObj])))
    by_cases k9 : k = 9
    · subst k9
      rw [if_pos (by omega)] at ho0
      subst ho0
      repeat (first | refine AWp.seq ?_ | refine AWp.block ?_)
      apply AWp.reg [] []
      · conv => lhs; simp
      · trivial
      repeat (first | refine AWp.seq ?_ | refine AWp.block ?_)
      apply AWp.reg [] []
      · conv => lhs; simp
      · trivial
      repeat (first | refine AWp.seq ?_ | refine AWp.block ?_)
      refine AWp.cond rfl (fun h => ?_) (fun h => ?_)
      · simp at h
      repeat (first | refine AWp.seq ?_ | refine AWp.block ?_)
      apply AWp.reg [] []
      · conv => lhs; simp
      · trivial
      repeat (first | refine AWp.seq ?_ | refine AWp.block ?_)
      refine AWp.cond rfl (fun h2 => ?_) (fun h2 => ?_)
      · simp at h2
      repeat (first | refine AWp.seq ?_ | refine AWp.block ?_)
      apply AWp.reg [] []
      · conv => lhs; simp
      · trivial
      repeat (first | refine AWp.seq ?_ | refine AWp.block ?_)
      refine AWp.cond rfl (fun h3 => ?_) (fun h3 => ?_)
      · simp at h3
      repeat (first | refine AWp.seq ?_ | refine AWp.block ?_)
      apply AWp.reg [] []
      · conv => lhs; simp
      · trivial
      repeat (first | refine AWp.seq ?_ | refine AWp.block ?_)
      refine AWp.cond rfl (fun h4 => ?_) (fun h4 => ?_)
      rotate_left
      · simp at h4
      repeat (first | refine AWp.seq ?_ | refine AWp.block ?_)
      apply AWp.reg [] []
      · conv => lhs; simp
      · first | trivial | omega | (simp [inI, maxLen]; done) | (simp [inI, maxLen]; omega)
      exact hW _ (Le.trans (Le.swap _ 41 400 rfl rfl) (Le.sub (by simp [AS.swap, swN]) (by simp [AS.swap, swN, tmObj])))
    by_cases k10 : k = 10
    · subst k10
      rw [if_pos (by omega)] at ho0
      subst ho0
      repeat (first | refine AWp.seq ?_ | refine AWp.block ?_)
      apply AWp.reg [] []
      · conv => lhs; simp
      · trivial
      repeat (first | refine AWp.seq ?_ | refine AWp.block ?_)
      apply AWp.reg [] []
      · conv => lhs; simp
      · trivial
      repeat (first | refine AWp.seq ?_ | refine AWp.block ?_)
      refine AWp.cond rfl (fun h => ?_) (fun h => ?_)
      · simp at h
      repeat (first | refine AWp.seq ?_ | refine AWp.block ?_)
      apply AWp.reg [] []
      · conv => lhs; simp
      · trivial
      repeat (first | refine AWp.seq ?_ | refine AWp.block ?_)
      refine AWp.cond rfl (fun h2 => ?_) (fun h2 => ?_)
      · simp at h2
      repeat (first | refine AWp.seq ?_ | refine AWp.block ?_)
      apply AWp.reg [] []
      · conv => lhs; simp
      · trivial
      repeat (first | refine AWp.seq ?_ | refine AWp.block ?_)
      refine AWp.cond rfl (fun h3 => ?_) (fun h3 => ?_)
      · simp at h3
      repeat (first | refine AWp.seq ?_ | refine AWp.block ?_)
      apply AWp.reg [] []
      · conv => lhs; simp
      · trivial
      repeat (first | refine AWp.seq ?_ | refine AWp.block ?_)
      refine AWp.cond rfl (fun h4 => ?_) (fun h4 => ?_)
      · simp at h4
      repeat (first | refine AWp.seq ?_ | refine AWp.block ?_)
      apply AWp.reg [] []
      · conv => lhs; simp
      · trivial
      repeat (first | refine AWp.seq ?_ | refine AWp.block ?_)
      refine AWp.cond rfl (fun h5 => ?_) (fun h5 => ?_)
      rotate_left
      · simp at h5
      refine AWp.skip ?_
      repeat (first | refine AWp.seq ?_ | refine AWp.block ?_)
      refine AWp.cond rfl (fun h6 => ?_) (fun h6 => ?_)
      rotate_left
      · simp at h6
      repeat (first | refine AWp.seq ?_ | refine AWp.block ?_)
      apply AWp.reg [] []
      · conv => lhs; simp
      · first | trivial | omega | (simp [inI, maxLen]; done) | (simp [inI, maxLen]; omega)
      exact hW _ (Le.trans (Le.swap _ 47 400 rfl rfl) (Le.sub (by simp [AS.swap, swN]) (by simp [AS.swap, swN, tmObj])))
    by_cases k11 : k = 11
    · subst k11
      rw [if_pos (by omega)] at ho0
      subst ho0
      repeat (first | refine AWp.seq ?_ | refine AWp.block ?_)
      apply AWp.reg [] []
      · conv => lhs; simp
      · trivial
      repeat (first | refine AWp.seq ?_ | refine AWp.block ?_)
      apply AWp.reg [] []
      · conv => lhs; simp
      · trivial
      repeat (first | refine AWp.seq ?_ | refine AWp.block ?_)
      refine AWp.cond rfl (fun h => ?_) (fun h => ?_)
      · simp at h
      repeat (first | refine AWp.seq ?_ | refine AWp.block ?_)
      apply AWp.reg [] []
      · conv => lhs; simp
      · trivial
      repeat (first | refine AWp.seq ?_ | refine AWp.block ?_)
      refine AWp.cond rfl (fun h2 => ?_) (fun h2 => ?_)
      · simp at h2
      repeat (first | refine AWp.seq ?_ | refine AWp.block ?_)
      apply AWp.reg [] []
      · conv => lhs; simp
      · trivial
      repeat (first | refine AWp.seq ?_ | refine AWp.block ?_)
      refine AWp.cond rfl (fun h3 => ?_) (fun h3 => ?_)
      · simp at h3
      repeat (first | refine AWp.seq ?_ | refine AWp.block ?_)
      apply AWp.reg [] []
      · conv => lhs; simp
      · trivial
      repeat (first | refine AWp.seq ?_ | refine AWp.block ?_)
      refine AWp.cond rfl (fun h4 => ?_) (fun h4 => ?_)
      · simp at h4
      repeat (first | refine AWp.seq ?_ | refine AWp.block ?_)
      apply AWp.reg [] []
      · conv => lhs; simp
      · trivial
      repeat (first | refine AWp.seq ?_ | refine AWp.block ?_)
      refine AWp.cond rfl (fun h5 => ?_) (fun h5 => ?_)
      · simp at h5
      repeat (first | refine AWp.seq ?_ | refine AWp.block ?_)
      apply AWp.reg [] []
      · conv => lhs; simp
      · trivial
      repeat (first | refine AWp.seq ?_ | refine AWp.block ?_)
      refine AWp.cond rfl (fun h6 => ?_) (fun h6 => ?_)
      rotate_left
      · simp at h6
      repeat (first | refine AWp.seq ?_ | refine AWp.block ?_)
      apply AWp.reg [] []
      · conv => lhs; simp
      · first | trivial | omega | (simp [inI, maxLen]; done) | (simp [inI, maxLen]; omega)
      exact hW _ (Le.trans (Le.swap _ 47 400 rfl rfl) (Le.sub (by simp [AS.swap, swN]) (by simp [AS.swap, swN, tmObj])))
    rw [if_neg (by omega)] at ho0
    subst ho0
    repeat (first | refine AWp.seq ?_ | refine AWp.block ?_)
    apply AWp.reg [] []
    · conv => lhs; simp
    · trivial
    repeat (first | refine AWp.seq ?_ | refine AWp.block ?_)
    apply AWp.reg [] []
    · conv => lhs; simp [e1]
    · trivial
    repeat (first | refine AWp.seq ?_ | refine AWp.block ?_)
    refine AWp.cond rfl (fun h => ?_) (fun h => ?_)
    · cases h
    repeat (first | refine AWp.seq ?_ | refine AWp.block ?_)
    apply AWp.reg [] []
    · conv => lhs; simp [k6]
    · trivial
    repeat (first | refine AWp.seq ?_ | refine AWp.block ?_)
    refine AWp.cond rfl (fun h2 => ?_) (fun h2 => ?_)
    · cases h2
    repeat (first | refine AWp.seq ?_ | refine AWp.block ?_)
    apply AWp.reg [] []
    · conv => lhs; simp [k8]
    · trivial
    repeat (first | refine AWp.seq ?_ | refine AWp.block ?_)
    refine AWp.cond rfl (fun h3 => ?_) (fun h3 => ?_)
    · cases h3
    repeat (first | refine AWp.seq ?_ | refine AWp.block ?_)
    apply AWp.reg [] []
    · conv => lhs; simp [k9]
    · trivial
    repeat (first | refine AWp.seq ?_ | refine AWp.block ?_)
    refine AWp.cond rfl (fun h4 => ?_) (fun h4 => ?_)
    · cases h4
    repeat (first | refine AWp.seq ?_ | refine AWp.block ?_)
    apply AWp.reg [] []
    · conv => lhs; simp [k10]
    · trivial
    repeat (first | refine AWp.seq ?_ | refine AWp.block ?_)
    refine AWp.cond rfl (fun h5 => ?_) (fun h5 => ?_)
    · cases h5
    repeat (first | refine AWp.seq ?_ | refine AWp.block ?_)
    apply AWp.reg [] []
    · conv => lhs; simp [k11]
    · trivial
    repeat (first | refine AWp.seq ?_ | refine AWp.block ?_)
    refine AWp.cond rfl (fun h6 => ?_) (fun h6 => ?_)
    · cases h6
    refine AWp.skip ?_
    exact hW _ (Le.low [400] [] (fr := [(1, .ptr 1 0), (3, .arr 400 0 0)]) (mem := [(1, tmObj k n a b vs xs cs), (400, some (.arr 9 1 []))]) rfl (by simp) (by simp [tmObj]))
  · repeat (first | refine AWp.seq ?_ | refine AWp.block ?_)
    apply AWp.reg [] []
    · conv => lhs; simp [tmObj]
    · trivial
    repeat (first | refine AWp.seq ?_ | refine AWp.block ?_)
    refine AWp.loop (σ := fun u : {i : Nat // i ≤ xs.length} => ⟨77, [(1, .ptr 1 0), (3, .arr 400 0 (Tm.frees o0 (xs.take u.1)).length), (49, .d (.sl (xs.map Tm.row))), (50, .d (.int xs.length)), (51, .d (.int u.1))], [(1, tmObj k n a b vs xs cs), (400, some (.arr 9 1 ((Tm.frees o0 (xs.take u.1)).map strR)))]⟩)
      (μ := fun u => xs.length - u.1) ⟨0, Nat.zero_le _⟩ (Le.sub (by simp [Tm.frees]) (by simp [Tm.frees, tmObj])) (fun ⟨i, hi⟩ => ?_)
    dsimp only
    have hL0 := Tm.frees_len (xs.take i) o0
    have hS : ∀ x, xs[i]? = some x → Tm.frees o0 (xs.take (i + 1)) = addN (Tm.frees o0 (xs.take i)) x.free := fun x => Tm.frees_snoc
    obtain ⟨L, hL⟩ : ∃ L, L = Tm.frees o0 (xs.take i) := ⟨_, rfl⟩
    rw [← hL] at hL0 hS ⊢
    repeat (first | refine AWp.seq ?_ | refine AWp.block ?_)
    apply AWp.reg [] []
    · conv => lhs; simp
    · trivial
    repeat (first | refine AWp.seq ?_ | refine AWp.block ?_)
    refine AWp.cond rfl (fun h => ?_) (fun h => ?_)
    · have hi1 : i < xs.length := by have := of_decide_eq_true h; omega
      have h1 : xs[i]? = some xs[i] := List.getElem?_eq_getElem hi1
      have hmem : xs[i] ∈ xs := List.getElem_mem hi1
      generalize xs[i] = x at h1 hmem
      have hx := ih x (by have := Tm.sz_arg (k := k) (n := n) (a := a) (b := b) (vs := vs) (cs := cs) hmem; omega) (hF.arg hmem)
      have lx := x.free_len
      have lt := Tm.szs_take h1
      have had := cs_add L x.free (by omega)
      have hS1 := hS x h1
      generalize x.free = fx at *
      obtain ⟨xk, xn, xa, xb, xv, xx, xc⟩ := x
      refine AWp.skip ?_
      repeat (first | refine AWp.seq ?_ | refine AWp.block ?_)
      apply AWp.reg [] []
      · conv => lhs; simp [h1, Tm.row, Tm.rows_eq, Cs.rows_eq]
      · first | trivial | omega | (simp [inI, maxLen]; done) | (simp [inI, maxLen]; omega)
      repeat (first | refine AWp.seq ?_ | refine AWp.block ?_)
      apply AWp.reg [2] [.p (fun d => .arr d 0 fx.length) (some (.arr 9 1 (fx.map strR))), .c [(500, 400)] [.arr 500 0 L.length, strsAV fx] [(500, .arr 9 1 (L.map strR))] (.arr 500 0 (addN L fx).length) [(500, .arr 9 1 ((addN L fx).map strR))]]
      · conv => lhs; simp [tmAV, tmObj]
      · exact ⟨hx, had⟩
      repeat (first | refine AWp.seq ?_ | refine AWp.block ?_)
      apply AWp.reg [] []
      · conv => lhs; simp
      · first | trivial | omega | (simp [inI, maxLen]; done) | (simp [inI, maxLen]; omega)
      refine ⟨⟨i + 1, hi1⟩, by simp; omega, ?_⟩
      dsimp only
      rw [hS1]
      exact Le.sub (by simp) (by simp [tmObj])
    have hi1 : i = xs.length := by have := of_decide_eq_false h; omega
    subst hi1
    rw [List.take_length] at hL
    clear h hS
    refine AWp.exit ?_
    repeat (first | refine AWp.seq ?_ | refine AWp.block ?_)
    apply AWp.reg [] []
    · conv => lhs; simp [tmObj]
    · trivial
    repeat (first | refine AWp.seq ?_ | refine AWp.block ?_)
    refine AWp.loop (σ := fun u : {i : Nat // i ≤ cs.length} => ⟨77, [(1, .ptr 1 0), (3, .arr 400 0 (Cs.frees L (cs.take u.1)).length), (61, .d (.sl (cs.map Cs.row))), (62, .d (.int cs.length)), (63, .d (.int u.1))], [(1, tmObj k n a b vs xs cs), (400, some (.arr 9 1 ((Cs.frees L (cs.take u.1)).map strR)))]⟩)
      (μ := fun u => cs.length - u.1) ⟨0, Nat.zero_le _⟩ (Le.sub (by simp [Cs.frees]) (by simp [Cs.frees, tmObj])) (fun ⟨i, hi⟩ => ?_)
    dsimp only
    have hM0 := Cs.frees_len (cs.take i) L
    have hS : ∀ x, cs[i]? = some x → Cs.frees L (cs.take (i + 1)) = addN (Cs.frees L (cs.take i)) x.freeC := fun x => Cs.frees_snoc
    obtain ⟨M, hM⟩ : ∃ M, M = Cs.frees L (cs.take i) := ⟨_, rfl⟩
    rw [← hM] at hM0 hS ⊢
    have hlx : Tm.szs (xs.take xs.length) = Tm.szs xs := by rw [List.take_length]
    repeat (first | refine AWp.seq ?_ | refine AWp.block ?_)
    apply AWp.reg [] []
    · conv => lhs; simp
    · trivial
    repeat (first | refine AWp.seq ?_ | refine AWp.block ?_)
    refine AWp.cond rfl (fun h => ?_) (fun h => ?_)
    · have hi1 : i < cs.length := by have := of_decide_eq_true h; omega
      have h1 : cs[i]? = some cs[i] := List.getElem?_eq_getElem hi1
      have hmem : cs[i] ∈ cs := List.getElem_mem hi1
      generalize cs[i] = x at h1 hmem
      have lx := x.freeC_len
      have lt := Cs.szs_take h1
      have hS1 := hS x h1
      obtain ⟨g, ws, x⟩ := x
      obtain ⟨oc1, oc2⟩ := hF.case hmem
      have hx := ih x (by have := Tm.sz_case (k := k) (n := n) (a := a) (b := b) (vs := vs) (xs := xs) hmem; omega) oc1
      have lx2 := x.free_len
      have oc3 := oc1.sz
      have hwo := sp_without x.free ws (by omega) (by omega)
      simp only [Cs.freeC] at hS1 lx
      have had := cs_add M (woN x.free ws) (by omega)
      generalize woN x.free ws = fw at *
      generalize x.free = fx at *
      obtain ⟨xk, xn, xa, xb, xv, xx, xc⟩ := x
      refine AWp.skip ?_
      repeat (first | refine AWp.seq ?_ | refine AWp.block ?_)
      apply AWp.reg [] []
      · conv => lhs; simp [h1, Cs.row, Tm.row, Tm.rows_eq, Cs.rows_eq]
      · first | trivial | omega | (simp [inI, maxLen]; done) | (simp [inI, maxLen]; omega)
      repeat (first | refine AWp.seq ?_ | refine AWp.block ?_)
      apply AWp.draw [3] [.p (fun d => .arr d 0 fx.length) (some (.arr 9 1 (fx.map strR))), .p (fun _ => strsAV fw) none, .c [(500, 400)] [.arr 500 0 M.length, strsAV fw] [(500, .arr 9 1 (M.map strR))] (.arr 500 0 (addN M fw).length) [(500, .arr 9 1 ((addN M fw).map strR))]] mixed
      · conv => lhs; simp [tmAV, tmObj]
      · kernel_rfl
      · exact ⟨hx, hwo, had⟩
      repeat (first | refine AWp.seq ?_ | refine AWp.block ?_)
      apply AWp.reg [] []
      · conv => lhs; simp
      · first | trivial | omega | (simp [inI, maxLen]; done) | (simp [inI, maxLen]; omega)
      refine ⟨⟨i + 1, hi1⟩, by simp; omega, ?_⟩
      dsimp only
      rw [hS1]
      exact Le.sub (by simp) (by simp [tmObj])
    have hi1 : i = cs.length := by have := of_decide_eq_false h; omega
    subst hi1
    rw [List.take_length, hL] at hM
    rw [← hM]
    refine AWp.exit ?_
    repeat (first | refine AWp.seq ?_ | refine AWp.block ?_)
    apply AWp.reg [] []
    · conv => lhs; simp
    · trivial
    refine AWp.ret ?_
    try dsimp only [thenQ, blockQ]
    apply endX.ret 400
    · conv => lhs; simp [resAV, Tryd.results69]
    · rfl
    · rfl
    · rfl

theorem sp_Free (t : Tm) (h : t.Fit) : PSpec Tryd.prog 69 [tmAV t] (fun d => .arr d 0 t.free.length) (some (.arr 9 1 (t.free.map strR))) := sp_Free_at _ t (Nat.lt_succ_self _) h
end Go.Proofs.YtialccgjbanmcaaDoor
