import Derived.Test.YtapiiklnnkkdlaaDoorFreeC
/- xcref1.Free, by the abstract machine. -/
namespace Go.Proofs.YtapiiklnnkkdlaaDoor
open Go.RowKit
attribute [local simp] runD mkRc ldOf stOf stOk ldArg noAny dstOk guardOk opEff opEff0 effOp pureOp callOp zEff evA constAV scalAV Value.oneCell' frGet memGet startAS frOf isGoCall idIn AS.after nextR opnIds objIds AV.ids idsL AObj.ids frNo memNo opnAny isAny mkVal rdCells wrCells fldAddr idxAddr srcRows litRows toD1 toDs setAt sliceAV optI partAV bldAV fillAV binAV binI AV.cells callEff calleeOf frKill memKill AV.kill AObj.kill AV.has AV.hasL Op.operands Call.operands keepF keepM viewIds cChk renOf moGet moWs moQ cEff moLike moHave AV.ren renL AObj.ren AObj.like kept startC moMem AV.frz frz1 frzL frSub memSub frzs AS.frz frFrz memFrz AObj.frz takeMap takeLen bleF Nat.ble_eq memAny objAny mapOp D.keyOk rowAV valRow extOp wrapOp phO frLow memLow memLow1 objLow memEmpty Low LowL
set_option linter.unusedVariables false
set_option linter.unusedSimpArgs false
theorem woN_nil (l : List ByteArray) : woN l [] = l := by simp [woN, hasB]
def rfree (xs : List Tm) (sk : Nat → List ByteArray) (o0 : List ByteArray) : Nat → List ByteArray
  | 0 => o0
  | i + 1 => match xs[i]? with
    | some x => addN (rfree xs sk o0 i) (woN x.free (sk i))
    | none => rfree xs sk o0 i
theorem rfree_snoc {xs : List Tm} (sk : Nat → List ByteArray) (o0 : List ByteArray) {i : Nat} {x : Tm} (hx : xs[i]? = some x) : rfree xs sk o0 (i + 1) = addN (rfree xs sk o0 i) (woN x.free (sk i)) := by
  simp only [rfree, hx]
theorem rfree_len (xs : List Tm) (sk : Nat → List ByteArray) (o0 : List ByteArray) : ∀ i, (rfree xs sk o0 i).length ≤ o0.length + Tm.szs (xs.take i)
  | 0 => by simp [rfree]
  | i + 1 => by
    have ih := rfree_len xs sk o0 i
    simp only [rfree]
    split
    · rename_i x hx
      have h1 := addN_len (woN x.free (sk i)) (rfree xs sk o0 i)
      have h2 := woN_len x.free (sk i)
      have h3 := x.free_len
      have h4 : Tm.szs (xs.take (i + 1)) = Tm.szs (xs.take i) + x.sz := by
        rw [List.take_add_one, hx]
        have : ∀ l : List Tm, Tm.szs (l ++ [x]) = Tm.szs l + x.sz := fun l => by
          induction l with
          | nil => simp [Tm.szs]
          | cons y r ih => simp only [List.cons_append, Tm.szs, ih]; omega
        exact this _
      omega
    · rename_i hx
      have h4 : xs.take (i + 1) = xs.take i := by rw [List.take_add_one, hx]; simp
      rw [h4]; exact ih
theorem rfree_plain (xs : List Tm) (o0 : List ByteArray) : ∀ i, rfree xs (fun _ => []) o0 i = Tm.frees o0 (xs.take i)
  | 0 => by simp [rfree, Tm.frees]
  | i + 1 => by
    have ih := rfree_plain xs o0 i
    simp only [rfree]
    split
    · rename_i x hx
      rw [Tm.frees_snoc hx, ih, woN_nil]
    · rename_i hx
      rw [List.take_add_one, hx, ih]; simp
def skipA (k : Int) (a : ByteArray) (len i : Nat) : List ByteArray := if k = 6 ∧ len = 2 ∧ i = 1 then [a] else []
theorem skipA_len (k : Int) (a : ByteArray) (len i : Nat) : (skipA k a len i).length ≤ 1 := by unfold skipA; split <;> simp
theorem rfree_all (k : Int) (a : ByteArray) (xs : List Tm) (o0 : List ByteArray) (h : ¬ (k = 6 ∧ xs.length = 2)) : rfree xs (skipA k a xs.length) o0 xs.length = Tm.frees o0 xs := by
  have e : skipA k a xs.length = fun _ => [] := funext fun i => by
    unfold skipA
    rw [if_neg (fun hh => h ⟨hh.1, hh.2.1⟩)]
  rw [e, rfree_plain, List.take_length]
theorem rfree_let (a : ByteArray) (x y : Tm) : rfree [x, y] (skipA 6 a 2) [] 2 = Tm.freeL a [] [x, y] := by
  simp [rfree, skipA, Tm.freeL, Tm.freeB, woN_nil]
def refMem (k n : Int) (a b : ByteArray) (vs : List ByteArray) (xs : List Tm) (cs : List Cs) (L : List ByteArray) : List (Nat × Option AObj) :=
  [(1, tmObj k n a b vs xs cs), (3, some (.blk 30 [.arr 400 0 L.length])), (400, some (.arr 9 1 (L.map strR)))]
set_option maxRecDepth 20000 in
set_option maxHeartbeats 8000000 in
theorem sp_refFree_at : ∀ (N : Nat) (t : Tm), t.sz < N → t.Fit → PSpec Tryd.prog 25 [tmAV t] (fun d => .arr d 0 t.free.length) (some (.arr 9 1 (t.free.map strR))) := by
  intro N
  induction N with
  | zero => intro s h; omega
  | succ N ih =>
  intro t hN hF
  have hO := hF.ok
  obtain ⟨k, n, a, b, vs, xs, cs⟩ := t
  obtain ⟨o1, o2, o3, o4, o5⟩ := hO.vars
  have hsz := sz_all hF
  refine PSpec.ofArrX Tryd.func25 rfl rfl _ (Nat.le_of_ble_eq_true rfl) (fun d => by simp [AV.has, AV.hasL]) ?_
  show AWp _ _ (endX _ Tryd.f25 _ _) (startAS 82 _)
  repeat (first | refine AWp.seq ?_ | refine AWp.block ?_)
  apply AWp.reg [] []
  · conv => lhs; simp
  · trivial
  repeat (first | refine AWp.seq ?_ | refine AWp.block ?_)
  apply AWp.reg [] []
  · conv => lhs; simp
  · trivial
  repeat (first | refine AWp.seq ?_ | refine AWp.block ?_)
  apply AWp.reg [] []
  · conv => lhs; simp
  · trivial
  by_cases e1 : k = 1
  · subst e1
    have hf : (Tm.mk 1 n a b vs xs cs).free = [a] := by simp [Tm.free]
    rw [hf]
    repeat (first | refine AWp.seq ?_ | refine AWp.block ?_)
    apply AWp.reg [] []
    · conv => lhs; simp
    · trivial
    repeat (first | refine AWp.seq ?_ | refine AWp.block ?_)
    apply AWp.reg [] []
    · conv => lhs; simp
    · trivial
    repeat (first | refine AWp.seq ?_ | refine AWp.block ?_)
    refine AWp.cond rfl (fun h => ?_) (fun h => ?_)
    · refine AWp.rg [] [] ?_
      refine AWp.ret ?_
      try dsimp only [thenQ, blockQ]
      apply endX.ret 17
      · conv => lhs; simp [resAV, Tryd.results25]
      · rfl
      · rfl
      · rfl
    · simp at h
  obtain ⟨o0, ho0⟩ : ∃ o0, o0 = if 8 ≤ k ∧ k ≤ 11 then [a] else [] := ⟨_, rfl⟩
  have hl0 : o0.length ≤ 1 := by rw [ho0]; split <;> simp
  refine AWp.seqJ ⟨82, [(1, .ptr 1 0), (3, .ptr 3 0), (4, .clo 66 [.ptr 3 0])], refMem k n a b vs xs cs o0⟩ ?_ (fun W hW => ?_)
  rotate_left
  · by_cases k8 : k = 8
    · subst k8
      rw [if_pos (by omega)] at ho0
      subst ho0
      repeat (first | refine AWp.seq ?_ | refine AWp.block ?_)
      apply AWp.reg [] []
      · conv => lhs; simp
      · trivial
      repeat (first | refine AWp.seq ?_ | refine AWp.block ?_)
      apply AWp.reg [] []
      · conv => lhs; simp
      · trivial
      repeat (first | refine AWp.seq ?_ | refine AWp.block ?_)
      refine AWp.cond rfl (fun h => ?_) (fun h => ?_)
      · simp at h
      repeat (first | refine AWp.seq ?_ | refine AWp.block ?_)
      apply AWp.reg [] []
      · conv => lhs; simp
      · trivial
      repeat (first | refine AWp.seq ?_ | refine AWp.block ?_)
      refine AWp.cond rfl (fun h0 => ?_) (fun h0 => ?_)
      rotate_left
      · simp at h0
      refine AWp.skip ?_
      repeat (first | refine AWp.seq ?_ | refine AWp.block ?_)
      refine AWp.cond rfl (fun h6 => ?_) (fun h6 => ?_)
      rotate_left
      · simp at h6
      refine AWp.rg [] [] ?_
      exact hW _ (Le.trans (Le.swap _ 25 400 rfl rfl) (Le.sub (by simp [AS.swap, swN]) (by simp [AS.swap, swN, refMem, tmObj])))
    by_cases k9 : k = 9
    · subst k9
      rw [if_pos (by omega)] at ho0
      subst ho0
      repeat (first | refine AWp.seq ?_ | refine AWp.block ?_)
      apply AWp.reg [] []
      · conv => lhs; simp
      · trivial
      repeat (first | refine AWp.seq ?_ | refine AWp.block ?_)
      apply AWp.reg [] []
      · conv => lhs; simp
      · trivial
      repeat (first | refine AWp.seq ?_ | refine AWp.block ?_)
      refine AWp.cond rfl (fun h => ?_) (fun h => ?_)
      · simp at h
      repeat (first | refine AWp.seq ?_ | refine AWp.block ?_)
      apply AWp.reg [] []
      · conv => lhs; simp
      · trivial
      repeat (first | refine AWp.seq ?_ | refine AWp.block ?_)
      refine AWp.cond rfl (fun h0 => ?_) (fun h0 => ?_)
      · simp at h0
      repeat (first | refine AWp.seq ?_ | refine AWp.block ?_)
      apply AWp.reg [] []
      · conv => lhs; simp
      · trivial
      repeat (first | refine AWp.seq ?_ | refine AWp.block ?_)
      refine AWp.cond rfl (fun h1 => ?_) (fun h1 => ?_)
      rotate_left
      · simp at h1
      refine AWp.skip ?_
      repeat (first | refine AWp.seq ?_ | refine AWp.block ?_)
      refine AWp.cond rfl (fun h6 => ?_) (fun h6 => ?_)
      rotate_left
      · simp at h6
      refine AWp.rg [] [] ?_
      exact hW _ (Le.trans (Le.swap _ 25 400 rfl rfl) (Le.sub (by simp [AS.swap, swN]) (by simp [AS.swap, swN, refMem, tmObj])))
    by_cases k10 : k = 10
    · subst k10
      rw [if_pos (by omega)] at ho0
      subst ho0
      repeat (first | refine AWp.seq ?_ | refine AWp.block ?_)
      apply AWp.reg [] []
      · conv => lhs; simp
      · trivial
      repeat (first | refine AWp.seq ?_ | refine AWp.block ?_)
      apply AWp.reg [] []
      · conv => lhs; simp
      · trivial
      repeat (first | refine AWp.seq ?_ | refine AWp.block ?_)
      refine AWp.cond rfl (fun h => ?_) (fun h => ?_)
      · simp at h
      repeat (first | refine AWp.seq ?_ | refine AWp.block ?_)
      apply AWp.reg [] []
      · conv => lhs; simp
      · trivial
      repeat (first | refine AWp.seq ?_ | refine AWp.block ?_)
      refine AWp.cond rfl (fun h0 => ?_) (fun h0 => ?_)
      · simp at h0
      repeat (first | refine AWp.seq ?_ | refine AWp.block ?_)
      apply AWp.reg [] []
      · conv => lhs; simp
      · trivial
      repeat (first | refine AWp.seq ?_ | refine AWp.block ?_)
      refine AWp.cond rfl (fun h1 => ?_) (fun h1 => ?_)
      · simp at h1
      repeat (first | refine AWp.seq ?_ | refine AWp.block ?_)
      apply AWp.reg [] []
      · conv => lhs; simp
      · trivial
      repeat (first | refine AWp.seq ?_ | refine AWp.block ?_)
      refine AWp.cond rfl (fun h2 => ?_) (fun h2 => ?_)
      rotate_left
      · simp at h2
      refine AWp.skip ?_
      repeat (first | refine AWp.seq ?_ | refine AWp.block ?_)
      refine AWp.cond rfl (fun h6 => ?_) (fun h6 => ?_)
      rotate_left
      · simp at h6
      refine AWp.rg [] [] ?_
      exact hW _ (Le.trans (Le.swap _ 25 400 rfl rfl) (Le.sub (by simp [AS.swap, swN]) (by simp [AS.swap, swN, refMem, tmObj])))
    by_cases k11 : k = 11
    · subst k11
      rw [if_pos (by omega)] at ho0
      subst ho0
      repeat (first | refine AWp.seq ?_ | refine AWp.block ?_)
      apply AWp.reg [] []
      · conv => lhs; simp
      · trivial
      repeat (first | refine AWp.seq ?_ | refine AWp.block ?_)
      apply AWp.reg [] []
      · conv => lhs; simp
      · trivial
      repeat (first | refine AWp.seq ?_ | refine AWp.block ?_)
      refine AWp.cond rfl (fun h => ?_) (fun h => ?_)
      · simp at h
      repeat (first | refine AWp.seq ?_ | refine AWp.block ?_)
      apply AWp.reg [] []
      · conv => lhs; simp
      · trivial
      repeat (first | refine AWp.seq ?_ | refine AWp.block ?_)
      refine AWp.cond rfl (fun h0 => ?_) (fun h0 => ?_)
      · simp at h0
      repeat (first | refine AWp.seq ?_ | refine AWp.block ?_)
      apply AWp.reg [] []
      · conv => lhs; simp
      · trivial
      repeat (first | refine AWp.seq ?_ | refine AWp.block ?_)
      refine AWp.cond rfl (fun h1 => ?_) (fun h1 => ?_)
      · simp at h1
      repeat (first | refine AWp.seq ?_ | refine AWp.block ?_)
      apply AWp.reg [] []
      · conv => lhs; simp
      · trivial
      repeat (first | refine AWp.seq ?_ | refine AWp.block ?_)
      refine AWp.cond rfl (fun h2 => ?_) (fun h2 => ?_)
      · simp at h2
      repeat (first | refine AWp.seq ?_ | refine AWp.block ?_)
      apply AWp.reg [] []
      · conv => lhs; simp
      · trivial
      repeat (first | refine AWp.seq ?_ | refine AWp.block ?_)
      refine AWp.cond rfl (fun h6 => ?_) (fun h6 => ?_)
      rotate_left
      · simp at h6
      refine AWp.rg [] [] ?_
      exact hW _ (Le.trans (Le.swap _ 25 400 rfl rfl) (Le.sub (by simp [AS.swap, swN]) (by simp [AS.swap, swN, refMem, tmObj])))
    rw [if_neg (by omega)] at ho0
    subst ho0
    repeat (first | refine AWp.seq ?_ | refine AWp.block ?_)
    apply AWp.reg [] []
    · conv => lhs; simp
    · trivial
    repeat (first | refine AWp.seq ?_ | refine AWp.block ?_)
    apply AWp.reg [] []
    · conv => lhs; simp [e1]
    · trivial
    refine AWp.cn ?_
    repeat (first | refine AWp.seq ?_ | refine AWp.block ?_)
    apply AWp.reg [] []
    · conv => lhs; simp [k8]
    · trivial
    refine AWp.cn ?_
    repeat (first | refine AWp.seq ?_ | refine AWp.block ?_)
    apply AWp.reg [] []
    · conv => lhs; simp [k9]
    · trivial
    refine AWp.cn ?_
    repeat (first | refine AWp.seq ?_ | refine AWp.block ?_)
    apply AWp.reg [] []
    · conv => lhs; simp [k10]
    · trivial
    refine AWp.cn ?_
    repeat (first | refine AWp.seq ?_ | refine AWp.block ?_)
    apply AWp.reg [] []
    · conv => lhs; simp [k11]
    · trivial
    repeat (first | refine AWp.seq ?_ | refine AWp.block ?_)
    refine AWp.cond rfl (fun h6 => ?_) (fun h6 => ?_)
    · cases h6
    refine AWp.skip ?_
    exact hW _ (Le.low [400] [] rfl (by simp) (by simp [refMem, tmObj]))
  repeat (first | refine AWp.seq ?_ | refine AWp.block ?_)
  apply AWp.reg [] []
  · conv => lhs; simp [refMem, tmObj]
  · trivial
  repeat (first | refine AWp.seq ?_ | refine AWp.block ?_)
  refine AWp.loop (σ := fun u : {i : Nat // i ≤ xs.length} => ⟨82, [(1, .ptr 1 0), (3, .ptr 3 0), (4, .clo 66 [.ptr 3 0]), (27, .d (.sl (xs.map Tm.row))), (28, .d (.int xs.length)), (29, .d (.int u.1))], refMem k n a b vs xs cs (rfree xs (skipA k a xs.length) o0 u.1)⟩)
    (μ := fun u => xs.length - u.1) ⟨0, Nat.zero_le _⟩ (Le.sub (by simp [rfree]) (by simp [rfree, refMem, tmObj])) (fun ⟨i, hi⟩ => ?_)
  dsimp only
  have hL0 := rfree_len xs (skipA k a xs.length) o0 i
  have hS : ∀ x, xs[i]? = some x → _ := fun x => rfree_snoc (skipA k a xs.length) o0 (x := x) (i := i)
  obtain ⟨L, hL⟩ : ∃ L, L = rfree xs (skipA k a xs.length) o0 i := ⟨_, rfl⟩
  rw [← hL] at hL0 hS ⊢
  repeat (first | refine AWp.seq ?_ | refine AWp.block ?_)
  apply AWp.reg [] []
  · conv => lhs; simp
  · trivial
  repeat (first | refine AWp.seq ?_ | refine AWp.block ?_)
  refine AWp.cond rfl (fun h => ?_) (fun h => ?_)
  · have hi1 : i < xs.length := by have := of_decide_eq_true h; omega
    have h1 : xs[i]? = some xs[i] := List.getElem?_eq_getElem hi1
    have hmem : xs[i] ∈ xs := List.getElem_mem hi1
    generalize xs[i] = x at h1 hmem
    have hx := ih x (by have := Tm.sz_arg (k := k) (n := n) (a := a) (b := b) (vs := vs) (cs := cs) hmem; omega) (hF.arg hmem)
    have lx := x.free_len
    have lt := Tm.szs_take h1
    have hsk := skipA_len k a xs.length i
    have had := cs_Free1 L x.free (skipA k a xs.length i) (by omega) (by omega)
    have hS1 := hS x h1
    have hskd : skipA k a xs.length i = if k = 6 ∧ xs.length = 2 ∧ i = 1 then [a] else [] := rfl
    generalize skipA k a xs.length i = sk at hskd had hS1
    obtain ⟨L', hS0⟩ : ∃ L', L' = rfree xs (skipA k a xs.length) o0 (i + 1) := ⟨_, rfl⟩
    rw [← hS0] at hS1
    generalize x.free = fx at *
    rw [← hS1] at had
    obtain ⟨xk, xn, xa, xb, xv, xx, xc⟩ := x
    refine AWp.skip ?_
    refine AWp.rg [] [] ?_ (hr := by conv => lhs; simp [h1, Tm.row, Tm.rows_eq, Cs.rows_eq])
    repeat (first | refine AWp.seq ?_ | refine AWp.block ?_)
    apply AWp.reg [] []
    · conv => lhs; simp
    · trivial
    refine AWp.seqJ ⟨82, [(1, .ptr 1 0), (3, .ptr 3 0), (4, .clo 66 [.ptr 3 0]), (6, .ptr 6 0), (7, strsAV sk), (27, .d (.sl (xs.map Tm.row))), (28, .d (.int xs.length)), (29, .d (.int i))], (6, tmObj xk xn xa xb xv xx xc) :: refMem k n a b vs xs cs L⟩ ?_ (fun W1 hW1 => ?_)
    rotate_left
    · by_cases k6 : k = 6
      · subst k6
        by_cases k7 : xs.length = 2
        · have k7' : (xs.length : Int) = 2 := by omega
          by_cases k8 : i = 1
          · have k8' : (i : Int) = 1 := by omega
            rw [if_pos ⟨rfl, k7, k8⟩] at hskd
            subst hskd
            refine AWp.rg [] [] ?_ (hr := by conv => lhs; simp [k7', k8', refMem, tmObj])
            repeat (first | refine AWp.seq ?_ | refine AWp.block ?_)
            refine AWp.cond rfl (fun h2 => ?_) (fun h2 => ?_)
            rotate_left
            · simp at h2
            refine AWp.rg [2] [] ?_
            exact hW1 _ (Le.low [] [] rfl (by simp [strsD, k7', k8']) (by simp [refMem, tmObj]))
          · have k8' : ¬ (i : Int) = 1 := by omega
            rw [if_neg (fun hh => k8 hh.2.2)] at hskd
            subst hskd
            refine AWp.rg [] [] ?_ (hr := by conv => lhs; simp [k7', k8', refMem, tmObj])
            refine AWp.cn ?_
            refine AWp.skip ?_
            exact hW1 _ (Le.low [] [] rfl (by simp [strsD, k7']) (by simp [refMem, tmObj]))
        · have k7' : ¬ (xs.length : Int) = 2 := by omega
          rw [if_neg (fun hh => k7 hh.2.1)] at hskd
          subst hskd
          refine AWp.rg [] [] ?_ (hr := by conv => lhs; simp [k7', refMem, tmObj])
          refine AWp.cn ?_
          refine AWp.skip ?_
          exact hW1 _ (Le.low [] [] rfl (by simp [strsD]) (by simp [refMem, tmObj]))
      · rw [if_neg (fun hh => k6 hh.1)] at hskd
        subst hskd
        refine AWp.rg [] [] ?_ (hr := by conv => lhs; simp [k6, refMem, tmObj])
        refine AWp.cn ?_
        refine AWp.skip ?_
        exact hW1 _ (Le.low [] [] rfl (by simp [strsD]) (by simp [refMem, tmObj]))
    repeat (first | refine AWp.seq ?_ | refine AWp.block ?_)
    apply AWp.reg [2] [.p (fun d => .arr d 0 fx.length) (some (.arr 9 1 (fx.map strR))), .c [(1000, 3), (500, 400)] [strsAV fx, strsAV sk, .ptr 1000 0] [(1000, .blk 30 [.arr 500 0 L.length]), (500, .arr 9 1 (L.map strR))] (resVal []) [(1000, .blk 30 [.arr 500 0 L'.length]), (500, .arr 9 1 (L'.map strR))]]
    · conv => lhs; simp [tmAV, tmObj, refMem, resVal]
    · exact ⟨hx, had⟩
    refine AWp.rg [] [] ?_
    refine ⟨⟨i + 1, hi1⟩, by simp; omega, ?_⟩
    dsimp only
    rw [← hS0]
    exact Le.sub (by simp) (by simp [tmObj, refMem])
  have hi1 : i = xs.length := by have := of_decide_eq_false h; omega
  subst hi1
  clear h hS
  have hlx : Tm.szs (xs.take xs.length) = Tm.szs xs := by rw [List.take_length]
  refine AWp.exit ?_
  by_cases e6 : k = 6 ∧ xs.length = 2
  · have hf : (Tm.mk k n a b vs xs cs).free = L := by
      obtain ⟨e6, e7⟩ := e6
      rw [hL, ho0, e6]
      match xs, e7 with
      | [x, y], _ =>
        rw [if_neg (by omega)]
        refine Eq.trans ?_ (rfree_let a x y).symm
        simp [Tm.free]
    rw [hf]
    obtain ⟨e6, e7⟩ := e6
    subst e6
    have k7' : (xs.length : Int) = 2 := by omega
    refine AWp.rg [] [] ?_ (hr := by conv => lhs; simp [k7', refMem, tmObj])
    refine AWp.cy ?_
    refine AWp.rg [] [] ?_
    refine AWp.ret ?_
    try dsimp only [thenQ, blockQ]
    apply endX.ret 400
    · conv => lhs; simp [resAV, Tryd.results25]
    · rfl
    · rfl
    · rfl
  have hf : (Tm.mk k n a b vs xs cs).free = Cs.frees L cs := by
    simp only [Tm.free, if_neg e1, if_neg e6]
    rw [hL, rfree_all k a xs o0 e6, ho0]
  rw [hf]
  refine AWp.seqJ ⟨82, [(1, .ptr 1 0), (3, .ptr 3 0), (4, .clo 66 [.ptr 3 0])], refMem k n a b vs xs cs L⟩ ?_ (fun W1 hW1 => ?_)
  rotate_left
  · by_cases k6 : k = 6
    · subst k6
      have k7' : ¬ (xs.length : Int) = 2 := fun hh => e6 ⟨rfl, by omega⟩
      refine AWp.rg [] [] ?_ (hr := by conv => lhs; simp [k7', refMem, tmObj])
      refine AWp.cn ?_
      refine AWp.skip ?_
      exact hW1 _ (Le.sub (by simp) (by simp [refMem, tmObj]))
    · refine AWp.rg [] [] ?_ (hr := by conv => lhs; simp [k6, refMem, tmObj])
      refine AWp.cn ?_
      refine AWp.skip ?_
      exact hW1 _ (Le.sub (by simp) (by simp [refMem, tmObj]))
  repeat (first | refine AWp.seq ?_ | refine AWp.block ?_)
  apply AWp.reg [] []
  · conv => lhs; simp [refMem, tmObj]
  · trivial
  repeat (first | refine AWp.seq ?_ | refine AWp.block ?_)
  refine AWp.loop (σ := fun u : {i : Nat // i ≤ cs.length} => ⟨82, [(1, .ptr 1 0), (3, .ptr 3 0), (4, .clo 66 [.ptr 3 0]), (67, .d (.sl (cs.map Cs.row))), (68, .d (.int cs.length)), (69, .d (.int u.1))], refMem k n a b vs xs cs (Cs.frees L (cs.take u.1))⟩)
    (μ := fun u => cs.length - u.1) ⟨0, Nat.zero_le _⟩ (Le.sub (by simp [Cs.frees]) (by simp [Cs.frees, refMem, tmObj])) (fun ⟨i, hi⟩ => ?_)
  dsimp only
  have hM0 := Cs.frees_len (cs.take i) L
  have hS : ∀ x, cs[i]? = some x → Cs.frees L (cs.take (i + 1)) = addN (Cs.frees L (cs.take i)) x.freeC := fun x => Cs.frees_snoc
  obtain ⟨M, hM⟩ : ∃ M, M = Cs.frees L (cs.take i) := ⟨_, rfl⟩
  rw [← hM] at hM0 hS ⊢
  repeat (first | refine AWp.seq ?_ | refine AWp.block ?_)
  apply AWp.reg [] []
  · conv => lhs; simp
  · trivial
  repeat (first | refine AWp.seq ?_ | refine AWp.block ?_)
  refine AWp.cond rfl (fun h => ?_) (fun h => ?_)
  · have hi1 : i < cs.length := by have := of_decide_eq_true h; omega
    have h1 : cs[i]? = some cs[i] := List.getElem?_eq_getElem hi1
    have hmem : cs[i] ∈ cs := List.getElem_mem hi1
    generalize cs[i] = x at h1 hmem
    have lx := x.freeC_len
    have lt := Cs.szs_take h1
    have hS1 := hS x h1
    obtain ⟨g, ws, x⟩ := x
    obtain ⟨oc1, oc2⟩ := hF.case hmem
    have hx := ih x (by have := Tm.sz_case (k := k) (n := n) (a := a) (b := b) (vs := vs) (xs := xs) hmem; omega) oc1
    have lx2 := x.free_len
    have hsz2 : (Cs.mk g ws x).sz = x.sz := rfl
    simp only [Cs.freeC] at hS1
    have had := cs_Free1 M x.free ws (by omega) (by omega)
    rw [← hS1] at had
    obtain ⟨M', hM'⟩ : ∃ M', M' = Cs.frees L (cs.take (i + 1)) := ⟨_, rfl⟩
    rw [← hM'] at had
    generalize x.free = fx at *
    obtain ⟨xk, xn, xa, xb, xv, xx, xc⟩ := x
    refine AWp.skip ?_
    refine AWp.rg [] [] ?_ (hr := by conv => lhs; simp [h1, Cs.row, Tm.row, Tm.rows_eq, Cs.rows_eq])
    repeat (first | refine AWp.seq ?_ | refine AWp.block ?_)
    apply AWp.draw [3] [.p (fun d => .arr d 0 fx.length) (some (.arr 9 1 (fx.map strR))), .c [(1000, 3), (500, 400)] [strsAV fx, strsAV ws, .ptr 1000 0] [(1000, .blk 30 [.arr 500 0 M.length]), (500, .arr 9 1 (M.map strR))] (resVal []) [(1000, .blk 30 [.arr 500 0 M'.length]), (500, .arr 9 1 (M'.map strR))]] mixed
    · conv => lhs; simp [tmAV, tmObj, refMem, resVal]
    · kernel_rfl
    · exact ⟨hx, had⟩
    refine AWp.rg [] [] ?_
    refine ⟨⟨i + 1, hi1⟩, by simp; omega, ?_⟩
    dsimp only
    rw [← hM']
    exact Le.sub (by simp) (by simp [tmObj, refMem])
  have hi1 : i = cs.length := by have := of_decide_eq_false h; omega
  subst hi1
  rw [List.take_length] at hM
  rw [← hM]
  refine AWp.exit ?_
  repeat (first | refine AWp.seq ?_ | refine AWp.block ?_)
  apply AWp.reg [] []
  · conv => lhs; simp [refMem]
  · trivial
  refine AWp.ret ?_
  try dsimp only [thenQ, blockQ]
  apply endX.ret 400
  · conv => lhs; simp [resAV, Tryd.results25]
  · rfl
  · rfl
  · rfl
theorem sp_refFree (t : Tm) (h : t.Fit) : PSpec Tryd.prog 25 [tmAV t] (fun d => .arr d 0 t.free.length) (some (.arr 9 1 (t.free.map strR))) := sp_refFree_at _ t (Nat.lt_succ_self _) h
end Go.Proofs.YtapiiklnnkkdlaaDoor

namespace Go.Proofs.YtapiiklnnkkdlaaDoor
open Go.RowKit
attribute [local simp] runD mkRc ldOf stOf stOk ldArg noAny dstOk guardOk opEff opEff0 effOp pureOp callOp zEff evA constAV scalAV Value.oneCell' frGet memGet startAS frOf isGoCall idIn AS.after nextR opnIds objIds AV.ids idsL AObj.ids frNo memNo opnAny isAny mkVal rdCells wrCells fldAddr idxAddr srcRows litRows toD1 toDs setAt sliceAV optI partAV bldAV fillAV binAV binI AV.cells callEff calleeOf frKill memKill AV.kill AObj.kill AV.has AV.hasL Op.operands Call.operands keepF keepM viewIds cChk renOf moGet moWs moQ cEff moLike moHave AV.ren renL AObj.ren AObj.like kept startC moMem AV.frz frz1 frzL frSub memSub frzs AS.frz frFrz memFrz AObj.frz takeMap takeLen bleF Nat.ble_eq memAny objAny mapOp D.keyOk rowAV valRow extOp wrapOp phO
set_option linter.unusedVariables false
set_option linter.unusedSimpArgs false
@[simp] theorem u8min : IntKind.u8.min = 0 := rfl
@[simp] theorem u8max : IntKind.u8.max = 255 := rfl
@[simp] theorem i32min : IntKind.i32.min = -2147483648 := rfl
@[simp] theorem i32max : IntKind.i32.max = 2147483647 := rfl
def chOk (i : Nat) (c : UInt8) : Bool := (decide ((97 : Int) ≤ c.toNat) && decide ((c.toNat : Int) ≤ 122)) || ((decide ((48 : Int) ≤ c.toNat) && decide ((c.toNat : Int) ≤ 57)) && !(i == 0))
def nameB (s : ByteArray) : Bool := ((List.range s.size).all fun j => match s[j]? with | some c => chOk j c | none => true) && (decide (1 ≤ (s.size : Int)) && decide ((s.size : Int) ≤ 8))
theorem nameB_bad {s : ByteArray} {i : Nat} {c : UInt8} (h : s[i]? = some c) (hi : i < s.size) (hc : chOk i c = false) : nameB s = false := by
  unfold nameB
  rw [Bool.and_eq_false_iff]
  left
  rw [List.all_eq_false]
  exact ⟨i, List.mem_range.2 hi, by rw [h]; simp [hc]⟩
theorem nameB_good {s : ByteArray} (h : ∀ j < s.size, ∀ c, s[j]? = some c → chOk j c = true) : nameB s = (decide (1 ≤ (s.size : Int)) && decide ((s.size : Int) ≤ 8)) := by
  unfold nameB
  have : ((List.range s.size).all fun j => match s[j]? with | some c => chOk j c | none => true) = true := by
    rw [List.all_eq_true]
    intro j hj
    have := h j (List.mem_range.1 hj)
    revert this
    cases s[j]? with
    | none => intro _; rfl
    | some c => intro h; exact h c rfl
  rw [this, Bool.true_and]
set_option maxRecDepth 20000 in
set_option maxHeartbeats 4000000 in
theorem sp_Name (s : ByteArray) (hs : s.size ≤ 9223372036854775806) : PSpec Tryd.prog 39 [.d (.str s)] (fun _ => .d (.bool (nameB s))) none := by
  refine PSpec.of Tryd.func39 rfl rfl rfl (Nat.le_of_ble_eq_true rfl) ?_
  show AWp _ _ (endQ _ Tryd.f39 _ _ _) (startAS 50 _)
  repeat (first | refine AWp.seq ?_ | refine AWp.block ?_)
  apply AWp.reg [] []
  · conv => lhs; simp
  · trivial
  repeat (first | refine AWp.seq ?_ | refine AWp.block ?_)
  apply AWp.reg [] []
  · conv => lhs; simp
  · trivial
  repeat (first | refine AWp.seq ?_ | refine AWp.block ?_)
  refine AWp.loop (σ := fun u : {i : Nat // i ≤ s.size ∧ ∀ j < i, ∀ c, s[j]? = some c → chOk j c = true} => ⟨50, [(0, .d (.str s)), (7, .d (.int s.size)), (8, .d (.int u.1))], []⟩)
    (μ := fun u => s.size - u.1) ⟨0, Nat.zero_le _, by simp⟩ (Le.sub (by simp) (by simp)) (fun ⟨i, hi, ht⟩ => ?_)
  dsimp only
  repeat (first | refine AWp.seq ?_ | refine AWp.block ?_)
  apply AWp.reg [] []
  · conv => lhs; simp
  · trivial
  repeat (first | refine AWp.seq ?_ | refine AWp.block ?_)
  refine AWp.cond rfl (fun h => ?_) (fun h => ?_)
  · have hi1 : i < s.size := by have := of_decide_eq_true h; omega
    have h1 : s[i]? = some s[i] := by rw [getElem?_pos]
    generalize s[i] = c at h1
    have hc : chOk i c = ((decide ((97 : Int) ≤ c.toNat) && decide ((c.toNat : Int) ≤ 122)) || ((decide ((48 : Int) ≤ c.toNat) && decide ((c.toNat : Int) ≤ 57)) && !(i == 0))) := rfl
    obtain ⟨A, hA⟩ : ∃ A, A = decide ((97 : Int) ≤ c.toNat) := ⟨_, rfl⟩
    obtain ⟨B, hB⟩ : ∃ B, B = decide ((c.toNat : Int) ≤ 122) := ⟨_, rfl⟩
    obtain ⟨C, hC⟩ : ∃ C, C = decide ((48 : Int) ≤ c.toNat) := ⟨_, rfl⟩
    obtain ⟨E, hE⟩ : ∃ E, E = decide ((c.toNat : Int) ≤ 57) := ⟨_, rfl⟩
    rw [← hA, ← hB, ← hC, ← hE] at hc
    refine AWp.skip ?_
    repeat (first | refine AWp.seq ?_ | refine AWp.block ?_)
    apply AWp.reg [] []
    · conv => lhs; simp
    · trivial
    refine AWp.seqJ ⟨50, [(0, .d (.str s)), (3, .d (.int i)), (4, .d (.bool (A && B))), (5, .d (.bool (C && E))), (7, .d (.int s.size)), (8, .d (.int i))], []⟩ ?_ (fun W hW => ?_)
    rotate_left
    · cases A <;> cases B <;> cases C <;> cases E
      all_goals (
        have qA := hA.symm
        have qB := hB.symm
        have qC := hC.symm
        have qE := hE.symm
        simp only [decide_eq_true_eq, decide_eq_false_iff_not] at qA qB qC qE
        refine AWp.dw [] [] mixed ?_ (hr := by conv => lhs; simp [h1, qA, qB, qC, qE])
        exact hW _ (Le.sub (by simp) (by simp)))
    obtain ⟨L, hL⟩ : ∃ L, L = (A && B) := ⟨_, rfl⟩
    obtain ⟨G, hG⟩ : ∃ G, G = (C && E) := ⟨_, rfl⟩
    rw [← hL, ← hG] at hc ⊢
    have step : chOk i c = true → ∀ j < i + 1, ∀ c, s[j]? = some c → chOk j c = true := fun hok j hj c' hc' => by
      rcases Nat.lt_or_ge j i with hlt | hge
      · exact ht j hlt c' hc'
      · obtain rfl : j = i := by omega
        rw [h1] at hc'
        cases hc'
        exact hok
    by_cases hz : i = 0
    · subst hz
      cases L <;> cases G
      all_goals first
        | (
          have hbad := nameB_bad h1 hi1 (by rw [hc]; rfl)
          refine AWp.rg [] [] ?_
          repeat (first | refine AWp.seq ?_ | refine AWp.block ?_)
          refine AWp.cond rfl (fun h2 => ?_) (fun h2 => ?_)
          rotate_left
          · cases h2
          refine AWp.rg [] [] ?_
          refine AWp.ret ?_
          try dsimp only [thenQ, blockQ]
          apply endQ.ret
          · rfl
          · conv => lhs; simp [resAV, Tryd.results39]
          rw [hbad]; rfl)
        | (
          have hgood := step (by rw [hc]; rfl)
          refine AWp.rg [] [] ?_
          repeat (first | refine AWp.seq ?_ | refine AWp.block ?_)
          refine AWp.cond rfl (fun h2 => ?_) (fun h2 => ?_)
          · cases h2
          refine AWp.skip ?_
          refine AWp.rg [] [] ?_
          refine ⟨⟨0 + 1, hi1, hgood⟩, by simp; omega, Le.sub (by simp) (by simp)⟩)
    · have hz' : ¬ (i : Int) = 0 := by omega
      have hzb : (i == 0) = false := by simp [hz]
      rw [hzb] at hc
      cases L <;> cases G
      all_goals first
        | (
          have hbad := nameB_bad h1 hi1 (by rw [hc]; rfl)
          refine AWp.rg [] [] ?_ (hr := by conv => lhs; simp [hz])
          repeat (first | refine AWp.seq ?_ | refine AWp.block ?_)
          refine AWp.cond rfl (fun h2 => ?_) (fun h2 => ?_)
          rotate_left
          · cases h2
          refine AWp.rg [] [] ?_
          refine AWp.ret ?_
          try dsimp only [thenQ, blockQ]
          apply endQ.ret
          · rfl
          · conv => lhs; simp [resAV, Tryd.results39]
          rw [hbad]; rfl)
        | (
          have hgood := step (by rw [hc]; rfl)
          refine AWp.rg [] [] ?_ (hr := by conv => lhs; simp [hz])
          repeat (first | refine AWp.seq ?_ | refine AWp.block ?_)
          refine AWp.cond rfl (fun h2 => ?_) (fun h2 => ?_)
          · cases h2
          refine AWp.skip ?_
          refine AWp.rg [] [] ?_
          refine ⟨⟨i + 1, hi1, hgood⟩, by simp; omega, Le.sub (by simp) (by simp)⟩)
  have hi1 : i = s.size := by have := of_decide_eq_false h; omega
  subst hi1
  have hg := nameB_good ht
  rw [hg]
  refine AWp.exit ?_
  by_cases g1 : (1 : Int) ≤ s.size
  · by_cases g2 : (s.size : Int) ≤ 8
    · refine AWp.rg [] [] ?_ (hr := by conv => lhs; simp [g1, g2])
      refine AWp.ret ?_
      try dsimp only [thenQ, blockQ]
      apply endQ.ret
      · rfl
      · conv => lhs; simp [resAV, Tryd.results39]
      rw [decide_eq_true g1, decide_eq_true g2]; rfl
    · refine AWp.rg [] [] ?_ (hr := by conv => lhs; simp [g1, g2])
      refine AWp.ret ?_
      try dsimp only [thenQ, blockQ]
      apply endQ.ret
      · rfl
      · conv => lhs; simp [resAV, Tryd.results39]
      rw [decide_eq_true g1, decide_eq_false g2]; rfl
  · refine AWp.rg [] [] ?_ (hr := by conv => lhs; simp [g1])
    refine AWp.ret ?_
    try dsimp only [thenQ, blockQ]
    apply endQ.ret
    · rfl
    · conv => lhs; simp [resAV, Tryd.results39]
    rw [decide_eq_false g1]; rfl

def twB (l : List ByteArray) : Bool := (List.range l.length).any fun j => match l[j]? with | some x => hasB (l.take j) x | none => false
theorem twB_yes {l : List ByteArray} {i : Nat} {x : ByteArray} (h : l[i]? = some x) (hc : hasB (l.take i) x = true) : twB l = true := by
  unfold twB
  rw [List.any_eq_true]
  exact ⟨i, List.mem_range.2 (List.getElem?_eq_some_iff.1 h).1, by rw [h]; exact hc⟩
theorem twB_no {l : List ByteArray} (h : ∀ j < l.length, ∀ x, l[j]? = some x → hasB (l.take j) x = false) : twB l = false := by
  unfold twB
  rw [List.any_eq_false]
  intro j hj
  have := h j (List.mem_range.1 hj)
  revert this
  cases l[j]? with
  | none => simp
  | some c => intro h; simp [h c rfl]
theorem twB_snoc {l : List ByteArray} {i : Nat} {x : ByteArray} (h1 : l[i]? = some x) (ht : ∀ j < i, ∀ x, l[j]? = some x → hasB (l.take j) x = false) (hc : hasB (l.take i) x = false) : ∀ j < i + 1, ∀ x, l[j]? = some x → hasB (l.take j) x = false := fun j hj c' hc' => by
  rcases Nat.lt_or_ge j i with hlt | hge
  · exact ht j hlt c' hc'
  · obtain rfl : j = i := by omega
    rw [h1] at hc'
    cases hc'
    exact hc
set_option maxHeartbeats 1000000 in
theorem sp_twice (l : List ByteArray) (hl : l.length ≤ 8796093022208) : PSpec Tryd.prog 53 [strsAV l] (fun _ => .d (.bool (twB l))) none := by
  refine PSpec.of Tryd.func53 rfl rfl rfl (Nat.le_of_ble_eq_true rfl) ?_
  show AWp _ _ (endQ _ Tryd.f53 _ _ _) (startAS 18 _)
  repeat (first | refine AWp.seq ?_ | refine AWp.block ?_)
  apply AWp.reg [] []
  · conv => lhs; simp
  · trivial
  repeat (first | refine AWp.seq ?_ | refine AWp.block ?_)
  apply AWp.reg [] []
  · conv => lhs; simp
  · trivial
  repeat (first | refine AWp.seq ?_ | refine AWp.block ?_)
  refine AWp.loop (σ := fun u : {i : Nat // i ≤ l.length ∧ ∀ j < i, ∀ x, l[j]? = some x → hasB (l.take j) x = false} => ⟨18, [(0, strsAV l), (5, strsAV l), (6, .d (.int l.length)), (7, .d (.int u.1))], []⟩)
    (μ := fun u => l.length - u.1) ⟨0, Nat.zero_le _, by simp⟩ (Le.sub (by simp) (by simp)) (fun ⟨i, hi, ht⟩ => ?_)
  dsimp only
  repeat (first | refine AWp.seq ?_ | refine AWp.block ?_)
  apply AWp.reg [] []
  · conv => lhs; simp
  · trivial
  repeat (first | refine AWp.seq ?_ | refine AWp.block ?_)
  refine AWp.cond rfl (fun h => ?_) (fun h => ?_)
  · have hi1 : i < l.length := by have := of_decide_eq_true h; omega
    have h1 : l[i]? = some l[i] := List.getElem?_eq_getElem hi1
    generalize l[i] = x at h1
    have hp := sp_Has (l.take i) x (by simp; omega)
    have hs := fun hc => twB_snoc (i := i) h1 ht hc
    have hy := fun hc => twB_yes (i := i) h1 hc
    have htl : (l.map strR).take i = (l.take i).map strR := by rw [List.map_take]
    obtain ⟨T, hT⟩ : ∃ T, T = l.take i := ⟨_, rfl⟩
    rw [← hT] at hp hs hy htl
    obtain ⟨B, hB⟩ : ∃ B, B = hasB T x := ⟨_, rfl⟩
    rw [← hB] at hp hs hy
    refine AWp.skip ?_
    refine AWp.rg [] [] ?_ (hr := by conv => lhs; simp [h1])
    cases B with
    | true =>
      repeat (first | refine AWp.seq ?_ | refine AWp.block ?_)
      apply AWp.reg [] [.p (fun _ => .d (.bool true)) none]
      · conv => lhs; simp [htl]
      · exact ⟨by omega, hp⟩
      refine AWp.cy ?_
      refine AWp.rg [] [] ?_
      refine AWp.ret ?_
      try dsimp only [thenQ, blockQ]
      apply endQ.ret
      · rfl
      · conv => lhs; simp [resAV, Tryd.results53]
      rw [hy rfl]; rfl
    | false =>
      repeat (first | refine AWp.seq ?_ | refine AWp.block ?_)
      apply AWp.reg [] [.p (fun _ => .d (.bool false)) none]
      · conv => lhs; simp [htl]
      · exact ⟨by omega, hp⟩
      refine AWp.cn ?_
      refine AWp.skip ?_
      refine AWp.rg [] [] ?_
      refine ⟨⟨i + 1, hi1, hs rfl⟩, by simp; omega, Le.sub (by simp) (by simp)⟩
  have hi1 : i = l.length := by have := of_decide_eq_false h; omega
  subst hi1
  have hn := twB_no ht
  refine AWp.exit ?_
  repeat (first | refine AWp.seq ?_ | refine AWp.block ?_)
  apply AWp.reg [] []
  · conv => lhs; simp
  · trivial
  refine AWp.ret ?_
  try dsimp only [thenQ, blockQ]
  apply endQ.ret
  · rfl
  · conv => lhs; simp [resAV, Tryd.results53]
  rw [hn]; rfl
def badB (l : List ByteArray) : Bool := l.any fun s => !nameB s
set_option maxHeartbeats 1000000 in
theorem sp_bad (l : List ByteArray) (hl : l.length ≤ 8796093022208) (hs : ∀ s ∈ l, s.size ≤ 9223372036854775806) : PSpec Tryd.prog 54 [strsAV l] (fun _ => .d (.bool (badB l))) none := by
  refine PSpec.of Tryd.func54 rfl rfl rfl (Nat.le_of_ble_eq_true rfl) ?_
  show AWp _ _ (endQ _ Tryd.f54 _ _ _) (startAS 15 _)
  repeat (first | refine AWp.seq ?_ | refine AWp.block ?_)
  apply AWp.reg [] []
  · conv => lhs; simp
  · trivial
  repeat (first | refine AWp.seq ?_ | refine AWp.block ?_)
  apply AWp.reg [] []
  · conv => lhs; simp
  · trivial
  repeat (first | refine AWp.seq ?_ | refine AWp.block ?_)
  refine AWp.loop (σ := fun u : {i : Nat // i ≤ l.length ∧ ∀ y ∈ l.take i, (!nameB y) = false} => ⟨15, [(5, strsAV l), (6, .d (.int l.length)), (7, .d (.int u.1))], []⟩)
    (μ := fun u => l.length - u.1) ⟨0, Nat.zero_le _, by simp⟩ (Le.sub (by simp) (by simp)) (fun ⟨i, hi, ht⟩ => ?_)
  dsimp only
  repeat (first | refine AWp.seq ?_ | refine AWp.block ?_)
  apply AWp.reg [] []
  · conv => lhs; simp
  · trivial
  repeat (first | refine AWp.seq ?_ | refine AWp.block ?_)
  refine AWp.cond rfl (fun h => ?_) (fun h => ?_)
  · have hi1 : i < l.length := by have := of_decide_eq_true h; omega
    have h1 : l[i]? = some l[i] := List.getElem?_eq_getElem hi1
    have hmem : l[i] ∈ l := List.getElem_mem hi1
    generalize l[i] = x at h1 hmem
    have hp := sp_Name x (hs x hmem)
    obtain ⟨B, hB⟩ : ∃ B, B = nameB x := ⟨_, rfl⟩
    rw [← hB] at hp
    refine AWp.skip ?_
    refine AWp.rg [] [] ?_ (hr := by conv => lhs; simp [h1])
    cases B with
    | true =>
      repeat (first | refine AWp.seq ?_ | refine AWp.block ?_)
      apply AWp.reg [] [.p (fun _ => .d (.bool true)) none]
      · conv => lhs; simp
      · exact hp
      refine AWp.cn ?_
      refine AWp.skip ?_
      refine AWp.rg [] [] ?_
      refine ⟨⟨i + 1, hi1, take_all_snoc h1 ht (by rw [← hB]; rfl)⟩, by simp; omega, Le.sub (by simp) (by simp)⟩
    | false =>
      repeat (first | refine AWp.seq ?_ | refine AWp.block ?_)
      apply AWp.reg [] [.p (fun _ => .d (.bool false)) none]
      · conv => lhs; simp
      · exact hp
      refine AWp.cy ?_
      refine AWp.rg [] [] ?_
      refine AWp.ret ?_
      try dsimp only [thenQ, blockQ]
      apply endQ.ret
      · rfl
      · conv => lhs; simp [resAV, Tryd.results54]
      rw [show badB l = true from List.any_eq_true.2 ⟨x, hmem, by rw [← hB]; rfl⟩]; rfl
  have hi1 : i = l.length := by have := of_decide_eq_false h; omega
  subst hi1
  rw [List.take_length] at ht
  refine AWp.exit ?_
  repeat (first | refine AWp.seq ?_ | refine AWp.block ?_)
  apply AWp.reg [] []
  · conv => lhs; simp
  · trivial
  refine AWp.ret ?_
  try dsimp only [thenQ, blockQ]
  apply endQ.ret
  · rfl
  · conv => lhs; simp [resAV, Tryd.results54]
  rw [show badB l = false from List.any_eq_false.2 fun y hy => by rw [ht y hy]; simp]; rfl

abbrev nmObj : AObj := .blk 58 [.d (.fn 39)]
abbrev fnsObj (ents : List (D × List D)) : AObj := .map true false 1 ents
end Go.Proofs.YtapiiklnnkkdlaaDoor

namespace Go.Proofs.YtapiiklnnkkdlaaDoor
open Go.RowKit
set_option linter.unusedVariables false
set_option linter.unusedSimpArgs false
theorem AWp.seqJ2 {P : Program} {Q : Exit → AS → Prop} {s : AS} {x y z : Code} (s0 : AS) (h2 : AWp P z Q s0) (h1 : ∀ W : AS → Prop, (∀ s', Le s' s0 → W s') → AWp P x (thenQ (AWp P y (thenQ W Q)) Q) s) : AWp P (.seq x (.seq y z)) Q s := by
  refine AWp.seq (AWp.mono (h1 (AWp P z Q) fun s' hl => AWp.le hl h2) ?_)
  intro e s' h
  cases e <;> first | exact h | exact AWp.seq h
theorem AWp.keep {P : Program} {c : Code} {Q : Exit → AS → Prop} {s : AS} (lf lm : List Nat) {fr : List (Nat × AV)} {mem : List (Nat × Option AObj)} (hf : keepF s.fr lf = fr) (hm : keepM s.mem lm = mem) (h : AWp P c Q ⟨s.n, fr, mem⟩) : AWp P c Q s :=
  AWp.le (by have := Le.keep s lf lm; rw [hf, hm] at this; exact this) h
abbrev Arity := List (ByteArray × Nat)
def Arity.get (f : Arity) (s : ByteArray) : Option Nat := (f.find? fun x => decide (x.1 = s)).map (·.2)
def headE (f : Arity) (k n : Int) (a : ByteArray) (names : List ByteArray) (na : Nat) : Int :=
  if k = 1 then (if hasB names a then 0 else 6)
  else if k = 2 then (if n < -2147483648 ∨ 2147483647 < n then 3 else 0)
  else if k = 3 then (if n < 0 ∨ 9 < n then 3 else 0)
  else if k = 5 then (if n < 1 ∨ 5 < n then 1 else 0)
  else if k = 6 then (if nameB a then 0 else 7)
  else if k = 4 then (match f.get a with | none => 6 | some m => if m = na then 0 else 5)
  else 0
def manyB (k : Int) (na nc : Nat) : Bool :=
  (if k = 3 ∨ k = 4 then decide (6 < na) else if k = 7 then decide (na ≠ 1) else if k = 5 ∨ k = 6 then decide (na ≠ 2) else decide (na ≠ 0)) || (decide (k ≠ 7) && decide (0 < nc))
mutual
def Tm.wrong (f : Arity) : Tm → List ByteArray → Int → Int
  | .mk k n a _ _ xs cs, names, deep =>
    if 24 < deep then 9 else if k < 1 ∨ 7 < k then 1 else if manyB k xs.length cs.length then 5
    else if headE f k n a names xs.length ≠ 0 then headE f k n a names xs.length
    else if Tm.wrongs f k a names deep 0 xs ≠ 0 then Tm.wrongs f k a names deep 0 xs
    else if k ≠ 7 then 0 else if cs.length = 0 ∨ 5 < cs.length then 5 else Cs.wrongs f names deep [] cs
def Tm.wrongs (f : Arity) (k : Int) (a : ByteArray) (names : List ByteArray) (deep : Int) : Nat → List Tm → Int
  | _, [] => 0
  | i, x :: r => if x.wrong f (if k = 6 ∧ i = 1 then names ++ [a] else names) (deep + 1) ≠ 0 then x.wrong f (if k = 6 ∧ i = 1 then names ++ [a] else names) (deep + 1) else Tm.wrongs f k a names deep (i + 1) r
def Cs.wrongs (f : Arity) (names : List ByteArray) (deep : Int) : List Int → List Cs → Int
  | _, [] => 0
  | had, c :: r => if Cs.wrongC f names deep had c ≠ 0 then Cs.wrongC f names deep had c else Cs.wrongs f names deep (c.tag :: had) r
def Cs.wrongC (f : Arity) (names : List ByteArray) (deep : Int) : List Int → Cs → Int
  | had, .mk t vs b => if t < 0 ∨ 9 < t then 3 else if (had.contains t || twB vs || badB vs) then 7 else if 6 < vs.length then 5 else b.wrong f (names ++ vs) (deep + 1)
end

def Fn.headE (f : Arity) (x : Fn) : Int :=
  if ((f.get x.name).isSome || !nameB x.name || twB x.params || badB x.params) = true then 7
  else if 6 < x.params.length then 5 else if 400 < wr x.body.sz then 4 else 0
def headsE : Arity → List Fn → Int
  | _, [] => 0
  | f, x :: r => if x.headE f ≠ 0 then x.headE f else headsE ((x.name, x.params.length) :: f) r
def arOf (l : List Fn) : Arity := l.reverse.map fun x => (x.name, x.params.length)
theorem arOf_snoc (l : List Fn) (x : Fn) : arOf (l ++ [x]) = (x.name, x.params.length) :: arOf l := by simp [arOf]
def bodiesE (f : Arity) : List Fn → Int
  | [] => 0
  | x :: r => if x.body.wrong f x.params 0 ≠ 0 then x.body.wrong f x.params 0 else bodiesE f r
def checkE (l : List Fn) : Int :=
  if l.length = 0 ∨ 6 < l.length then 5 else if headsE [] l ≠ 0 then headsE [] l else bodiesE (arOf l) l
theorem wrong_zero {f : Arity} {k n : Int} {a b : ByteArray} {vs names : List ByteArray} {xs : List Tm} {cs : List Cs} {deep : Int} (h : (Tm.mk k n a b vs xs cs).wrong f names deep = 0) :
    deep ≤ 24 ∧ 1 ≤ k ∧ k ≤ 7 ∧ manyB k xs.length cs.length = false ∧ headE f k n a names xs.length = 0 ∧ Tm.wrongs f k a names deep 0 xs = 0 ∧ (k = 7 → cs.length ≠ 0 ∧ cs.length ≤ 5 ∧ Cs.wrongs f names deep [] cs = 0) := by
  simp only [Tm.wrong] at h
  split at h
  · cases h
  rename_i h1
  split at h
  · cases h
  rename_i h2
  split at h
  · cases h
  rename_i h3
  split at h
  · rename_i h4; exact absurd h h4
  rename_i h4
  split at h
  · rename_i h5; exact absurd h h5
  rename_i h5
  refine ⟨by omega, by omega, by omega, by simpa using h3, by omega, by omega, fun h7 => ?_⟩
  rw [if_neg (by omega)] at h
  split at h
  · cases h
  rename_i h6
  exact ⟨by omega, by omega, h⟩
theorem wrongs_zero {f : Arity} {k : Int} {a : ByteArray} {names : List ByteArray} {deep : Int} : ∀ {l : List Tm} {i : Nat}, Tm.wrongs f k a names deep i l = 0 →
    ∀ (j : Nat) (x : Tm), l[j]? = some x → x.wrong f (if k = 6 ∧ i + j = 1 then names ++ [a] else names) (deep + 1) = 0
  | [], _, _, j, x, hj => by simp at hj
  | y :: r, i, h, j, x, hj => by
    simp only [Tm.wrongs] at h
    obtain ⟨ns, hns⟩ : ∃ ns, ns = if k = 6 ∧ i = 1 then names ++ [a] else names := ⟨_, rfl⟩
    rw [← hns] at h
    by_cases h1 : y.wrong f ns (deep + 1) = 0
    rotate_left
    · rw [if_pos h1] at h; exact absurd h h1
    rw [if_neg (fun e => e h1)] at h
    match j with
    | 0 =>
      simp at hj; subst hj
      rw [Nat.add_zero, ← hns]
      exact h1
    | j + 1 =>
      have := wrongs_zero h j x (by simpa using hj)
      rwa [show i + 1 + j = i + (j + 1) by omega] at this
theorem cwrongs_zero {f : Arity} {names : List ByteArray} {deep : Int} : ∀ {l : List Cs} {had : List Int}, Cs.wrongs f names deep had l = 0 →
    ∀ {t : Int} {vs : List ByteArray} {b : Tm}, Cs.mk t vs b ∈ l → 0 ≤ t ∧ t ≤ 9 ∧ twB vs = false ∧ badB vs = false ∧ vs.length ≤ 6 ∧ b.wrong f (names ++ vs) (deep + 1) = 0
  | [], _, _, t, vs, b, hm => by cases hm
  | c :: r, had, h, t, vs, b, hm => by
    simp only [Cs.wrongs] at h
    split at h
    · rename_i h1; exact absurd h h1
    rename_i h1
    rcases List.mem_cons.1 hm with rfl | hm
    · have h1 := Decidable.byContradiction fun e => h1 e
      simp only [Cs.wrongC] at h1
      split at h1
      · cases h1
      split at h1
      · cases h1
      split at h1
      · cases h1
      rename_i h2 h3 h4
      simp only [Bool.or_eq_true, not_or, Bool.not_eq_true] at h3
      exact ⟨by omega, by omega, h3.1.2, h3.2, by omega, h1⟩
    · exact cwrongs_zero h hm
def gB : Nat → Nat
  | 0 => 0
  | n + 1 => 1 + 6 * gB n
theorem szs_le {g : Nat} : ∀ {l : List Tm}, (∀ x ∈ l, x.sz ≤ g) → Tm.szs l ≤ l.length * g
  | [], _ => by simp [Tm.szs]
  | x :: r, h => by
    have h1 := h x (List.mem_cons_self ..)
    have h2 := szs_le (l := r) fun y hy => h y (List.mem_cons_of_mem _ hy)
    simp only [Tm.szs, List.length_cons, Nat.succ_mul]
    omega
theorem cszs_le {g : Nat} : ∀ {l : List Cs}, (∀ x ∈ l, x.sz ≤ g) → Cs.szs l ≤ l.length * g
  | [], _ => by simp [Cs.szs]
  | x :: r, h => by
    have h1 := h x (List.mem_cons_self ..)
    have h2 := cszs_le (l := r) fun y hy => h y (List.mem_cons_of_mem _ hy)
    simp only [Cs.szs, List.length_cons, Nat.succ_mul]
    omega
theorem many_six {k : Int} {na nc : Nat} (h : manyB k na nc = false) (h2 : k = 7 → nc ≤ 5) : na + nc ≤ 6 := by
  unfold manyB at h
  simp only [Bool.or_eq_false_iff, Bool.and_eq_false_iff, decide_eq_false_iff_not] at h
  obtain ⟨h, h'⟩ := h
  by_cases h7 : k = 7
  · have := h2 h7
    subst h7
    simp at h
    omega
  · have hc : nc = 0 := by
      rcases h' with h' | h'
      · exact absurd h7 h'
      · omega
    split at h
    · simp at h; omega
    · split at h
      · simp at h; omega
      · simp at h; omega
theorem wrong_sz (f : Arity) : ∀ (N : Nat) (t : Tm) (names : List ByteArray) (n : Nat) (deep : Int), t.sz < N → deep = 25 - (n : Int) → t.wrong f names deep = 0 → t.sz ≤ gB n := by
  intro N
  induction N with
  | zero => intro t _ _ _ h; omega
  | succ N ih =>
  intro t names n deep hN hd h
  obtain ⟨k, m, a, b, vs, xs, cs⟩ := t
  obtain ⟨h1, h2, h3, h4, h5, h6, h7⟩ := wrong_zero h
  match n with
  | 0 => omega
  | n + 1 =>
    have hx : ∀ x ∈ xs, x.sz ≤ gB n := fun x hx => by
      obtain ⟨j, hj⟩ := List.mem_iff_getElem?.1 hx
      exact ih x _ n (deep + 1) (by have := Tm.sz_arg (k := k) (n := m) (a := a) (b := b) (vs := vs) (cs := cs) hx; omega) (by omega) (wrongs_zero h6 j x hj)
    have hc : Cs.szs cs ≤ cs.length * gB n := by
      by_cases h8 : k = 7
      · refine cszs_le fun c hc => ?_
        obtain ⟨g, ws, x⟩ := c
        have := (cwrongs_zero (h7 h8).2.2 hc).2.2.2.2.2
        exact ih x _ n (deep + 1) (by have := Tm.sz_case (k := k) (n := m) (a := a) (b := b) (vs := vs) (xs := xs) hc; omega) (by omega) this
      · have := many_six h4 (fun h => absurd h h8)
        have hl : cs.length = 0 := by
          unfold manyB at h4
          simp only [Bool.or_eq_false_iff, Bool.and_eq_false_iff, decide_eq_false_iff_not] at h4
          rcases h4.2 with h' | h'
          · exact absurd h8 h'
          · omega
        have : cs = [] := List.eq_nil_of_length_eq_zero hl
        subst this
        simp [Cs.szs]
    have h8 := szs_le hx
    have h9 := many_six h4 fun h => (h7 h).2.1
    simp only [Tm.sz, gB]
    have : xs.length * gB n + cs.length * gB n ≤ 6 * gB n := by
      rw [← Nat.add_mul]; exact Nat.mul_le_mul_right _ h9
    omega
theorem wrong_small {f : Arity} {t : Tm} {names : List ByteArray} (h : t.wrong f names 0 = 0) : wr t.sz = t.sz := by
  have h1 := wrong_sz f _ t names 25 0 (Nat.lt_succ_self _) (by omega) h
  have h2 : gB 25 ≤ 9223372036854775807 := by decide +kernel
  exact wr_id ⟨by omega, by omega⟩
theorem mem_addN {s : ByteArray} (more : List ByteArray) : ∀ l : List ByteArray, s ∈ addN l more ↔ s ∈ l ∨ s ∈ more := by
  induction more with
  | nil => intro l; simp [addN]
  | cons x more ih =>
    intro l
    have := ih (if hasB l x then l else l ++ [x])
    simp only [addN, List.foldl_cons] at this ⊢
    rw [this]
    split
    · rename_i h
      have h := hasB_iff.1 h
      simp only [List.mem_cons]
      constructor
      · rintro (h | h)
        · exact .inl h
        · exact .inr (.inr h)
      · rintro (h' | rfl | h')
        · exact .inl h'
        · exact .inl h
        · exact .inr h'
    · simp only [List.mem_append, List.mem_cons, List.not_mem_nil, or_false, or_assoc]
theorem mem_woN {s : ByteArray} {l gone : List ByteArray} : s ∈ woN l gone ↔ s ∈ l ∧ s ∉ gone := by
  unfold woN
  rw [List.mem_filter, ← hasB_not (l := gone)]
  simp
theorem mem_frees {s : ByteArray} (l : List Tm) : ∀ o, s ∈ Tm.frees o l ↔ s ∈ o ∨ ∃ x ∈ l, s ∈ x.free := by
  induction l with
  | nil => intro o; simp [Tm.frees]
  | cons x r ih =>
    intro o
    simp only [Tm.frees, ih, mem_addN, List.mem_cons, exists_eq_or_imp, or_assoc]
theorem mem_cfrees {s : ByteArray} (l : List Cs) : ∀ o, s ∈ Cs.frees o l ↔ s ∈ o ∨ ∃ x ∈ l, s ∈ x.freeC := by
  induction l with
  | nil => intro o; simp [Cs.frees]
  | cons x r ih =>
    intro o
    simp only [Cs.frees, ih, mem_addN, List.mem_cons, exists_eq_or_imp, or_assoc]
theorem wrong_free (f : Arity) : ∀ (N : Nat) (t : Tm) (names : List ByteArray) (deep : Int), t.sz < N → t.wrong f names deep = 0 → ∀ s ∈ t.free, s ∈ names := by
  intro N
  induction N with
  | zero => intro t _ _ h; omega
  | succ N ih =>
  intro t names deep hN h s hs
  obtain ⟨k, m, a, b, vs, xs, cs⟩ := t
  obtain ⟨h1, h2, h3, h4, h5, h6, h7⟩ := wrong_zero h
  have hx : ∀ (j : Nat) (x : Tm), xs[j]? = some x → s ∈ x.free → s ∈ (if k = 6 ∧ 0 + j = 1 then names ++ [a] else names) := fun j x hj hs =>
    ih x _ (deep + 1) (by have := Tm.sz_arg (k := k) (n := m) (a := a) (b := b) (vs := vs) (cs := cs) (List.mem_of_getElem? hj); omega) (wrongs_zero h6 j x hj) s hs
  simp only [Tm.free] at hs
  split at hs
  · rename_i hk
    subst hk
    unfold headE at h5
    rw [if_pos rfl] at h5
    split at h5
    · rename_i hh
      simp at hs
      subst hs
      exact hasB_iff.1 hh
    · cases h5
  split at hs
  · rename_i hk
    obtain ⟨hk, hl⟩ := hk
    match xs, hl with
    | [x, y], _ =>
      simp only [Tm.freeL, Tm.freeB] at hs
      rw [mem_addN, mem_addN, mem_woN] at hs
      rcases hs with (hs | hs) | hs
      · cases hs
      · have := hx 0 x rfl hs
        rwa [if_neg (by omega)] at this
      · have := hx 1 y rfl hs.1
        rw [if_pos (by omega)] at this
        rcases List.mem_append.1 this with h | h
        · exact h
        · exact absurd h hs.2
  · rename_i hk1 hk2
    rw [if_neg (by omega), mem_cfrees, mem_frees] at hs
    rcases hs with (hs | ⟨x, hm, hs⟩) | ⟨c, hm, hs⟩
    · cases hs
    · obtain ⟨j, hj⟩ := List.mem_iff_getElem?.1 hm
      have := hx j x hj hs
      have hj2 : j < xs.length := by
        have := List.getElem?_eq_some_iff.1 hj
        exact this.1
      rw [if_neg] at this
      · exact this
      rintro ⟨rfl, hj1⟩
      unfold manyB at h4
      simp at h4
      simp at hk2
      exact hk2 h4.1
    · have hk7 : k = 7 := by
        unfold manyB at h4
        simp only [Bool.or_eq_false_iff, Bool.and_eq_false_iff, decide_eq_false_iff_not] at h4
        rcases h4.2 with h' | h'
        · omega
        · have := List.length_pos_of_mem hm; omega
      obtain ⟨g, ws, x⟩ := c
      have h8 := (cwrongs_zero (h7 hk7).2.2 hm).2.2.2.2.2
      simp only [Cs.freeC] at hs
      rw [mem_woN] at hs
      have := ih x _ (deep + 1) (by have := Tm.sz_case (k := k) (n := m) (a := a) (b := b) (vs := vs) (xs := xs) hm; omega) h8 s hs.1
      rcases List.mem_append.1 this with h | h
      · exact h
      · exact absurd h hs.2
theorem heads_zero : ∀ {l : List Fn} {f : Arity}, headsE f l = 0 → ∀ x ∈ l, nameB x.name = true ∧ twB x.params = false ∧ badB x.params = false ∧ x.params.length ≤ 6 ∧ wr x.body.sz ≤ 400
  | [], _, _, x, hx => by cases hx
  | y :: r, f, h, x, hx => by
    simp only [headsE] at h
    split at h
    · rename_i h1; exact absurd h h1
    rename_i h1
    rcases List.mem_cons.1 hx with rfl | hx
    · have h1 := Decidable.byContradiction fun e => h1 e
      unfold Fn.headE at h1
      split at h1
      · cases h1
      split at h1
      · cases h1
      split at h1
      · cases h1
      rename_i h2 h3 h4
      simp only [Bool.or_eq_true, not_or, Bool.not_eq_true, Bool.not_eq_false, Bool.not_eq_true'] at h2
      exact ⟨by simpa using h2.1.1.2, h2.1.2, h2.2, by omega, by omega⟩
    · exact heads_zero h x hx
theorem bodies_zero {f : Arity} : ∀ {l : List Fn}, bodiesE f l = 0 → ∀ x ∈ l, x.body.wrong f x.params 0 = 0
  | [], _, x, hx => by cases hx
  | y :: r, h, x, hx => by
    simp only [bodiesE] at h
    split at h
    · rename_i h1; exact absurd h h1
    rename_i h1
    rcases List.mem_cons.1 hx with rfl | hx
    · exact Decidable.byContradiction fun e => h1 e
    · exact bodies_zero h x hx
structure Fn.Right (f : Arity) (x : Fn) : Prop where
  name : nameB x.name = true
  twice : twB x.params = false
  bad : badB x.params = false
  params : x.params.length ≤ 6
  sz : x.body.sz ≤ 400
  wrong : x.body.wrong f x.params 0 = 0
structure Fn.Fit (f : Arity) (x : Fn) : Prop where
  params : x.params.length ≤ 6
  wrong : ∃ deep, x.body.wrong f x.params deep = 0
theorem Fn.Right.fit {f : Arity} {x : Fn} (h : x.Right f) : x.Fit f := ⟨h.params, 0, h.wrong⟩
theorem check_zero {l : List Fn} (h : checkE l = 0) : l.length ≠ 0 ∧ l.length ≤ 6 ∧ headsE [] l = 0 ∧ ∀ x ∈ l, x.Right (arOf l) := by
  unfold checkE at h
  split at h
  · cases h
  split at h
  · rename_i h1; exact absurd h h1
  rename_i h1 h2
  have h2 := Decidable.byContradiction fun e => h2 e
  refine ⟨by omega, by omega, h2, fun x hx => ?_⟩
  obtain ⟨k1, k2, k3, k4, k5⟩ := heads_zero h2 x hx
  have k6 := bodies_zero h x hx
  rw [wrong_small k6] at k5
  exact ⟨k1, k2, k3, k4, by omega, k6⟩
theorem Fn.Right.free {f : Arity} {x : Fn} (h : x.Right f) : ∀ s ∈ x.body.free, s ∈ x.params := wrong_free f _ x.body x.params 0 (Nat.lt_succ_self _) h.wrong
end Go.Proofs.YtapiiklnnkkdlaaDoor
