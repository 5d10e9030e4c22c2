/- xcref1.Free, by the abstract machine. -/
import Derived.Test.YtialccgjbanmcaaDoorFreeC
namespace Go.Proofs.YtialccgjbanmcaaDoor
open Go.RowKit
attribute [local simp] runD mkRc ldOf ldArg noAny dstOk guardOk opEff opEff0 effOp pureOp callOp zEff evA constAV frGet memGet startAS frOf isGoCall idIn AS.after nextR opnIds objIds AV.ids idsL AObj.ids frNo memNo opnAny isAny mkVal rdCells wrCells fldAddr idxAddr srcRows litRows toD1 toDs setAt sliceAV optI partAV bldAV fillAV binAV binI AV.cells callEff calleeOf frKill memKill AV.kill AObj.kill AV.has AV.hasL Op.operands Call.operands keepF keepM viewIds cChk renOf moGet moWs moQ cEff moLike moHave AV.ren renL AObj.ren AObj.like kept startC moMem AV.frz frz1 frzL frSub memSub frzs AS.frz frFrz memFrz AObj.frz takeMap takeLen bleF Nat.ble_eq memAny objAny mapOp D.keyOk rowAV valRow extOp wrapOp phO frLow memLow memLow1 objLow memEmpty Low LowL
set_option linter.unusedVariables false
set_option linter.unusedSimpArgs false

theorem woN_nil (l : List ByteArray) : woN l [] = l := by simp [woN, hasB]
/-- The names of the first of some terms, each with names that are skipped. -/
def rfree (xs : List Tm) (sk : Nat → List ByteArray) (o0 : List ByteArray) : Nat → List ByteArray
  | 0 => o0
  | i + 1 => match xs[i]? with
    | some x => addN (rfree xs sk o0 i) (woN x.free (sk i))
    | none => rfree xs sk o0 i
theorem rfree_snoc {xs : List Tm} (sk : Nat → List ByteArray) (o0 : List ByteArray) {i : Nat} {x : Tm} (hx : xs[i]? = some x) : rfree xs sk o0 (i + 1) = addN (rfree xs sk o0 i) (woN x.free (sk i)) := by
  simp only [rfree, hx]
theorem rfree_len (xs : List Tm) (sk : Nat → List ByteArray) (o0 : List ByteArray) : ∀ i, (rfree xs sk o0 i).length ≤ o0.length + Tm.szs (xs.take i)
  | 0 => by simp [rfree]
  | i + 1 => by
    have ih := rfree_len xs sk o0 i
    simp only [rfree]
    split
    · rename_i x hx
      have h1 := addN_len (woN x.free (sk i)) (rfree xs sk o0 i)
      have h2 := woN_len x.free (sk i)
      have h3 := x.free_len
      have h4 : Tm.szs (xs.take (i + 1)) = Tm.szs (xs.take i) + x.sz := by
        rw [List.take_add_one, hx]
        have : ∀ l : List Tm, Tm.szs (l ++ [x]) = Tm.szs l + x.sz := fun l => by
          induction l with
          | nil => simp [Tm.szs]
          | cons y r ih => simp only [List.cons_append, Tm.szs, ih]; omega
        exact this _
      omega
    · rename_i hx
      have h4 : xs.take (i + 1) = xs.take i := by rw [List.take_add_one, hx]; simp
      rw [h4]; exact ih
theorem rfree_plain (xs : List Tm) (o0 : List ByteArray) : ∀ i, rfree xs (fun _ => []) o0 i = Tm.frees o0 (xs.take i)
  | 0 => by simp [rfree, Tm.frees]
  | i + 1 => by
    have ih := rfree_plain xs o0 i
    simp only [rfree]
    split
    · rename_i x hx
      rw [Tm.frees_snoc hx, ih, woN_nil]
    · rename_i hx
      rw [List.take_add_one, hx, ih]; simp

/-- What the reference skips. -/
def skipA (k : Int) (a : ByteArray) (len i : Nat) : List ByteArray := if k = 6 ∧ len = 2 ∧ i = 1 then [a] else []
theorem skipA_len (k : Int) (a : ByteArray) (len i : Nat) : (skipA k a len i).length ≤ 1 := by unfold skipA; split <;> simp

theorem rfree_all (k : Int) (a : ByteArray) (xs : List Tm) (o0 : List ByteArray) (h : ¬ (k = 6 ∧ xs.length = 2)) : rfree xs (skipA k a xs.length) o0 xs.length = Tm.frees o0 xs := by
  have e : skipA k a xs.length = fun _ => [] := funext fun i => by
    unfold skipA
    rw [if_neg (fun hh => h ⟨hh.1, hh.2.1⟩)]
  rw [e, rfree_plain, List.take_length]
theorem rfree_let (a : ByteArray) (x y : Tm) : rfree [x, y] (skipA 6 a 2) [] 2 = Tm.freeL a [] [x, y] := by
  simp [rfree, skipA, Tm.freeL, Tm.freeB, woN_nil]

def refMem (k n : Int) (a b : ByteArray) (vs : List ByteArray) (xs : List Tm) (cs : List Cs) (L : List ByteArray) : List (Nat × Option AObj) :=
  [(1, tmObj k n a b vs xs cs), (3, some (.blk 28 [.arr 400 0 L.length])), (400, some (.arr 9 1 (L.map strR)))]

set_option maxRecDepth 20000 in
set_option maxHeartbeats 8000000 in
theorem sp_refFree_at : ∀ (N : Nat) (t : Tm), t.sz < N → t.Fit → PSpec Tryd.prog 77 [tmAV t] (fun d => .arr d 0 t.free.length) (some (.arr 9 1 (t.free.map strR))) := by
  intro N
  induction N with
  | zero => intro s h; omega
  | succ N ih =>
  intro t hN hF
  have hO := hF.ok
  obtain ⟨k, n, a, b, vs, xs, cs⟩ := t
  obtain ⟨o1, o2, o3, o4, o5⟩ := hO.vars
  have hsz := sz_all hF
  refine PSpec.ofArrX Tryd.func77 rfl rfl _ (Nat.le_of_ble_eq_true rfl) (fun d => by simp [AV.has, AV.hasL]) ?_
  show AWp _ _ (endX _ Tryd.f77 _ _) (startAS 82 _)
  repeat (first | refine AWp.seq ?_ | refine AWp.block ?_)
  apply AWp.reg [] []
  · conv => lhs; simp
  · trivial
  repeat (first | refine AWp.seq ?_ | refine AWp.block ?_)
  apply AWp.reg [] []
  · conv => lhs; simp
  · trivial
  repeat (first | refine AWp.seq ?_ | refine AWp.block ?_)
  apply AWp.reg [] []
  · conv => lhs; simp
  · trivial
  by_cases e1 : k = 1
  · subst e1
    have hf : (Tm.mk 1 n a b vs xs cs).free = [a] := by simp [Tm.free]
    rw [hf]
    repeat (first | refine AWp.seq ?_ | refine AWp.block ?_)
    apply AWp.reg [] []
    · conv => lhs; simp
    · trivial
    repeat (first | refine AWp.seq ?_ | refine AWp.block ?_)
    apply AWp.reg [] []
    · conv => lhs; simp
    · trivial
    repeat (first | refine AWp.seq ?_ | refine AWp.block ?_)
    refine AWp.cond rfl (fun h => ?_) (fun h => ?_)
    · repeat (first | refine AWp.seq ?_ | refine AWp.block ?_)
      apply AWp.reg [] []
      · conv => lhs; simp
      · first | trivial | omega | (simp [inI, maxLen]; done) | (simp [inI, maxLen]; omega)
      refine AWp.ret ?_
      try dsimp only [thenQ, blockQ]
      apply endX.ret 17
      · conv => lhs; simp [resAV, Tryd.results77]
      · rfl
      · rfl
      · rfl
    · simp at h
  obtain ⟨o0, ho0⟩ : ∃ o0, o0 = if 8 ≤ k ∧ k ≤ 11 then [a] else [] := ⟨_, rfl⟩
  have hl0 : o0.length ≤ 1 := by rw [ho0]; split <;> simp
  refine AWp.seqJ ⟨82, [(1, .ptr 1 0), (3, .ptr 3 0), (4, .clo 107 [.ptr 3 0])], refMem k n a b vs xs cs o0⟩ ?_ (fun W hW => ?_)
  rotate_left
  · by_cases k8 : k = 8
    · subst k8
      rw [if_pos (by omega)] at ho0
      subst ho0
      repeat (first | refine AWp.seq ?_ | refine AWp.block ?_)
      apply AWp.reg [] []
      · conv => lhs; simp
      · trivial
      repeat (first | refine AWp.seq ?_ | refine AWp.block ?_)
      apply AWp.reg [] []
      · conv => lhs; simp
      · trivial
      repeat (first | refine AWp.seq ?_ | refine AWp.block ?_)
      refine AWp.cond rfl (fun h => ?_) (fun h => ?_)
      · simp at h
      repeat (first | refine AWp.seq ?_ | refine AWp.block ?_)
      apply AWp.reg [] []
      · conv => lhs; simp
      · trivial
      repeat (first | refine AWp.seq ?_ | refine AWp.block ?_)
      refine AWp.cond rfl (fun h0 => ?_) (fun h0 => ?_)
      rotate_left
      · simp at h0
      refine AWp.skip ?_
      repeat (first | refine AWp.seq ?_ | refine AWp.block ?_)
      refine AWp.cond rfl (fun h6 => ?_) (fun h6 => ?_)
      rotate_left
      · simp at h6
      repeat (first | refine AWp.seq ?_ | refine AWp.block ?_)
      apply AWp.reg [] []
      · conv => lhs; simp
      · first | trivial | omega | (simp [inI, maxLen]; done) | (simp [inI, maxLen]; omega)
      exact hW _ (Le.trans (Le.swap _ 25 400 rfl rfl) (Le.sub (by simp [AS.swap, swN]) (by simp [AS.swap, swN, refMem, tmObj])))
    by_cases k9 : k = 9
    · subst k9
      rw [if_pos (by omega)] at ho0
      subst ho0
      repeat (first | refine AWp.seq ?_ | refine AWp.block ?_)
      apply AWp.reg [] []
      · conv => lhs; simp
      · trivial
      repeat (first | refine AWp.seq ?_ | refine AWp.block ?_)
      apply AWp.reg [] []
      · conv => lhs; simp
      · trivial
      repeat (first | refine AWp.seq ?_ | refine AWp.block ?_)
      refine AWp.cond rfl (fun h => ?_) (fun h => ?_)
      · simp at h
      repeat (first | refine AWp.seq ?_ | refine AWp.block ?_)
      apply AWp.reg [] []
      · conv => lhs; simp
      · trivial
      repeat (first | refine AWp.seq ?_ | refine AWp.block ?_)
      refine AWp.cond rfl (fun h0 => ?_) (fun h0 => ?_)
      · simp at h0
      repeat (first | refine AWp.seq ?_ | refine AWp.block ?_)
      apply AWp.reg [] []
      · conv => lhs; simp
      · trivial
      repeat (first | refine AWp.seq ?_ | refine AWp.block ?_)
      refine AWp.cond rfl (fun h1 => ?_) (fun h1 => ?_)
      rotate_left
      · simp at h1
      refine AWp.skip ?_
      repeat (first | refine AWp.seq ?_ | refine AWp.block ?_)
      refine AWp.cond rfl (fun h6 => ?_) (fun h6 => ?_)
      rotate_left
      · simp at h6
      repeat (first | refine AWp.seq ?_ | refine AWp.block ?_)
      apply AWp.reg [] []
      · conv => lhs; simp
      · first | trivial | omega | (simp [inI, maxLen]; done) | (simp [inI, maxLen]; omega)
      exact hW _ (Le.trans (Le.swap _ 25 400 rfl rfl) (Le.sub (by simp [AS.swap, swN]) (by simp [AS.swap, swN, refMem, tmObj])))
    by_cases k10 : k = 10
    · subst k10
      rw [if_pos (by omega)] at ho0
      subst ho0
      repeat (first | refine AWp.seq ?_ | refine AWp.block ?_)
      apply AWp.reg [] []
      · conv => lhs; simp
      · trivial
      repeat (first | refine AWp.seq ?_ | refine AWp.block ?_)
      apply AWp.reg [] []
      · conv => lhs; simp
      · trivial
      repeat (first | refine AWp.seq ?_ | refine AWp.block ?_)
      refine AWp.cond rfl (fun h => ?_) (fun h => ?_)
      · simp at h
      repeat (first | refine AWp.seq ?_ | refine AWp.block ?_)
      apply AWp.reg [] []
      · conv => lhs; simp
      · trivial
      repeat (first | refine AWp.seq ?_ | refine AWp.block ?_)
      refine AWp.cond rfl (fun h0 => ?_) (fun h0 => ?_)
      · simp at h0
      repeat (first | refine AWp.seq ?_ | refine AWp.block ?_)
      apply AWp.reg [] []
      · conv => lhs; simp
      · trivial
      repeat (first | refine AWp.seq ?_ | refine AWp.block ?_)
      refine AWp.cond rfl (fun h1 => ?_) (fun h1 => ?_)
      · simp at h1
      repeat (first | refine AWp.seq ?_ | refine AWp.block ?_)
      apply AWp.reg [] []
      · conv => lhs; simp
      · trivial
      repeat (first | refine AWp.seq ?_ | refine AWp.block ?_)
      refine AWp.cond rfl (fun h2 => ?_) (fun h2 => ?_)
      rotate_left
      · simp at h2
      refine AWp.skip ?_
      repeat (first | refine AWp.seq ?_ | refine AWp.block ?_)
      refine AWp.cond rfl (fun h6 => ?_) (fun h6 => ?_)
      rotate_left
      · simp at h6
      repeat (first | refine AWp.seq ?_ | refine AWp.block ?_)
      apply AWp.reg [] []
      · conv => lhs; simp
      · first | trivial | omega | (simp [inI, maxLen]; done) | (simp [inI, maxLen]; omega)
      exact hW _ (Le.trans (Le.swap _ 25 400 rfl rfl) (Le.sub (by simp [AS.swap, swN]) (by simp [AS.swap, swN, refMem, tmObj])))
    by_cases k11 : k = 11
    · subst k11
      rw [if_pos (by omega)] at ho0
      subst ho0
      repeat (first | refine AWp.seq ?_ | refine AWp.block ?_)
      apply AWp.reg [] []
      · conv => lhs; simp
      · trivial
      repeat (first | refine AWp.seq ?_ | refine AWp.block ?_)
      apply AWp.reg [] []
      · conv => lhs; simp
      · trivial
      repeat (first | refine AWp.seq ?_ | refine AWp.block ?_)
      refine AWp.cond rfl (fun h => ?_) (fun h => ?_)
      · simp at h
      repeat (first | refine AWp.seq ?_ | refine AWp.block ?_)
      apply AWp.reg [] []
      · conv => lhs; simp
      · trivial
      repeat (first | refine AWp.seq ?_ | refine AWp.block ?_)
      refine AWp.cond rfl (fun h0 => ?_) (fun h0 => ?_)
      · simp at h0
      repeat (first | refine AWp.seq ?_ | refine AWp.block ?_)
      apply AWp.reg [] []
      · conv => lhs; simp
      · trivial
      repeat (first | refine AWp.seq ?_ | refine AWp.block ?_)
      refine AWp.cond rfl (fun h1 => ?_) (fun h1 => ?_)
      · simp at h1
      repeat (first | refine AWp.seq ?_ | refine AWp.block ?_)
      apply AWp.reg [] []
      · conv => lhs; simp
      · trivial
      repeat (first | refine AWp.seq ?_ | refine AWp.block ?_)
      refine AWp.cond rfl (fun h2 => ?_) (fun h2 => ?_)
      · simp at h2
      repeat (first | refine AWp.seq ?_ | refine AWp.block ?_)
      apply AWp.reg [] []
      · conv => lhs; simp
      · trivial
      repeat (first | refine AWp.seq ?_ | refine AWp.block ?_)
      refine AWp.cond rfl (fun h6 => ?_) (fun h6 => ?_)
      rotate_left
      · simp at h6
      repeat (first | refine AWp.seq ?_ | refine AWp.block ?_)
      apply AWp.reg [] []
      · conv => lhs; simp
      · first | trivial | omega | (simp [inI, maxLen]; done) | (simp [inI, maxLen]; omega)
      exact hW _ (Le.trans (Le.swap _ 25 400 rfl rfl) (Le.sub (by simp [AS.swap, swN]) (by simp [AS.swap, swN, refMem, tmObj])))
    rw [if_neg (by omega)] at ho0
    subst ho0
    repeat (first | refine AWp.seq ?_ | refine AWp.block ?_)
    apply AWp.reg [] []
    · conv => lhs; simp
    · trivial
    repeat (first | refine AWp.seq ?_ | refine AWp.block ?_)
    apply AWp.reg [] []
    · conv => lhs; simp [e1]
    · trivial
    repeat (first | refine AWp.seq ?_ | refine AWp.block ?_)
    refine AWp.cond rfl (fun h => ?_) (fun h => ?_)
    · cases h
    repeat (first | refine AWp.seq ?_ | refine AWp.block ?_)
    apply AWp.reg [] []
    · conv => lhs; simp [k8]
    · trivial
    repeat (first | refine AWp.seq ?_ | refine AWp.block ?_)
    refine AWp.cond rfl (fun h0 => ?_) (fun h0 => ?_)
    · cases h0
    repeat (first | refine AWp.seq ?_ | refine AWp.block ?_)
    apply AWp.reg [] []
    · conv => lhs; simp [k9]
    · trivial
    repeat (first | refine AWp.seq ?_ | refine AWp.block ?_)
    refine AWp.cond rfl (fun h1 => ?_) (fun h1 => ?_)
    · cases h1
    repeat (first | refine AWp.seq ?_ | refine AWp.block ?_)
    apply AWp.reg [] []
    · conv => lhs; simp [k10]
    · trivial
    repeat (first | refine AWp.seq ?_ | refine AWp.block ?_)
    refine AWp.cond rfl (fun h2 => ?_) (fun h2 => ?_)
    · cases h2
    repeat (first | refine AWp.seq ?_ | refine AWp.block ?_)
    apply AWp.reg [] []
    · conv => lhs; simp [k11]
    · trivial
    repeat (first | refine AWp.seq ?_ | refine AWp.block ?_)
    refine AWp.cond rfl (fun h6 => ?_) (fun h6 => ?_)
    · cases h6
    refine AWp.skip ?_
    exact hW _ (Le.low [400] [] rfl (by simp) (by simp [refMem, tmObj]))
  repeat (first | refine AWp.seq ?_ | refine AWp.block ?_)
  apply AWp.reg [] []
  · conv => lhs; simp [refMem, tmObj]
  · trivial
  repeat (first | refine AWp.seq ?_ | refine AWp.block ?_)
  refine AWp.loop (σ := fun u : {i : Nat // i ≤ xs.length} => ⟨82, [(1, .ptr 1 0), (3, .ptr 3 0), (4, .clo 107 [.ptr 3 0]), (27, .d (.sl (xs.map Tm.row))), (28, .d (.int xs.length)), (29, .d (.int u.1))], refMem k n a b vs xs cs (rfree xs (skipA k a xs.length) o0 u.1)⟩)
    (μ := fun u => xs.length - u.1) ⟨0, Nat.zero_le _⟩ (Le.sub (by simp [rfree]) (by simp [rfree, refMem, tmObj])) (fun ⟨i, hi⟩ => ?_)
  dsimp only
  have hL0 := rfree_len xs (skipA k a xs.length) o0 i
  have hS : ∀ x, xs[i]? = some x → _ := fun x => rfree_snoc (skipA k a xs.length) o0 (x := x) (i := i)
  obtain ⟨L, hL⟩ : ∃ L, L = rfree xs (skipA k a xs.length) o0 i := ⟨_, rfl⟩
  rw [← hL] at hL0 hS ⊢
  repeat (first | refine AWp.seq ?_ | refine AWp.block ?_)
  apply AWp.reg [] []
  · conv => lhs; simp
  · trivial
  repeat (first | refine AWp.seq ?_ | refine AWp.block ?_)
  refine AWp.cond rfl (fun h => ?_) (fun h => ?_)
  · have hi1 : i < xs.length := by have := of_decide_eq_true h; omega
    have h1 : xs[i]? = some xs[i] := List.getElem?_eq_getElem hi1
    have hmem : xs[i] ∈ xs := List.getElem_mem hi1
    generalize xs[i] = x at h1 hmem
    have hx := ih x (by have := Tm.sz_arg (k := k) (n := n) (a := a) (b := b) (vs := vs) (cs := cs) hmem; omega) (hF.arg hmem)
    have lx := x.free_len
    have lt := Tm.szs_take h1
    have hsk := skipA_len k a xs.length i
    have had := cs_Free1 L x.free (skipA k a xs.length i) (by omega) (by omega)
    have hS1 := hS x h1
    have hskd : skipA k a xs.length i = if k = 6 ∧ xs.length = 2 ∧ i = 1 then [a] else [] := rfl
    generalize skipA k a xs.length i = sk at hskd had hS1
    obtain ⟨L', hS0⟩ : ∃ L', L' = rfree xs (skipA k a xs.length) o0 (i + 1) := ⟨_, rfl⟩
    rw [← hS0] at hS1
    generalize x.free = fx at *
    rw [← hS1] at had
    obtain ⟨xk, xn, xa, xb, xv, xx, xc⟩ := x
    refine AWp.skip ?_
    repeat (first | refine AWp.seq ?_ | refine AWp.block ?_)
    apply AWp.reg [] []
    · conv => lhs; simp [h1, Tm.row, Tm.rows_eq, Cs.rows_eq]
    · first | trivial | omega | (simp [inI, maxLen]; done) | (simp [inI, maxLen]; omega)
    repeat (first | refine AWp.seq ?_ | refine AWp.block ?_)
    apply AWp.reg [] []
    · conv => lhs; simp
    · trivial
    refine AWp.seqJ ⟨82, [(1, .ptr 1 0), (3, .ptr 3 0), (4, .clo 107 [.ptr 3 0]), (6, .ptr 6 0), (7, strsAV sk), (27, .d (.sl (xs.map Tm.row))), (28, .d (.int xs.length)), (29, .d (.int i))], (6, tmObj xk xn xa xb xv xx xc) :: refMem k n a b vs xs cs L⟩ ?_ (fun W1 hW1 => ?_)
    rotate_left
    · by_cases k6 : k = 6
      · subst k6
        by_cases k7 : xs.length = 2
        · have k7' : (xs.length : Int) = 2 := by omega
          by_cases k8 : i = 1
          · have k8' : (i : Int) = 1 := by omega
            rw [if_pos ⟨rfl, k7, k8⟩] at hskd
            subst hskd
            repeat (first | refine AWp.seq ?_ | refine AWp.block ?_)
            apply AWp.reg [] []
            · conv => lhs; simp [k7', k8', refMem, tmObj]
            · first | trivial | omega | (simp [inI, maxLen]; done) | (simp [inI, maxLen]; omega)
            repeat (first | refine AWp.seq ?_ | refine AWp.block ?_)
            refine AWp.cond rfl (fun h2 => ?_) (fun h2 => ?_)
            rotate_left
            · simp at h2
            repeat (first | refine AWp.seq ?_ | refine AWp.block ?_)
            apply AWp.reg [2] []
            · conv => lhs; simp
            · first | trivial | omega | (simp [inI, maxLen]; done) | (simp [inI, maxLen]; omega)
            exact hW1 _ (Le.low [] [] rfl (by simp [strsD, k7', k8']) (by simp [refMem, tmObj]))
          · have k8' : ¬ (i : Int) = 1 := by omega
            rw [if_neg (fun hh => k8 hh.2.2)] at hskd
            subst hskd
            repeat (first | refine AWp.seq ?_ | refine AWp.block ?_)
            apply AWp.reg [] []
            · conv => lhs; simp [k7', k8', refMem, tmObj]
            · first | trivial | omega | (simp [inI, maxLen]; done) | (simp [inI, maxLen]; omega)
            repeat (first | refine AWp.seq ?_ | refine AWp.block ?_)
            refine AWp.cond rfl (fun h2 => ?_) (fun h2 => ?_)
            · cases h2
            refine AWp.skip ?_
            exact hW1 _ (Le.low [] [] rfl (by simp [strsD, k7']) (by simp [refMem, tmObj]))
        · have k7' : ¬ (xs.length : Int) = 2 := by omega
          rw [if_neg (fun hh => k7 hh.2.1)] at hskd
          subst hskd
          repeat (first | refine AWp.seq ?_ | refine AWp.block ?_)
          apply AWp.reg [] []
          · conv => lhs; simp [k7', refMem, tmObj]
          · first | trivial | omega | (simp [inI, maxLen]; done) | (simp [inI, maxLen]; omega)
          repeat (first | refine AWp.seq ?_ | refine AWp.block ?_)
          refine AWp.cond rfl (fun h2 => ?_) (fun h2 => ?_)
          · cases h2
          refine AWp.skip ?_
          exact hW1 _ (Le.low [] [] rfl (by simp [strsD]) (by simp [refMem, tmObj]))
      · rw [if_neg (fun hh => k6 hh.1)] at hskd
        subst hskd
        repeat (first | refine AWp.seq ?_ | refine AWp.block ?_)
        apply AWp.reg [] []
        · conv => lhs; simp [k6, refMem, tmObj]
        · first | trivial | omega | (simp [inI, maxLen]; done) | (simp [inI, maxLen]; omega)
        repeat (first | refine AWp.seq ?_ | refine AWp.block ?_)
        refine AWp.cond rfl (fun h2 => ?_) (fun h2 => ?_)
        · cases h2
        refine AWp.skip ?_
        exact hW1 _ (Le.low [] [] rfl (by simp [strsD]) (by simp [refMem, tmObj]))
    repeat (first | refine AWp.seq ?_ | refine AWp.block ?_)
    apply AWp.reg [2] [.p (fun d => .arr d 0 fx.length) (some (.arr 9 1 (fx.map strR))), .c [(1000, 3), (500, 400)] [strsAV fx, strsAV sk, .ptr 1000 0] [(1000, .blk 28 [.arr 500 0 L.length]), (500, .arr 9 1 (L.map strR))] (resVal []) [(1000, .blk 28 [.arr 500 0 L'.length]), (500, .arr 9 1 (L'.map strR))]]
    · conv => lhs; simp [tmAV, tmObj, refMem, resVal]
    · exact ⟨hx, had⟩
    repeat (first | refine AWp.seq ?_ | refine AWp.block ?_)
    apply AWp.reg [] []
    · conv => lhs; simp
    · first | trivial | omega | (simp [inI, maxLen]; done) | (simp [inI, maxLen]; omega)
    refine ⟨⟨i + 1, hi1⟩, by simp; omega, ?_⟩
    dsimp only
    rw [← hS0]
    exact Le.sub (by simp) (by simp [tmObj, refMem])
  have hi1 : i = xs.length := by have := of_decide_eq_false h; omega
  subst hi1
  clear h hS
  have hlx : Tm.szs (xs.take xs.length) = Tm.szs xs := by rw [List.take_length]
  refine AWp.exit ?_
  by_cases e6 : k = 6 ∧ xs.length = 2
  · have hf : (Tm.mk k n a b vs xs cs).free = L := by
      obtain ⟨e6, e7⟩ := e6
      rw [hL, ho0, e6]
      match xs, e7 with
      | [x, y], _ =>
        rw [if_neg (by omega)]
        refine Eq.trans ?_ (rfree_let a x y).symm
        simp [Tm.free]
    rw [hf]
    obtain ⟨e6, e7⟩ := e6
    subst e6
    have k7' : (xs.length : Int) = 2 := by omega
    repeat (first | refine AWp.seq ?_ | refine AWp.block ?_)
    apply AWp.reg [] []
    · conv => lhs; simp [k7', refMem, tmObj]
    · first | trivial | omega | (simp [inI, maxLen]; done) | (simp [inI, maxLen]; omega)
    repeat (first | refine AWp.seq ?_ | refine AWp.block ?_)
    refine AWp.cond rfl (fun h => ?_) (fun h => ?_)
    rotate_left
    · cases h
    repeat (first | refine AWp.seq ?_ | refine AWp.block ?_)
    apply AWp.reg [] []
    · conv => lhs; simp
    · first | trivial | omega | (simp [inI, maxLen]; done) | (simp [inI, maxLen]; omega)
    refine AWp.ret ?_
    try dsimp only [thenQ, blockQ]
    apply endX.ret 400
    · conv => lhs; simp [resAV, Tryd.results77]
    · rfl
    · rfl
    · rfl
  have hf : (Tm.mk k n a b vs xs cs).free = Cs.frees L cs := by
    simp only [Tm.free, if_neg e1, if_neg e6]
    rw [hL, rfree_all k a xs o0 e6, ho0]
  rw [hf]
  refine AWp.seqJ ⟨82, [(1, .ptr 1 0), (3, .ptr 3 0), (4, .clo 107 [.ptr 3 0])], refMem k n a b vs xs cs L⟩ ?_ (fun W1 hW1 => ?_)
  rotate_left
  · by_cases k6 : k = 6
    · subst k6
      have k7' : ¬ (xs.length : Int) = 2 := fun hh => e6 ⟨rfl, by omega⟩
      repeat (first | refine AWp.seq ?_ | refine AWp.block ?_)
      apply AWp.reg [] []
      · conv => lhs; simp [k7', refMem, tmObj]
      · first | trivial | omega | (simp [inI, maxLen]; done) | (simp [inI, maxLen]; omega)
      repeat (first | refine AWp.seq ?_ | refine AWp.block ?_)
      refine AWp.cond rfl (fun h2 => ?_) (fun h2 => ?_)
      · cases h2
      refine AWp.skip ?_
      exact hW1 _ (Le.sub (by simp) (by simp [refMem, tmObj]))
    · repeat (first | refine AWp.seq ?_ | refine AWp.block ?_)
      apply AWp.reg [] []
      · conv => lhs; simp [k6, refMem, tmObj]
      · first | trivial | omega | (simp [inI, maxLen]; done) | (simp [inI, maxLen]; omega)
      repeat (first | refine AWp.seq ?_ | refine AWp.block ?_)
      refine AWp.cond rfl (fun h2 => ?_) (fun h2 => ?_)
      · cases h2
      refine AWp.skip ?_
      exact hW1 _ (Le.sub (by simp) (by simp [refMem, tmObj]))
  repeat (first | refine AWp.seq ?_ | refine AWp.block ?_)
  apply AWp.reg [] []
  · conv => lhs; simp [refMem, tmObj]
  · trivial
  repeat (first | refine AWp.seq ?_ | refine AWp.block ?_)
  refine AWp.loop (σ := fun u : {i : Nat // i ≤ cs.length} => ⟨82, [(1, .ptr 1 0), (3, .ptr 3 0), (4, .clo 107 [.ptr 3 0]), (67, .d (.sl (cs.map Cs.row))), (68, .d (.int cs.length)), (69, .d (.int u.1))], refMem k n a b vs xs cs (Cs.frees L (cs.take u.1))⟩)
    (μ := fun u => cs.length - u.1) ⟨0, Nat.zero_le _⟩ (Le.sub (by simp [Cs.frees]) (by simp [Cs.frees, refMem, tmObj])) (fun ⟨i, hi⟩ => ?_)
  dsimp only
  have hM0 := Cs.frees_len (cs.take i) L
  have hS : ∀ x, cs[i]? = some x → Cs.frees L (cs.take (i + 1)) = addN (Cs.frees L (cs.take i)) x.freeC := fun x => Cs.frees_snoc
  obtain ⟨M, hM⟩ : ∃ M, M = Cs.frees L (cs.take i) := ⟨_, rfl⟩
  rw [← hM] at hM0 hS ⊢
  repeat (first | refine AWp.seq ?_ | refine AWp.block ?_)
  apply AWp.reg [] []
  · conv => lhs; simp
  · trivial
  repeat (first | refine AWp.seq ?_ | refine AWp.block ?_)
  refine AWp.cond rfl (fun h => ?_) (fun h => ?_)
  · have hi1 : i < cs.length := by have := of_decide_eq_true h; omega
    have h1 : cs[i]? = some cs[i] := List.getElem?_eq_getElem hi1
    have hmem : cs[i] ∈ cs := List.getElem_mem hi1
    generalize cs[i] = x at h1 hmem
    have lx := x.freeC_len
    have lt := Cs.szs_take h1
    have hS1 := hS x h1
    obtain ⟨g, ws, x⟩ := x
    obtain ⟨oc1, oc2⟩ := hF.case hmem
    have hx := ih x (by have := Tm.sz_case (k := k) (n := n) (a := a) (b := b) (vs := vs) (xs := xs) hmem; omega) oc1
    have lx2 := x.free_len
    have hsz2 : (Cs.mk g ws x).sz = x.sz := rfl
    simp only [Cs.freeC] at hS1
    have had := cs_Free1 M x.free ws (by omega) (by omega)
    rw [← hS1] at had
    obtain ⟨M', hM'⟩ : ∃ M', M' = Cs.frees L (cs.take (i + 1)) := ⟨_, rfl⟩
    rw [← hM'] at had
    generalize x.free = fx at *
    obtain ⟨xk, xn, xa, xb, xv, xx, xc⟩ := x
    refine AWp.skip ?_
    repeat (first | refine AWp.seq ?_ | refine AWp.block ?_)
    apply AWp.reg [] []
    · conv => lhs; simp [h1, Cs.row, Tm.row, Tm.rows_eq, Cs.rows_eq]
    · first | trivial | omega | (simp [inI, maxLen]; done) | (simp [inI, maxLen]; omega)
    repeat (first | refine AWp.seq ?_ | refine AWp.block ?_)
    apply AWp.draw [3] [.p (fun d => .arr d 0 fx.length) (some (.arr 9 1 (fx.map strR))), .c [(1000, 3), (500, 400)] [strsAV fx, strsAV ws, .ptr 1000 0] [(1000, .blk 28 [.arr 500 0 M.length]), (500, .arr 9 1 (M.map strR))] (resVal []) [(1000, .blk 28 [.arr 500 0 M'.length]), (500, .arr 9 1 (M'.map strR))]] mixed
    · conv => lhs; simp [tmAV, tmObj, refMem, resVal]
    · kernel_rfl
    · exact ⟨hx, had⟩
    repeat (first | refine AWp.seq ?_ | refine AWp.block ?_)
    apply AWp.reg [] []
    · conv => lhs; simp
    · first | trivial | omega | (simp [inI, maxLen]; done) | (simp [inI, maxLen]; omega)
    refine ⟨⟨i + 1, hi1⟩, by simp; omega, ?_⟩
    dsimp only
    rw [← hM']
    exact Le.sub (by simp) (by simp [tmObj, refMem])
  have hi1 : i = cs.length := by have := of_decide_eq_false h; omega
  subst hi1
  rw [List.take_length] at hM
  rw [← hM]
  refine AWp.exit ?_
  repeat (first | refine AWp.seq ?_ | refine AWp.block ?_)
  apply AWp.reg [] []
  · conv => lhs; simp [refMem]
  · trivial
  refine AWp.ret ?_
  try dsimp only [thenQ, blockQ]
  apply endX.ret 400
  · conv => lhs; simp [resAV, Tryd.results77]
  · rfl
  · rfl
  · rfl

theorem sp_refFree (t : Tm) (h : t.Fit) : PSpec Tryd.prog 77 [tmAV t] (fun d => .arr d 0 t.free.length) (some (.arr 9 1 (t.free.map strR))) := sp_refFree_at _ t (Nat.lt_succ_self _) h
end Go.Proofs.YtialccgjbanmcaaDoor
