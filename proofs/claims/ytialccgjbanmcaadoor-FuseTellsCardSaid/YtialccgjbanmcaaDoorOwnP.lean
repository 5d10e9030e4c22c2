import Derived.Test.YtialccgjbanmcaaDoorFreeC
import Derived.RangeFuncNested
import Derived.RangeFuncWrites
import Derived.RangeFuncBound
import Derived.RangeFuncCalls
import Derived.RangeFuncLeaves
import Derived.RangeFuncBox
import Derived.Shelf.Abstract
import Derived.WalkKit
import Derived.OwnWalkIn
import Derived.TacticsInMore
import Derived.LoopNIn
import Derived.LoopIn
import Derived.Test.YtialccgjbanmcaaDoorNamesA
/- xcref1.Free, by the abstract machine. -/
namespace Go.Proofs.YtialccgjbanmcaaDoor
open Go.RowKit
attribute [local simp] runD mkRc ldOf ldArg noAny dstOk guardOk opEff opEff0 effOp pureOp callOp zEff evA constAV frGet memGet startAS frOf isGoCall idIn AS.after nextR opnIds objIds AV.ids idsL AObj.ids frNo memNo opnAny isAny mkVal rdCells wrCells fldAddr idxAddr srcRows litRows toD1 toDs setAt sliceAV optI partAV bldAV fillAV binAV binI AV.cells callEff calleeOf frKill memKill AV.kill AObj.kill AV.has AV.hasL Op.operands Call.operands keepF keepM viewIds cChk renOf moGet moWs moQ cEff moLike moHave AV.ren renL AObj.ren AObj.like kept startC moMem AV.frz frz1 frzL frSub memSub frzs AS.frz frFrz memFrz AObj.frz takeMap takeLen bleF Nat.ble_eq memAny objAny mapOp D.keyOk rowAV valRow extOp wrapOp phO frLow memLow memLow1 objLow memEmpty Low LowL
set_option linter.unusedVariables false
set_option linter.unusedSimpArgs false

theorem woN_nil (l : List ByteArray) : woN l [] = l := by simp [woN, hasB]
/-- The names of the first of some terms, each with names that are skipped. -/
def rfree (xs : List Tm) (sk : Nat → List ByteArray) (o0 : List ByteArray) : Nat → List ByteArray
  | 0 => o0
  | i + 1 => match xs[i]? with
    | some x => addN (rfree xs sk o0 i) (woN x.free (sk i))
    | none => rfree xs sk o0 i
theorem rfree_snoc {xs : List Tm} (sk : Nat → List ByteArray) (o0 : List ByteArray) {i : Nat} {x : Tm} (hx : xs[i]? = some x) : rfree xs sk o0 (i + 1) = addN (rfree xs sk o0 i) (woN x.free (sk i)) := by
  simp only [rfree, hx]
theorem rfree_len (xs : List Tm) (sk : Nat → List ByteArray) (o0 : List ByteArray) : ∀ i, (rfree xs sk o0 i).length ≤ o0.length + Tm.szs (xs.take i)
  | 0 => by simp [rfree]
  | i + 1 => by
    have ih := rfree_len xs sk o0 i
    simp only [rfree]
    split
    · rename_i x hx
      have h1 := addN_len (woN x.free (sk i)) (rfree xs sk o0 i)
      have h2 := woN_len x.free (sk i)
      have h3 := x.free_len
      have h4 : Tm.szs (xs.take (i + 1)) = Tm.szs (xs.take i) + x.sz := by
        rw [List.take_add_one, hx]
        have : ∀ l : List Tm, Tm.szs (l ++ [x]) = Tm.szs l + x.sz := fun l => by
          induction l with
          | nil => simp [Tm.szs]
          | cons y r ih => simp only [List.cons_append, Tm.szs, ih]; omega
        exact this _
      omega
    · rename_i hx
      have h4 : xs.take (i + 1) = xs.take i := by rw [List.take_add_one, hx]; simp
      rw [h4]; exact ih
theorem rfree_plain (xs : List Tm) (o0 : List ByteArray) : ∀ i, rfree xs (fun _ => []) o0 i = Tm.frees o0 (xs.take i)
  | 0 => by simp [rfree, Tm.frees]
  | i + 1 => by
    have ih := rfree_plain xs o0 i
    simp only [rfree]
    split
    · rename_i x hx
      rw [Tm.frees_snoc hx, ih, woN_nil]
    · rename_i hx
      rw [List.take_add_one, hx, ih]; simp

/-- What the reference skips. -/
def skipA (k : Int) (a : ByteArray) (len i : Nat) : List ByteArray := if k = 6 ∧ len = 2 ∧ i = 1 then [a] else []
theorem skipA_len (k : Int) (a : ByteArray) (len i : Nat) : (skipA k a len i).length ≤ 1 := by unfold skipA; split <;> simp

theorem rfree_all (k : Int) (a : ByteArray) (xs : List Tm) (o0 : List ByteArray) (h : ¬ (k = 6 ∧ xs.length = 2)) : rfree xs (skipA k a xs.length) o0 xs.length = Tm.frees o0 xs := by
  have e : skipA k a xs.length = fun _ => [] := funext fun i => by
    unfold skipA
    rw [if_neg (fun hh => h ⟨hh.1, hh.2.1⟩)]
  rw [e, rfree_plain, List.take_length]
theorem rfree_let (a : ByteArray) (x y : Tm) : rfree [x, y] (skipA 6 a 2) [] 2 = Tm.freeL a [] [x, y] := by
  simp [rfree, skipA, Tm.freeL, Tm.freeB, woN_nil]

def refMem (k n : Int) (a b : ByteArray) (vs : List ByteArray) (xs : List Tm) (cs : List Cs) (L : List ByteArray) : List (Nat × Option AObj) :=
  [(1, tmObj k n a b vs xs cs), (3, some (.blk 28 [.arr 400 0 L.length])), (400, some (.arr 9 1 (L.map strR)))]

set_option maxRecDepth 20000 in
set_option maxHeartbeats 8000000 in
theorem sp_refFree_at : ∀ (N : Nat) (t : Tm), t.sz < N → t.Fit → PSpec Tryd.prog 77 [tmAV t] (fun d => .arr d 0 t.free.length) (some (.arr 9 1 (t.free.map strR))) := by
  intro N
  induction N with
  | zero => intro s h; omega
  | succ N ih =>
  intro t hN hF
  have hO := hF.ok
  obtain ⟨k, n, a, b, vs, xs, cs⟩ := t
  obtain ⟨o1, o2, o3, o4, o5⟩ := hO.vars
  have hsz := sz_all hF
  refine PSpec.ofArrX Tryd.func77 rfl rfl _ (Nat.le_of_ble_eq_true rfl) (fun d => by simp [AV.has, AV.hasL]) ?_
  show AWp _ _ (endX _ Tryd.f77 _ _) (startAS 82 _)
  repeat (first | refine AWp.seq ?_ | refine AWp.block ?_)
  apply AWp.reg [] []
  · conv => lhs; simp
  · trivial
  repeat (first | refine AWp.seq ?_ | refine AWp.block ?_)
  apply AWp.reg [] []
  · conv => lhs; simp
  · trivial
  repeat (first | refine AWp.seq ?_ | refine AWp.block ?_)
  apply AWp.reg [] []
  · conv => lhs; simp
  · trivial
  by_cases e1 : k = 1
  · subst e1
    have hf : (Tm.mk 1 n a b vs xs cs).free = [a] := by simp [Tm.free]
    rw [hf]
    repeat (first | refine AWp.seq ?_ | refine AWp.block ?_)
    apply AWp.reg [] []
    · conv => lhs; simp
    · trivial
    repeat (first | refine AWp.seq ?_ | refine AWp.block ?_)
    apply AWp.reg [] []
    · conv => lhs; simp
    · trivial
    repeat (first | refine AWp.seq ?_ | refine AWp.block ?_)
    refine AWp.cond rfl (fun h => ?_) (fun h => ?_)
    · repeat (first | refine AWp.seq ?_ | refine AWp.block ?_)
      apply AWp.reg [] []
      · conv => lhs; simp
      · first | trivial | omega | (simp [inI, maxLen]; done) | (simp [inI, maxLen]; omega)
      refine AWp.ret ?_
      try dsimp only [thenQ, blockQ]
      apply endX.ret 17
      · conv => lhs; simp [resAV, Tryd.results77]
      · rfl
      · rfl
      · rfl
    · simp at h
  obtain ⟨o0, ho0⟩ : ∃ o0, o0 = if 8 ≤ k ∧ k ≤ 11 then [a] else [] := ⟨_, rfl⟩
  have hl0 : o0.length ≤ 1 := by rw [ho0]; split <;> simp
  refine AWp.seqJ ⟨82, [(1, .ptr 1 0), (3, .ptr 3 0), (4, .clo 107 [.ptr 3 0])], refMem k n a b vs xs cs o0⟩ ?_ (fun W hW => ?_)
  rotate_left
  · by_cases k8 : k = 8
    · subst k8
      rw [if_pos (by omega)] at ho0
      subst ho0
      repeat (first | refine AWp.seq ?_ | refine AWp.block ?_)
      apply AWp.reg [] []
      · conv => lhs; simp
      · trivial
      repeat (first | refine AWp.seq ?_ | refine AWp.block ?_)
      apply AWp.reg [] []
      · conv => lhs; simp
      · trivial
      repeat (first | refine AWp.seq ?_ | refine AWp.block ?_)
      refine AWp.cond rfl (fun h => ?_) (fun h => ?_)
      · simp at h
      repeat (first | refine AWp.seq ?_ | refine AWp.block ?_)
      apply AWp.reg [] []
      · conv => lhs; simp
      · trivial
      repeat (first | refine AWp.seq ?_ | refine AWp.block ?_)
      refine AWp.cond rfl (fun h0 => ?_) (fun h0 => ?_)
      rotate_left
      · simp at h0
      refine AWp.skip ?_
      repeat (first | refine AWp.seq ?_ | refine AWp.block ?_)
      refine AWp.cond rfl (fun h6 => ?_) (fun h6 => ?_)
      rotate_left
      · simp at h6
      repeat (first | refine AWp.seq ?_ | refine AWp.block ?_)
      apply AWp.reg [] []
      · conv => lhs; simp
      · first | trivial | omega | (simp [inI, maxLen]; done) | (simp [inI, maxLen]; omega)
      exact hW _ (Le.trans (Le.swap _ 25 400 rfl rfl) (Le.sub (by simp [AS.swap, swN]) (by simp [AS.swap, swN, refMem, tmObj])))
    by_cases k9 : k = 9
    · subst k9
      rw [if_pos (by omega)] at ho0
      subst ho0
      repeat (first | refine AWp.seq ?_ | refine AWp.block ?_)
      apply AWp.reg [] []
      · conv => lhs; simp
      · trivial
      repeat (first | refine AWp.seq ?_ | refine AWp.block ?_)
      apply AWp.reg [] []
      · conv => lhs; simp
      · trivial
      repeat (first | refine AWp.seq ?_ | refine AWp.block ?_)
      refine AWp.cond rfl (fun h => ?_) (fun h => ?_)
      · simp at h
      repeat (first | refine AWp.seq ?_ | refine AWp.block ?_)
      apply AWp.reg [] []
      · conv => lhs; simp
      · trivial
      repeat (first | refine AWp.seq ?_ | refine AWp.block ?_)
      refine AWp.cond rfl (fun h0 => ?_) (fun h0 => ?_)
      · simp at h0
      repeat (first | refine AWp.seq ?_ | refine AWp.block ?_)
      apply AWp.reg [] []
      · conv => lhs; simp
      · trivial
      repeat (first | refine AWp.seq ?_ | refine AWp.block ?_)
      refine AWp.cond rfl (fun h1 => ?_) (fun h1 => ?_)
      rotate_left
      · simp at h1
      refine AWp.skip ?_
      repeat (first | refine AWp.seq ?_ | refine AWp.block ?_)
      refine AWp.cond rfl (fun h6 => ?_) (fun h6 => ?_)
      rotate_left
      · simp at h6
      repeat (first | refine AWp.seq ?_ | refine AWp.block ?_)
      apply AWp.reg [] []
      · conv => lhs; simp
      · first | trivial | omega | (simp [inI, maxLen]; done) | (simp [inI, maxLen]; omega)
      exact hW _ (Le.trans (Le.swap _ 25 400 rfl rfl) (Le.sub (by simp [AS.swap, swN]) (by simp [AS.swap, swN, refMem, tmObj])))
    by_cases k10 : k = 10
    · subst k10
      rw [if_pos (by omega)] at ho0
      subst ho0
      repeat (first | refine AWp.seq ?_ | refine AWp.block ?_)
      apply AWp.reg [] []
      · conv => lhs; simp
      · trivial
      repeat (first | refine AWp.seq ?_ | refine AWp.block ?_)
      apply AWp.reg [] []
      · conv => lhs; simp
      · trivial
      repeat (first | refine AWp.seq ?_ | refine AWp.block ?_)
      refine AWp.cond rfl (fun h => ?_) (fun h => ?_)
      · simp at h
      repeat (first | refine AWp.seq ?_ | refine AWp.block ?_)
      apply AWp.reg [] []
      · conv => lhs; simp
      · trivial
      repeat (first | refine AWp.seq ?_ | refine AWp.block ?_)
      refine AWp.cond rfl (fun h0 => ?_) (fun h0 => ?_)
      · simp at h0
      repeat (first | refine AWp.seq ?_ | refine AWp.block ?_)
      apply AWp.reg [] []
      · conv => lhs; simp
      · trivial
      repeat (first | refine AWp.seq ?_ | refine AWp.block ?_)
      refine AWp.cond rfl (fun h1 => ?_) (fun h1 => ?_)
      · simp at h1
      repeat (first | refine AWp.seq ?_ | refine AWp.block ?_)
      apply AWp.reg [] []
      · conv => lhs; simp
      · trivial
      repeat (first | refine AWp.seq ?_ | refine AWp.block ?_)
      refine AWp.cond rfl (fun h2 => ?_) (fun h2 => ?_)
      rotate_left
      · simp at h2
      refine AWp.skip ?_
      repeat (first | refine AWp.seq ?_ | refine AWp.block ?_)
      refine AWp.cond rfl (fun h6 => ?_) (fun h6 => ?_)
      rotate_left
      · simp at h6
      repeat (first | refine AWp.seq ?_ | refine AWp.block ?_)
      apply AWp.reg [] []
      · conv => lhs; simp
      · first | trivial | omega | (simp [inI, maxLen]; done) | (simp [inI, maxLen]; omega)
      exact hW _ (Le.trans (Le.swap _ 25 400 rfl rfl) (Le.sub (by simp [AS.swap, swN]) (by simp [AS.swap, swN, refMem, tmObj])))
    by_cases k11 : k = 11
    · subst k11
      rw [if_pos (by omega)] at ho0
      subst ho0
      repeat (first | refine AWp.seq ?_ | refine AWp.block ?_)
      apply AWp.reg [] []
      · conv => lhs; simp
      · trivial
      repeat (first | refine AWp.seq ?_ | refine AWp.block ?_)
      apply AWp.reg [] []
      · conv => lhs; simp
      · trivial
      repeat (first | refine AWp.seq ?_ | refine AWp.block ?_)
      refine AWp.cond rfl (fun h => ?_) (fun h => ?_)
      · simp at h
      repeat (first | refine AWp.seq ?_ | refine AWp.block ?_)
      apply AWp.reg [] []
      · conv => lhs; simp
      · trivial
      repeat (first | refine AWp.seq ?_ | refine AWp.block ?_)
      refine AWp.cond rfl (fun h0 => ?_) (fun h0 => ?_)
      · simp at h0
      repeat (first | refine AWp.seq ?_ | refine AWp.block ?_)
      apply AWp.reg [] []
      · conv => lhs; simp
      · trivial
      repeat (first | refine AWp.seq ?_ | refine AWp.block ?_)
      refine AWp.cond rfl (fun h1 => ?_) (fun h1 => ?_)
      · simp at h1
      repeat (first | refine AWp.seq ?_ | refine AWp.block ?_)
      apply AWp.reg [] []
      · conv => lhs; simp
      · trivial
      repeat (first | refine AWp.seq ?_ | refine AWp.block ?_)
      refine AWp.cond rfl (fun h2 => ?_) (fun h2 => ?_)
      · simp at h2
      repeat (first | refine AWp.seq ?_ | refine AWp.block ?_)
      apply AWp.reg [] []
      · conv => lhs; simp
      · trivial
      repeat (first | refine AWp.seq ?_ | refine AWp.block ?_)
      refine AWp.cond rfl (fun h6 => ?_) (fun h6 => ?_)
      rotate_left
      · simp at h6
      repeat (first | refine AWp.seq ?_ | refine AWp.block ?_)
      apply AWp.reg [] []
      · conv => lhs; simp
      · first | trivial | omega | (simp [inI, maxLen]; done) | (simp [inI, maxLen]; omega)
      exact hW _ (Le.trans (Le.swap _ 25 400 rfl rfl) (Le.sub (by simp [AS.swap, swN]) (by simp [AS.swap, swN, refMem, tmObj])))
    rw [if_neg (by omega)] at ho0
    subst ho0
    repeat (first | refine AWp.seq ?_ | refine AWp.block ?_)
    apply AWp.reg [] []
    · conv => lhs; simp
    · trivial
    repeat (first | refine AWp.seq ?_ | refine AWp.block ?_)
    apply AWp.reg [] []
    · conv => lhs; simp [e1]
    · trivial
    repeat (first | refine AWp.seq ?_ | refine AWp.block ?_)
    refine AWp.cond rfl (fun h => ?_) (fun h => ?_)
    · cases h
    repeat (first | refine AWp.seq ?_ | refine AWp.block ?_)
    apply AWp.reg [] []
    · conv => lhs; simp [k8]
    · trivial
    repeat (first | refine AWp.seq ?_ | refine AWp.block ?_)
    refine AWp.cond rfl (fun h0 => ?_) (fun h0 => ?_)
    · cases h0
    repeat (first | refine AWp.seq ?_ | refine AWp.block ?_)
    apply AWp.reg [] []
    · conv => lhs; simp [k9]
    · trivial
    repeat (first | refine AWp.seq ?_ | refine AWp.block ?_)
    refine AWp.cond rfl (fun h1 => ?_) (fun h1 => ?_)
    · cases h1
    repeat (first | refine AWp.seq ?_ | refine AWp.block ?_)
    apply AWp.reg [] []
    · conv => lhs; simp [k10]
    · trivial
    repeat (first | refine AWp.seq ?_ | refine AWp.block ?_)
    refine AWp.cond rfl (fun h2 => ?_) (fun h2 => ?_)
    · cases h2
    repeat (first | refine AWp.seq ?_ | refine AWp.block ?_)
    apply AWp.reg [] []
    · conv => lhs; simp [k11]
    · trivial
    repeat (first | refine AWp.seq ?_ | refine AWp.block ?_)
    refine AWp.cond rfl (fun h6 => ?_) (fun h6 => ?_)
    · cases h6
    refine AWp.skip ?_
    exact hW _ (Le.low [400] [] rfl (by simp) (by simp [refMem, tmObj]))
  repeat (first | refine AWp.seq ?_ | refine AWp.block ?_)
  apply AWp.reg [] []
  · conv => lhs; simp [refMem, tmObj]
  · trivial
  repeat (first | refine AWp.seq ?_ | refine AWp.block ?_)
  refine AWp.loop (σ := fun u : {i : Nat // i ≤ xs.length} => ⟨82, [(1, .ptr 1 0), (3, .ptr 3 0), (4, .clo 107 [.ptr 3 0]), (27, .d (.sl (xs.map Tm.row))), (28, .d (.int xs.length)), (29, .d (.int u.1))], refMem k n a b vs xs cs (rfree xs (skipA k a xs.length) o0 u.1)⟩)
    (μ := fun u => xs.length - u.1) ⟨0, Nat.zero_le _⟩ (Le.sub (by simp [rfree]) (by simp [rfree, refMem, tmObj])) (fun ⟨i, hi⟩ => ?_)
  dsimp only
  have hL0 := rfree_len xs (skipA k a xs.length) o0 i
  have hS : ∀ x, xs[i]? = some x → _ := fun x => rfree_snoc (skipA k a xs.length) o0 (x := x) (i := i)
  obtain ⟨L, hL⟩ : ∃ L, L = rfree xs (skipA k a xs.length) o0 i := ⟨_, rfl⟩
  rw [← hL] at hL0 hS ⊢
  repeat (first | refine AWp.seq ?_ | refine AWp.block ?_)
  apply AWp.reg [] []
  · conv => lhs; simp
  · trivial
  repeat (first | refine AWp.seq ?_ | refine AWp.block ?_)
  refine AWp.cond rfl (fun h => ?_) (fun h => ?_)
  · have hi1 : i < xs.length := by have := of_decide_eq_true h; omega
    have h1 : xs[i]? = some xs[i] := List.getElem?_eq_getElem hi1
    have hmem : xs[i] ∈ xs := List.getElem_mem hi1
    generalize xs[i] = x at h1 hmem
    have hx := ih x (by have := Tm.sz_arg (k := k) (n := n) (a := a) (b := b) (vs := vs) (cs := cs) hmem; omega) (hF.arg hmem)
    have lx := x.free_len
    have lt := Tm.szs_take h1
    have hsk := skipA_len k a xs.length i
    have had := cs_Free1 L x.free (skipA k a xs.length i) (by omega) (by omega)
    have hS1 := hS x h1
    have hskd : skipA k a xs.length i = if k = 6 ∧ xs.length = 2 ∧ i = 1 then [a] else [] := rfl
    generalize skipA k a xs.length i = sk at hskd had hS1
    obtain ⟨L', hS0⟩ : ∃ L', L' = rfree xs (skipA k a xs.length) o0 (i + 1) := ⟨_, rfl⟩
    rw [← hS0] at hS1
    generalize x.free = fx at *
    rw [← hS1] at had
    obtain ⟨xk, xn, xa, xb, xv, xx, xc⟩ := x
    refine AWp.skip ?_
    repeat (first | refine AWp.seq ?_ | refine AWp.block ?_)
    apply AWp.reg [] []
    · conv => lhs; simp [h1, Tm.row, Tm.rows_eq, Cs.rows_eq]
    · first | trivial | omega | (simp [inI, maxLen]; done) | (simp [inI, maxLen]; omega)
    repeat (first | refine AWp.seq ?_ | refine AWp.block ?_)
    apply AWp.reg [] []
    · conv => lhs; simp
    · trivial
    refine AWp.seqJ ⟨82, [(1, .ptr 1 0), (3, .ptr 3 0), (4, .clo 107 [.ptr 3 0]), (6, .ptr 6 0), (7, strsAV sk), (27, .d (.sl (xs.map Tm.row))), (28, .d (.int xs.length)), (29, .d (.int i))], (6, tmObj xk xn xa xb xv xx xc) :: refMem k n a b vs xs cs L⟩ ?_ (fun W1 hW1 => ?_)
    rotate_left
    · by_cases k6 : k = 6
      · subst k6
        by_cases k7 : xs.length = 2
        · have k7' : (xs.length : Int) = 2 := by omega
          by_cases k8 : i = 1
          · have k8' : (i : Int) = 1 := by omega
            rw [if_pos ⟨rfl, k7, k8⟩] at hskd
            subst hskd
            repeat (first | refine AWp.seq ?_ | refine AWp.block ?_)
            apply AWp.reg [] []
            · conv => lhs; simp [k7', k8', refMem, tmObj]
            · first | trivial | omega | (simp [inI, maxLen]; done) | (simp [inI, maxLen]; omega)
            repeat (first | refine AWp.seq ?_ | refine AWp.block ?_)
            refine AWp.cond rfl (fun h2 => ?_) (fun h2 => ?_)
            rotate_left
            · simp at h2
            repeat (first | refine AWp.seq ?_ | refine AWp.block ?_)
            apply AWp.reg [2] []
            · conv => lhs; simp
            · first | trivial | omega | (simp [inI, maxLen]; done) | (simp [inI, maxLen]; omega)
            exact hW1 _ (Le.low [] [] rfl (by simp [strsD, k7', k8']) (by simp [refMem, tmObj]))
          · have k8' : ¬ (i : Int) = 1 := by omega
            rw [if_neg (fun hh => k8 hh.2.2)] at hskd
            subst hskd
            repeat (first | refine AWp.seq ?_ | refine AWp.block ?_)
            apply AWp.reg [] []
            · conv => lhs; simp [k7', k8', refMem, tmObj]
            · first | trivial | omega | (simp [inI, maxLen]; done) | (simp [inI, maxLen]; omega)
            repeat (first | refine AWp.seq ?_ | refine AWp.block ?_)
            refine AWp.cond rfl (fun h2 => ?_) (fun h2 => ?_)
            · cases h2
            refine AWp.skip ?_
            exact hW1 _ (Le.low [] [] rfl (by simp [strsD, k7']) (by simp [refMem, tmObj]))
        · have k7' : ¬ (xs.length : Int) = 2 := by omega
          rw [if_neg (fun hh => k7 hh.2.1)] at hskd
          subst hskd
          repeat (first | refine AWp.seq ?_ | refine AWp.block ?_)
          apply AWp.reg [] []
          · conv => lhs; simp [k7', refMem, tmObj]
          · first | trivial | omega | (simp [inI, maxLen]; done) | (simp [inI, maxLen]; omega)
          repeat (first | refine AWp.seq ?_ | refine AWp.block ?_)
          refine AWp.cond rfl (fun h2 => ?_) (fun h2 => ?_)
          · cases h2
          refine AWp.skip ?_
          exact hW1 _ (Le.low [] [] rfl (by simp [strsD]) (by simp [refMem, tmObj]))
      · rw [if_neg (fun hh => k6 hh.1)] at hskd
        subst hskd
        repeat (first | refine AWp.seq ?_ | refine AWp.block ?_)
        apply AWp.reg [] []
        · conv => lhs; simp [k6, refMem, tmObj]
        · first | trivial | omega | (simp [inI, maxLen]; done) | (simp [inI, maxLen]; omega)
        repeat (first | refine AWp.seq ?_ | refine AWp.block ?_)
        refine AWp.cond rfl (fun h2 => ?_) (fun h2 => ?_)
        · cases h2
        refine AWp.skip ?_
        exact hW1 _ (Le.low [] [] rfl (by simp [strsD]) (by simp [refMem, tmObj]))
    repeat (first | refine AWp.seq ?_ | refine AWp.block ?_)
    apply AWp.reg [2] [.p (fun d => .arr d 0 fx.length) (some (.arr 9 1 (fx.map strR))), .c [(1000, 3), (500, 400)] [strsAV fx, strsAV sk, .ptr 1000 0] [(1000, .blk 28 [.arr 500 0 L.length]), (500, .arr 9 1 (L.map strR))] (resVal []) [(1000, .blk 28 [.arr 500 0 L'.length]), (500, .arr 9 1 (L'.map strR))]]
    · conv => lhs; simp [tmAV, tmObj, refMem, resVal]
    · exact ⟨hx, had⟩
    repeat (first | refine AWp.seq ?_ | refine AWp.block ?_)
    apply AWp.reg [] []
    · conv => lhs; simp
    · first | trivial | omega | (simp [inI, maxLen]; done) | (simp [inI, maxLen]; omega)
    refine ⟨⟨i + 1, hi1⟩, by simp; omega, ?_⟩
    dsimp only
    rw [← hS0]
    exact Le.sub (by simp) (by simp [tmObj, refMem])
  have hi1 : i = xs.length := by have := of_decide_eq_false h; omega
  subst hi1
  clear h hS
  have hlx : Tm.szs (xs.take xs.length) = Tm.szs xs := by rw [List.take_length]
  refine AWp.exit ?_
  by_cases e6 : k = 6 ∧ xs.length = 2
  · have hf : (Tm.mk k n a b vs xs cs).free = L := by
      obtain ⟨e6, e7⟩ := e6
      rw [hL, ho0, e6]
      match xs, e7 with
      | [x, y], _ =>
        rw [if_neg (by omega)]
        refine Eq.trans ?_ (rfree_let a x y).symm
        simp [Tm.free]
    rw [hf]
    obtain ⟨e6, e7⟩ := e6
    subst e6
    have k7' : (xs.length : Int) = 2 := by omega
    repeat (first | refine AWp.seq ?_ | refine AWp.block ?_)
    apply AWp.reg [] []
    · conv => lhs; simp [k7', refMem, tmObj]
    · first | trivial | omega | (simp [inI, maxLen]; done) | (simp [inI, maxLen]; omega)
    repeat (first | refine AWp.seq ?_ | refine AWp.block ?_)
    refine AWp.cond rfl (fun h => ?_) (fun h => ?_)
    rotate_left
    · cases h
    repeat (first | refine AWp.seq ?_ | refine AWp.block ?_)
    apply AWp.reg [] []
    · conv => lhs; simp
    · first | trivial | omega | (simp [inI, maxLen]; done) | (simp [inI, maxLen]; omega)
    refine AWp.ret ?_
    try dsimp only [thenQ, blockQ]
    apply endX.ret 400
    · conv => lhs; simp [resAV, Tryd.results77]
    · rfl
    · rfl
    · rfl
  have hf : (Tm.mk k n a b vs xs cs).free = Cs.frees L cs := by
    simp only [Tm.free, if_neg e1, if_neg e6]
    rw [hL, rfree_all k a xs o0 e6, ho0]
  rw [hf]
  refine AWp.seqJ ⟨82, [(1, .ptr 1 0), (3, .ptr 3 0), (4, .clo 107 [.ptr 3 0])], refMem k n a b vs xs cs L⟩ ?_ (fun W1 hW1 => ?_)
  rotate_left
  · by_cases k6 : k = 6
    · subst k6
      have k7' : ¬ (xs.length : Int) = 2 := fun hh => e6 ⟨rfl, by omega⟩
      repeat (first | refine AWp.seq ?_ | refine AWp.block ?_)
      apply AWp.reg [] []
      · conv => lhs; simp [k7', refMem, tmObj]
      · first | trivial | omega | (simp [inI, maxLen]; done) | (simp [inI, maxLen]; omega)
      repeat (first | refine AWp.seq ?_ | refine AWp.block ?_)
      refine AWp.cond rfl (fun h2 => ?_) (fun h2 => ?_)
      · cases h2
      refine AWp.skip ?_
      exact hW1 _ (Le.sub (by simp) (by simp [refMem, tmObj]))
    · repeat (first | refine AWp.seq ?_ | refine AWp.block ?_)
      apply AWp.reg [] []
      · conv => lhs; simp [k6, refMem, tmObj]
      · first | trivial | omega | (simp [inI, maxLen]; done) | (simp [inI, maxLen]; omega)
      repeat (first | refine AWp.seq ?_ | refine AWp.block ?_)
      refine AWp.cond rfl (fun h2 => ?_) (fun h2 => ?_)
      · cases h2
      refine AWp.skip ?_
      exact hW1 _ (Le.sub (by simp) (by simp [refMem, tmObj]))
  repeat (first | refine AWp.seq ?_ | refine AWp.block ?_)
  apply AWp.reg [] []
  · conv => lhs; simp [refMem, tmObj]
  · trivial
  repeat (first | refine AWp.seq ?_ | refine AWp.block ?_)
  refine AWp.loop (σ := fun u : {i : Nat // i ≤ cs.length} => ⟨82, [(1, .ptr 1 0), (3, .ptr 3 0), (4, .clo 107 [.ptr 3 0]), (67, .d (.sl (cs.map Cs.row))), (68, .d (.int cs.length)), (69, .d (.int u.1))], refMem k n a b vs xs cs (Cs.frees L (cs.take u.1))⟩)
    (μ := fun u => cs.length - u.1) ⟨0, Nat.zero_le _⟩ (Le.sub (by simp [Cs.frees]) (by simp [Cs.frees, refMem, tmObj])) (fun ⟨i, hi⟩ => ?_)
  dsimp only
  have hM0 := Cs.frees_len (cs.take i) L
  have hS : ∀ x, cs[i]? = some x → Cs.frees L (cs.take (i + 1)) = addN (Cs.frees L (cs.take i)) x.freeC := fun x => Cs.frees_snoc
  obtain ⟨M, hM⟩ : ∃ M, M = Cs.frees L (cs.take i) := ⟨_, rfl⟩
  rw [← hM] at hM0 hS ⊢
  repeat (first | refine AWp.seq ?_ | refine AWp.block ?_)
  apply AWp.reg [] []
  · conv => lhs; simp
  · trivial
  repeat (first | refine AWp.seq ?_ | refine AWp.block ?_)
  refine AWp.cond rfl (fun h => ?_) (fun h => ?_)
  · have hi1 : i < cs.length := by have := of_decide_eq_true h; omega
    have h1 : cs[i]? = some cs[i] := List.getElem?_eq_getElem hi1
    have hmem : cs[i] ∈ cs := List.getElem_mem hi1
    generalize cs[i] = x at h1 hmem
    have lx := x.freeC_len
    have lt := Cs.szs_take h1
    have hS1 := hS x h1
    obtain ⟨g, ws, x⟩ := x
    obtain ⟨oc1, oc2⟩ := hF.case hmem
    have hx := ih x (by have := Tm.sz_case (k := k) (n := n) (a := a) (b := b) (vs := vs) (xs := xs) hmem; omega) oc1
    have lx2 := x.free_len
    have hsz2 : (Cs.mk g ws x).sz = x.sz := rfl
    simp only [Cs.freeC] at hS1
    have had := cs_Free1 M x.free ws (by omega) (by omega)
    rw [← hS1] at had
    obtain ⟨M', hM'⟩ : ∃ M', M' = Cs.frees L (cs.take (i + 1)) := ⟨_, rfl⟩
    rw [← hM'] at had
    generalize x.free = fx at *
    obtain ⟨xk, xn, xa, xb, xv, xx, xc⟩ := x
    refine AWp.skip ?_
    repeat (first | refine AWp.seq ?_ | refine AWp.block ?_)
    apply AWp.reg [] []
    · conv => lhs; simp [h1, Cs.row, Tm.row, Tm.rows_eq, Cs.rows_eq]
    · first | trivial | omega | (simp [inI, maxLen]; done) | (simp [inI, maxLen]; omega)
    repeat (first | refine AWp.seq ?_ | refine AWp.block ?_)
    apply AWp.draw [3] [.p (fun d => .arr d 0 fx.length) (some (.arr 9 1 (fx.map strR))), .c [(1000, 3), (500, 400)] [strsAV fx, strsAV ws, .ptr 1000 0] [(1000, .blk 28 [.arr 500 0 M.length]), (500, .arr 9 1 (M.map strR))] (resVal []) [(1000, .blk 28 [.arr 500 0 M'.length]), (500, .arr 9 1 (M'.map strR))]] mixed
    · conv => lhs; simp [tmAV, tmObj, refMem, resVal]
    · kernel_rfl
    · exact ⟨hx, had⟩
    repeat (first | refine AWp.seq ?_ | refine AWp.block ?_)
    apply AWp.reg [] []
    · conv => lhs; simp
    · first | trivial | omega | (simp [inI, maxLen]; done) | (simp [inI, maxLen]; omega)
    refine ⟨⟨i + 1, hi1⟩, by simp; omega, ?_⟩
    dsimp only
    rw [← hM']
    exact Le.sub (by simp) (by simp [tmObj, refMem])
  have hi1 : i = cs.length := by have := of_decide_eq_false h; omega
  subst hi1
  rw [List.take_length] at hM
  rw [← hM]
  refine AWp.exit ?_
  repeat (first | refine AWp.seq ?_ | refine AWp.block ?_)
  apply AWp.reg [] []
  · conv => lhs; simp [refMem]
  · trivial
  refine AWp.ret ?_
  try dsimp only [thenQ, blockQ]
  apply endX.ret 400
  · conv => lhs; simp [resAV, Tryd.results77]
  · rfl
  · rfl
  · rfl

theorem sp_refFree (t : Tm) (h : t.Fit) : PSpec Tryd.prog 77 [tmAV t] (fun d => .arr d 0 t.free.length) (some (.arr 9 1 (t.free.map strR))) := sp_refFree_at _ t (Nat.lt_succ_self _) h
end Go.Proofs.YtialccgjbanmcaaDoor

/- slices.Backward over names: what its function asks of a loop's body. -/
namespace Go.Proofs.YtialccgjbanmcaaDoor
open Go.RowKit Go.Shelf
set_option linter.unusedVariables false
set_option linter.unusedSimpArgs false
attribute [local go_sem] Oper.semAt_some

/-- What has come when k rounds are over: the last k names, from behind. -/
def backF (l : List ByteArray) (j : Nat) : Int × ByteArray := (((l.length : Int) - 1 - j), l[l.length - 1 - j]?.getD .empty)
def backL (l : List ByteArray) (k : Nat) : List (Int × ByteArray) := (List.range k).map (backF l)
theorem backL_succ (l : List ByteArray) (k : Nat) : backL l (k + 1) = backL l k ++ [backF l k] := by simp [backL, List.range_succ]
theorem backL_len (l : List ByteArray) (k : Nat) : (backL l k).length = k := by simp [backL]

/-- What a loop's body keeps: what lay below, and the iterator's box. -/
def KpB (n₀ Bs : Nat) (A B : World) : Prop := Below n₀ A B ∧ B.cell? ⟨Bs, 0, none⟩ = A.cell? ⟨Bs, 0, none⟩
theorem KpB.refl (n₀ Bs : Nat) (A : World) : KpB n₀ Bs A A := ⟨Below.refl _ _, rfl⟩
theorem KpB.trans {n₀ Bs : Nat} {A B C : World} (h : KpB n₀ Bs A B) (k : KpB n₀ Bs B C) : KpB n₀ Bs A C := ⟨h.1.trans k.1, k.2.trans h.2⟩

set_option maxRecDepth 100000 in
set_option maxHeartbeats 2000000 in
theorem back1_in (F : Fence) (n : Nat) (h7 : F.fn 121) (hro : F.round = none) (hn : 1 ≤ n) (lp Bs n₀ b off cap : Nat) (l : List ByteArray) (hreach : l.length ≤ 8796093022207) (hb : b < n₀) (J Jx : List (Int × ByteArray) → World → Prop)
    (hY : ∀ pre x W, J pre W → pre.length < l.length → YieldAt F (n - 1) Tryd.prog lp #[.int .i64 x.1, .string x.2] W fun e W' =>
      (e = .returned (.bool true) ∧ J (pre ++ [x]) W' ∧ KpB n₀ Bs W W') ∨ (e = .returned (.bool false) ∧ Jx (pre ++ [x]) W'))
    (W : World) (hBs : W.cell? ⟨Bs, 0, none⟩ = some (.slice (some ⟨b, off, none⟩) l.length cap)) (hc : ∀ j, j < l.length → W.cell? ⟨b, off + j, none⟩ = some (.string (l[j]?.getD .empty))) (h0 : J [] W) :
    CallsIn F n Tryd.prog 121 #[.func (.yield lp) #[] #[], .pointer (some ⟨Bs, 0, none⟩)] W fun e W' => (∃ v, e = .returned v) ∧
      ((∃ ys, ys = backL l l.length ∧ J ys W') ∨ (∃ pre, (∃ k, k ≤ l.length ∧ pre = backL l k) ∧ Jx pre W')) := by
  refine callsIn_of_wp Tryd.func121 rfl h7 ?_ hro
  simp only [Tryd.ntmps121, List.size_toArray, List.length_cons, List.length_nil, Nat.reduceAdd, Nat.reduceSub, Array.replicate_succ, Array.replicate_zero, List.push_toArray, List.append_toArray, List.nil_append, List.cons_append]
  gi_wp2
  gi_loopw [3] (fun i wr => ∃ k : Nat, k ≤ l.length ∧ i = .int .i64 ((l.length : Int) - 1 - k) ∧ J (backL l k) wr ∧ KpB n₀ Bs W wr)
    (fun i _ => (intOf i + 1).toNat)
  case atStart => exact ⟨0, Nat.zero_le _, by simp, h0, KpB.refl _ _ _⟩
  case round =>
    obtain ⟨k, hk, rfl, hJs, hnx⟩ := hrel
    have hcs : wr.cell? ⟨Bs, 0, none⟩ = some (.slice (some ⟨b, off, none⟩) l.length cap) := hnx.2.trans hBs
    by_cases hlt : k < l.length
    · have hcx : wr.cell? ⟨b, off + (l.length - 1 - k), none⟩ = some (.string (l[l.length - 1 - k]?.getD .empty)) := (hnx.1.cell (p := ⟨b, off + (l.length - 1 - k), none⟩) hb).trans (hc _ (by omega))
      obtain ⟨fn, tmps, assign, body, hy, hR⟩ := hY _ (backF l k) wr hJs (by rw [backL_len]; exact hlt)
      dsimp only [backF] at hy
      obtain ⟨q, hq⟩ : ∃ q, l.length = q + 1 + k := ⟨l.length - 1 - k, by omega⟩
      have hqi : (l.length : Int) - 1 - k = (q : Int) := by omega
      have hqn : l.length - 1 - k = q := by omega
      rw [hqi] at hy ⊢
      rw [hqn] at hy hcx
      have hql : q < l.length := by omega
      obtain ⟨s, hs⟩ : ∃ s, l[q]?.getD .empty = s := ⟨_, rfl⟩
      rw [hs] at hy hcx
      clear hq
      gi_wp2
      refine hR.mono ?_
      rintro e W3 (⟨rfl, hJ3, hk3⟩ | ⟨rfl, hJx3⟩)
      · gi_wp2
        go_roundw
        case rel => exact ⟨k + 1, by omega, by simp; omega, by rw [backL_succ]; exact hJ3, hnx.trans hk3⟩
        case measure => simp [intOf]
      · gi_wp2
        refine bodyPost_ret (results_none rfl _ _ _) rfl ?_
        exact ⟨⟨_, rfl⟩, .inr ⟨_, ⟨k + 1, by omega, (backL_succ _ _).symm⟩, hJx3⟩⟩
    · obtain rfl : k = l.length := by omega
      have hqi : (l.length : Int) - 1 - (l.length : Int) = -1 := by omega
      rw [hqi]
      gi_wp2
      go_end0
      exact ⟨⟨_, rfl⟩, .inl ⟨_, rfl, hJs⟩⟩

set_option maxRecDepth 100000 in
set_option maxHeartbeats 1000000 in
theorem back1_nil_in (F : Fence) (n : Nat) (h7 : F.fn 121) (hro : F.round = none) (lp Bs : Nat) (a : Option Addr) (cc : Nat) (J : List (Int × ByteArray) → World → Prop) (W : World) (hBs : W.cell? ⟨Bs, 0, none⟩ = some (.slice a 0 cc)) (h0 : J [] W) :
    CallsIn F n Tryd.prog 121 #[.func (.yield lp) #[] #[], .pointer (some ⟨Bs, 0, none⟩)] W fun e W' => (∃ v, e = .returned v) ∧ J [] W' := by
  refine callsIn_of_wp Tryd.func121 rfl h7 ?_ hro
  simp only [Tryd.ntmps121, List.size_toArray, List.length_cons, List.length_nil, Nat.reduceAdd, Nat.reduceSub, Array.replicate_succ, Array.replicate_zero, List.push_toArray, List.append_toArray, List.nil_append, List.cons_append]
  gi_wp2
  gi_loopw [3] (fun i wr => i = .int .i64 (-1) ∧ J [] wr) (fun _ _ => 0)
  case atStart => exact ⟨by simp, h0⟩
  case round =>
    obtain ⟨rfl, hJs⟩ := hrel
    gi_wp2
    go_end0
    exact ⟨⟨_, rfl⟩, hJs⟩

set_option maxHeartbeats 1000000 in
/-- slices.Backward(l): the slice value is boxed; the function value has the box. -/
theorem back_in (F : Fence) (n : Nat) (h5 : F.fn 106) (hro : F.round = none) (a : Option Addr) (len cap : Nat) (w : World) :
    CallsIn F n Tryd.prog 106 #[.slice a len cap] w fun e w' => e = .returned (.func (.func 121) #[] #[.pointer (some ⟨w.heap.size, 0, none⟩)]) ∧ w' = w.alloc (.cells #[.slice a len cap] 28) := by
  refine callsIn_of_wp Tryd.func106 rfl h5 ?_ hro
  simp only [Tryd.ntmps106, List.size_toArray, List.length_cons, List.length_nil, Nat.reduceAdd, Nat.reduceSub, Array.replicate_succ, Array.replicate_zero, List.push_toArray, List.append_toArray, List.nil_append, List.cons_append]
  gi_wp2
  go_ret
  exact ⟨rfl, rfl⟩

/-- The slice value holds these names, in a block below n₀; or there are none. -/
def Strs (n₀ : Nat) (W : World) (sv : Value) (l : List ByteArray) : Prop :=
  (∃ a cc, sv = .slice a 0 cc ∧ l = []) ∨ ∃ b off cap, sv = .slice (some ⟨b, off, none⟩) l.length cap ∧ b < n₀ ∧ ∀ j, j < l.length → W.cell? ⟨b, off + j, none⟩ = some (.string (l[j]?.getD .empty))
theorem Strs.below {n₀ : Nat} {A B : World} (h : Below n₀ A B) {sv : Value} {l : List ByteArray} : Strs n₀ A sv l → Strs n₀ B sv l
  | .inl e => .inl e
  | .inr ⟨b, off, cap, e, hb, hc⟩ => .inr ⟨b, off, cap, e, hb, fun j hj => (h.cell (p := ⟨b, off + j, none⟩) hb).trans (hc j hj)⟩
theorem strs_of_rep {w : World} {ok : Nat → Prop} {l : List ByteArray} {v : Value} (h : Rep w ok (strsD l) v) {n₀ : Nat} (hok : ∀ b, ok b → b < n₀) : Strs n₀ w v l := by
  rw [strsD] at h
  generalize hr : l.map strR = rows at h
  cases h with
  | empty a cc ha hcc =>
    have : l = [] := by simpa using hr
    exact .inl ⟨a, cc, rfl, this⟩
  | sl rows size b o cc V hne hlen hcc hsz' hok' hcell hrep =>
    subst hr
    have hs1 : size = 1 := by
      rcases l with _ | ⟨x, l⟩
      · exact absurd rfl hne
      · exact (hsz' 0 (strR x) rfl).symm.trans rfl
    subst hs1
    refine .inr ⟨b, o, cc, by rw [List.length_map], hok _ hok', fun j hj => ?_⟩
    have h1 := hcell j 0 (by simpa using hj) (by omega)
    have h2 : l[j]? = some l[j] := List.getElem?_eq_getElem hj
    have h3 := hrep j 0 (strR l[j]) (.str l[j]) (by rw [List.getElem?_map, h2]; rfl) rfl
    rw [h2, Option.getD_some]
    simp only [Nat.mul_one, Nat.add_zero] at h1
    rw [h1, h3.str_inv.1]

/-- The value of slices.Backward(l): all of l's names, from behind. -/
theorem back_stops (F : Fence) (n : Nat) (h8 : F.fn 121) (hro : F.round = none) (hn : 1 ≤ n) (Bs n₀ : Nat) (sv : Value) (l : List ByteArray) (hreach : l.length ≤ 8796093022207) (w : World) (hBs : Bs < w.heap.size) (hn₀ : n₀ ≤ w.heap.size)
    (hc : w.cell? ⟨Bs, 0, none⟩ = some sv) (hI : Strs n₀ w sv l) :
    SeqStopsK F n Tryd.prog 121 #[.pointer (some ⟨Bs, 0, none⟩)] (fun x : Int × ByteArray => #[Value.int .i64 x.1, Value.string x.2]) (KpB n₀ Bs) (fun ys => ys = backL l l.length)
      (fun pre => ∃ k, k ≤ l.length ∧ pre = backL l k) l.length w := fun lp J Jx W hW _ _ hY h0 => by
  have hc' := (hW.cell (p := ⟨Bs, 0, none⟩) hBs).trans hc
  rcases hI.below (hW.mono hn₀) with ⟨a, cc, rfl, rfl⟩ | ⟨b, off, cap, rfl, hb, hcs⟩
  · exact (back1_nil_in F n h8 hro lp Bs a cc J W hc' h0).mono fun e W' ⟨he, hj⟩ => ⟨he, .inl ⟨_, rfl, hj⟩⟩
  · exact back1_in F n h8 hro hn lp Bs n₀ b off cap l hreach hb J Jx hY W hc' hcs h0
end Go.Proofs.YtialccgjbanmcaaDoor

/- Steps that count, ahead of a term: own.drops, own.dups, fuse.drops. Printed by a small program. -/
namespace Go.Proofs.YtialccgjbanmcaaDoor
open Go.RowKit Go.Shelf
set_option linter.unusedVariables false
set_option linter.unusedSimpArgs false
attribute [local go_sem] Oper.semAt_some

/-- Steps that count, the first one outside. -/
def cnt (k : Int) : List ByteArray → Tm → Tm
  | [], t => t
  | s :: r, t => .mk k 0 s .empty [] [cnt k r t] []
def cntF (k : Int) (t : Tm) (pre : List (Int × ByteArray)) : Tm := pre.foldl (fun t x => .mk k 0 x.2 .empty [] [t] []) t
theorem cntF_snoc (k : Int) (t : Tm) (pre : List (Int × ByteArray)) (x : Int × ByteArray) : cntF k t (pre ++ [x]) = .mk k 0 x.2 .empty [] [cntF k t pre] [] := by
  unfold cntF
  rw [List.foldl_append]
  rfl
theorem cntF_back (k : Int) (t : Tm) (l : List ByteArray) : ∀ j, j ≤ l.length → cntF k t (backL l j) = cnt k (l.drop (l.length - j)) t
  | 0, _ => by rw [Nat.sub_zero, List.drop_length]; rfl
  | j + 1, h => by
    rw [backL_succ, cntF_snoc, cntF_back k t l j (by omega)]
    have h1 : l.length - (j + 1) < l.length := by omega
    rw [List.drop_eq_getElem_cons h1, cnt, show l.length - (j + 1) + 1 = l.length - j from by omega]
    unfold backF
    rw [show l.length - 1 - j = l.length - (j + 1) from by omega, List.getElem?_eq_getElem h1, Option.getD_some]
theorem cntF_all (k : Int) (t : Tm) (l : List ByteArray) : cntF k t (backL l l.length) = cnt k l t := by
  rw [cntF_back k t l l.length (Nat.le_refl _), Nat.sub_self, List.drop_zero]

/-- Between two rounds: what the term's box and the result's hold. -/
def BInv (k : Int) (t : Tm) (ok : Nat → Prop) (n0 : Nat) (z : Array Value) (pre : List (Int × ByteArray)) (W : World) : Prop :=
  n0 + 3 ≤ W.heap.size ∧ ∃ (S : Nat → Prop) (c0 c1 c2 c3 c4 c5 c6 : Value), (∀ b, S b → n0 + 3 ≤ b ∧ ∃ cs t fr, W.heap[b]? = some (.cells cs t fr)) ∧ Blk W n0 32 #[c0, c1, c2, c3, c4, c5, c6] ∧ Blk W (n0 + 1) 32 z ∧
    ((∀ p ∈ pre, p.2.size ≤ maxLen) → RepRow W (fun b => ok b ∨ S b) (cntF k t pre).row [c0, c1, c2, c3, c4, c5, c6])
theorem blk_kept {W W' : World} {row : Option Nat} {b : Nat} {o : Obj} (ho : o.isCells = true) (h : W.heap[b]? = some o) (hg : W.grownBy W' row) (hr : ∀ r, row = some r → ∃ o : Obj, W.heap[r]? = some o ∧ o.isCells = false) : W'.heap[b]? = some o := by
  refine (hg.block b (Array.getElem?_eq_some_iff.1 h).1 fun e => ?_).trans h
  obtain ⟨o', h1, h2⟩ := hr b e.symm
  rw [h] at h1
  cases h1
  rw [ho] at h2
  cases h2
theorem BInv.own (k : Int) (t : Tm) (ok : Nat → Prop) (n0 B : Nat) (z : Array Value) (hB : n0 ≤ B) (hok : ∀ b, ok b → b < n0) : OwnFrom B (BInv k t ok n0 z) := by
  rintro pre W W' row ⟨hsz, S, c0, c1, c2, c3, c4, c5, c6, hS, hb3, hb4, hrow⟩ hg hr
  have hr' : ∀ r, row = some r → ∃ o : Obj, W.heap[r]? = some o ∧ o.isCells = false := fun r e => (hr r e).2
  refine ⟨Nat.le_trans hsz hg.size, S, c0, c1, c2, c3, c4, c5, c6, fun b hb => ?_, blk_kept rfl hb3 hg hr', blk_kept rfl hb4 hg hr', fun hpre => ⟨(hrow hpre).1, fun j d v hd hv => ((hrow hpre).2 j d v hd hv).keep fun p hp => World.cell?_heap ?_⟩⟩
  · obtain ⟨h1, cs, t, fr, h2⟩ := hS b hb
    exact ⟨h1, cs, t, fr, blk_kept rfl h2 hg hr'⟩
  · rcases hp with hp | hp
    · have := hok _ hp
      have hlt : p.block < W.heap.size := by have := hb3.lt; omega
      refine hg.block _ hlt fun e => ?_
      have := (hr _ e.symm).1
      omega
    · obtain ⟨h1, cs, t, fr, h2⟩ := hS _ hp
      exact (blk_kept rfl h2 hg hr').trans h2.symm

section
variable {F : Fence} {nF : Nat} {P : Program}
/-- A block that is known whole is written whole. -/
theorem wpListIn_storeBlk (w : World) {ops : Array Oper} {rest : List Oper} {o : Oper} {a : Act} {Q : Exit → Act → World → Prop} (hg : o.guard = none) (p x : Operand) (t : TypeId) (hop : o.op = .store t p x)
    {b : Nat} {te : TypeId} {cs vs : Array Value} (hp : a.eval p = .pointer (some ⟨b, 0, none⟩)) (hx : a.eval x = .agg vs) (hb : Blk w b te cs) (hsz : (sizeOf t).run P w = .ok cs.size w) (hvs : vs.size = cs.size) (h1 : ∀ v ∈ vs.toList, v.oneCell' = true)
    (hK : ∀ w', Blk w' b te vs → w'.heap.size = w.heap.size → (∀ k, k ≠ b → w'.heap[k]? = w.heap[k]?) → w'.os = w.os → w'.tape = w.tape → w'.output = w.output → wpListIn F nF P ops Q rest (a.put o.dst undef) w') : wpListIn F nF P ops Q (o :: rest) a w := by
  refine wpListIn_plain hg fun K' hK' => ?_
  unfold Oper.wpIn
  refine ⟨by simp [Oper.about, hop], ?_⟩
  rw [Oper.semAt_plain F _ _ (by rw [hop]; intro c hc'; cases hc')]
  have hst := run_storeCells_at P b 0 te vs.toList 0 cs w hb (by simp; omega) h1
  have e1 : (cs.toList.take (0 + 0) ++ vs.toList ++ cs.toList.drop (0 + 0 + vs.toList.length)).toArray = vs := by
    rw [List.drop_of_length_le (by simp; omega)]
    simp
  rw [e1] at hst
  have hne : ¬ vs.size ≠ cs.size := by omega
  have hrun : (execOp a.eval o).run P w = .ok .skip (w.setRow b vs) := by
    obtain ⟨dst, op, ty, pos, after, guard⟩ := o
    dsimp only at hop
    subst hop
    simp only [execOp, Instr.storeAt, hp, hx, Instr.sureAddr, Sem.run_bind, Sem.run_pure, Result.andThen_ok, storeVar, hsz, Value.cells, if_neg hne, hst]
  rw [hrun]
  exact hK' _ _ (hK _ (setRow_heap w b cs vs te (0, 0) hb) (by simp [World.setRow]) (fun k hk => setRow_other w b k vs hk) rfl rfl rfl)
end

theorem tm_cells {w : World} {ok : Nat → Prop} {g : Gh} {m : Me} {t : Tm} {v : Value} (h : VR w ok g m (tmAV t) v) : ∃ c0 c1 c2 c3 c4 c5 c6, v = .agg #[c0, c1, c2, c3, c4, c5, c6] ∧ RepRow w ok t.row [c0, c1, c2, c3, c4, c5, c6] := by
  obtain ⟨k, n, a, b, vs, xs, cs⟩ := t
  obtain ⟨vs', rfl, hl, h1, _⟩ := VR.agg_inv h
  match vs', hl with
  | ⟨[c0, c1, c2, c3, c4, c5, c6]⟩, _ =>
  refine ⟨c0, c1, c2, c3, c4, c5, c6, rfl, ?_⟩
  rw [Tm.row]
  refine ⟨rfl, fun j d v hd hv => ?_⟩
  have h2 := fun c hc => h1 j c v hc (by simpa using hv)
  rcases j with _ | _ | _ | _ | _ | _ | _ | j <;> simp at hd <;> subst hd
  all_goals first | exact (h2 _ rfl).d_inv | (simp only [Tm.rows_eq, Cs.rows_eq]; exact (h2 _ rfl).d_inv)
theorem tm_of_cells {w : World} {ok : Nat → Prop} {g : Gh} {m : Me} {t : Tm} {c0 c1 c2 c3 c4 c5 c6 : Value} (h : RepRow w ok t.row [c0, c1, c2, c3, c4, c5, c6]) : VR w ok g m (tmAV t) (.agg #[c0, c1, c2, c3, c4, c5, c6]) := by
  obtain ⟨k, n, a, b, vs, xs, cs⟩ := t
  rw [Tm.row] at h
  simp only [Tm.rows_eq, Cs.rows_eq] at h
  refine .agg _ _ rfl (fun j c v hc hv => ?_) (fun j v hv => ?_)
  · rcases j with _ | _ | _ | _ | _ | _ | _ | j <;> simp at hc hv <;> subst hc hv
    · exact .d _ _ (h.2 0 _ _ rfl rfl)
    · exact .d _ _ (h.2 1 _ _ rfl rfl)
    · exact .d _ _ (h.2 2 _ _ rfl rfl)
    · exact .d _ _ (h.2 3 _ _ rfl rfl)
    · exact .d _ _ (h.2 4 _ _ rfl rfl)
    · exact .d _ _ (h.2 5 _ _ rfl rfl)
    · exact .d _ _ (h.2 6 _ _ rfl rfl)
  · rcases j with _ | _ | _ | _ | _ | _ | _ | j <;> simp at hv <;> subst hv
    · exact (h.2 0 _ _ rfl rfl).oneCell
    · exact (h.2 1 _ _ rfl rfl).oneCell
    · exact (h.2 2 _ _ rfl rfl).oneCell
    · exact (h.2 3 _ _ rfl rfl).oneCell
    · exact (h.2 4 _ _ rfl rfl).oneCell
    · exact (h.2 5 _ _ rfl rfl).oneCell
    · exact (h.2 6 _ _ rfl rfl).oneCell

set_option maxRecDepth 100000 in
set_option maxHeartbeats 4000000 in
theorem fdrops_in (F : Fence) (n : Nat) (hfn : ∀ f, F.fn f) (hro : F.round = none) (hn : 3 ≤ n) (l : List ByteArray) (hl : l.length ≤ 8796093022207) (hls : ∀ s ∈ l, s.size ≤ maxLen) (t : Tm) (w : World) (ok : Nat → Prop) (hok : ∀ b, ok b → b < w.heap.size) (a : Option Addr) (len cap : Nat) (hs : Strs w.heap.size w (.slice a len cap) l)
    (c0 c1 c2 c3 c4 c5 c6 : Value) (hr : RepRow w ok t.row [c0, c1, c2, c3, c4, c5, c6]) :
    CallsIn F n Tryd.prog 89 #[.slice a len cap, .agg #[c0, c1, c2, c3, c4, c5, c6]] w fun e W' => ∃ (S : Nat → Prop) (d0 d1 d2 d3 d4 d5 d6 : Value), e = .returned (.agg #[d0, d1, d2, d3, d4, d5, d6]) ∧ Below w.heap.size w W' ∧ (∀ b, S b → w.heap.size ≤ b ∧ b < W'.heap.size) ∧
      RepRow W' (fun b => ok b ∨ S b) (cnt 9 l t).row [d0, d1, d2, d3, d4, d5, d6] := by
  have h1 : 1 ≤ n := by omega
  refine callsIn_of_wp_marks Tryd.func89 rfl (hfn _) ?_ hro
  simp only [Tryd.ntmps89, List.size_toArray, List.length_cons, List.length_nil, Nat.reduceAdd, Nat.reduceSub, Array.replicate_succ, Array.replicate_zero, List.push_toArray, List.append_toArray, List.nil_append, List.cons_append]
  gi_wp2_with (gi_at_call 106; refine (back_in F (n - 1) (hfn _) hro _ _ _ _).mono ?_; rintro e w' ⟨rfl, rfl⟩)
  obtain ⟨z, hz⟩ : ∃ z : Array Value, z = #[.int .i64 0, .int .i64 0, .string ⟨#[]⟩, .string ⟨#[]⟩, .slice none 0 0, .slice none 0 0, .slice none 0 0] := ⟨_, rfl⟩
  rw [← hz]
  have b3 := Blk.new w 32 #[c0, c1, c2, c3, c4, c5, c6]
  have b4 := Blk.new (w.alloc (.cells #[c0, c1, c2, c3, c4, c5, c6] 32)) 32 z
  have b5 := Blk.new ((w.alloc (.cells #[c0, c1, c2, c3, c4, c5, c6] 32)).alloc (.cells z 32)) 28 #[.slice a len cap]
  have hB0 : Below w.heap.size w (((w.alloc (.cells #[c0, c1, c2, c3, c4, c5, c6] 32)).alloc (.cells z 32)).alloc (.cells #[.slice a len cap] 28)) := (((Below.refl _ w).alloc (Nat.le_refl _) _).alloc (by simp) _).alloc (by simp; omega) _
  have b3' := (b3.alloc (.cells z 32)).alloc (.cells #[.slice a len cap] 28)
  have b4' := b4.alloc (.cells #[.slice a len cap] 28)
  simp only [World.size_alloc] at b4 b5 b4'
  obtain ⟨W0, hW0⟩ : ∃ W0, ((w.alloc (.cells #[c0, c1, c2, c3, c4, c5, c6] 32)).alloc (.cells z 32)).alloc (.cells #[.slice a len cap] 28) = W0 := ⟨_, rfl⟩
  have hsz0 : W0.heap.size = w.heap.size + 3 := by rw [← hW0]; simp
  rw [hW0] at b3' b4' b5 hB0 ⊢
  refine wpIn_rangeFunc_ownG hro h1 (gf := 121) (lb := #[.pointer (some ⟨w.heap.size + 1 + 1, 0, none⟩)]) rfl (hfn _) (enters_of Tryd.func121 (by kernel_rfl) rfl)
    (back_stops F (n - 1) (hfn _) hro (by omega) (w.heap.size + 1 + 1) w.heap.size _ l hl W0 (by omega) (by omega) (b5.cell 0) (hs.below hB0)) (fun h k => KpB.trans h k)
    (fun W lp o o' hle h2 h3 h4 => ⟨belowK_b (w := W0) (by omega) W lp o o' hle h2 h3 h4, World.cell?_heap (World.putObj_heap_other (by show w.heap.size + 1 + 1 ≠ lp; omega))⟩) (Below.refl _ _) (fun _ => rfl)
    (fun pre W => BInv 9 t ok w.heap.size z pre W ∧ Below w.heap.size w W) (fun _ _ _ => False)
    (OwnFrom.and (BInv.own 9 t ok _ _ z (by omega) hok) (ownFrom_below (Nat.le_refl _) (by omega)))
    (fun _ _ _ _ _ hs _ _ => hs)
    ⟨⟨by omega, fun _ => False, c0, c1, c2, c3, c4, c5, c6, fun _ h => h.elim, b3', b4', fun _ => ⟨hr.1, fun j d v hd hv => ((hr.2 j d v hd hv).keep fun p hp => World.cell?_heap (hB0.block p.block (hok _ hp))).weak fun b hb => .inl hb⟩⟩, hB0⟩
    (fun x => { tmps := #[.slice a len cap, .agg #[c0, c1, c2, c3, c4, c5, c6], undef, .pointer (some ⟨w.heap.size, 0, none⟩), .pointer (some ⟨w.heap.size + 1, 0, none⟩), undef, .string x.2, .slice a len cap, .func (.func 121) #[] #[.pointer (some ⟨w.heap.size + 1 + 1, 0, none⟩)], .int .i64 x.1, .string x.2, undef, undef, undef, undef, undef], defers := [] }) ?assign ?body ?done ?stop
  case assign =>
    intro l x W K hK
    gi_wp2
    exact hK
  case body =>
    rintro lp pre x W ⟨⟨hsz, S, e0, e1, e2, e3, e4, e5, e6, hS, hb3, hb4, hrow⟩, hB⟩ _
    have g0 := hb3.cell 0
    have g1 := hb3.cell 1
    have g2 := hb3.cell 2
    have g3 := hb3.cell 3
    have g4 := hb3.cell 4
    have g5 := hb3.cell 5
    have g6 := hb3.cell 6
    have f0 := hb3.frozen 0
    have f1 := hb3.frozen 1
    have f2 := hb3.frozen 2
    have f3 := hb3.frozen 3
    have f4 := hb3.frozen 4
    have f5 := hb3.frozen 5
    have f6 := hb3.frozen 6
    simp at g0 g1 g2 g3 g4 g5 g6
    gi_wp2_with (refine wpListIn_storeBlk _ rfl _ _ _ rfl rfl rfl (hb3.alloc _) (by kernel_rfl) rfl (by intro v hv; simp at hv; rcases hv with rfl | rfl | rfl | rfl | rfl | rfl | rfl <;> rfl) ?_; intro W1 k1 k2 k3 k4 k5 k6)
    rw [World.size_alloc] at k2
    have kh : ∀ k, k ≠ w.heap.size → k < W.heap.size → W1.heap[k]? = W.heap[k]? := fun k hk hlt => (k3 k hk).trans (Below.heap_alloc W _ k hlt)
    have kn : W1.heap[W.heap.size]? = some (.cells #[e0, e1, e2, e3, e4, e5, e6] 32 (0, 0)) := (k3 _ (by omega)).trans (heap_alloc_new W _)
    have kb : Below w.heap.size W W1 := ⟨k4, k5, k6, by omega, fun k hk => kh k (by omega) (by omega)⟩
    have hlt : ∀ b, S b → b < W.heap.size := fun b hb => by
      obtain ⟨_, cs, t, fr, h⟩ := hS b hb
      exact (Array.getElem?_eq_some_iff.1 h).1
    refine ⟨⟨by omega, fun k o _ hk ho => (kh k (by rintro rfl; rw [hb3] at hk; cases hk; cases ho) (Array.getElem?_eq_some_iff.1 hk).1).trans hk⟩, ⟨kb, World.cell?_heap (kh _ (by show w.heap.size + 1 + 1 ≠ w.heap.size; omega) (by show w.heap.size + 1 + 1 < _; omega))⟩,
      ⟨by omega, fun b => S b ∨ b = W.heap.size, _, _, _, _, _, _, _, fun b hb => ?_, k1, (kh _ (by omega) (by omega)).trans hb4, fun hpre => ?_⟩, hB.trans kb⟩
    · rcases hb with hb | rfl
      · obtain ⟨h1, cs, t, fr, h2⟩ := hS b hb
        exact ⟨h1, cs, t, fr, (kh b (by omega) (hlt b hb)).trans h2⟩
      · exact ⟨hsz, _, _, _, kn⟩
    · have hrow' := hrow fun p hp => hpre p (List.mem_append_left _ hp)
      have hx := hpre x (List.mem_append_right _ (List.mem_singleton.2 rfl))
      have kept : RepRow W1 (fun b => ok b ∨ S b ∨ b = W.heap.size) (cntF 9 t pre).row [e0, e1, e2, e3, e4, e5, e6] := ⟨hrow'.1, fun j d v hd hv => ((hrow'.2 j d v hd hv).keep fun p hp => World.cell?_heap (by
        rcases hp with hp | hp
        · have := hok _ hp
          exact kh _ (by omega) (by omega)
        · obtain ⟨h1, _⟩ := hS _ hp
          exact kh _ (by omega) (hlt _ hp))).weak fun b hb => hb.imp id .inl⟩
      rw [cntF_snoc]
      simp only [Tm.row, Tm.rows_eq, Cs.rows_eq, List.map_cons, List.map_nil]
      refine ⟨rfl, fun j d v hd hv => ?_⟩
      rcases j with _ | _ | _ | _ | _ | _ | _ | j <;> simp at hd hv <;> subst hd hv
      · exact .int _ (by omega) (by omega)
      · exact .int _ (by omega) (by omega)
      · exact .str _ hx
      · exact .str _ (by simp)
      · exact .empty none 0 (fun _ => rfl) (Nat.zero_le _)
      · exact Rep.of_block kn _ kept (.inr (.inr rfl))
      · exact .empty none 0 (fun _ => rfl) (Nat.zero_le _)
  case done =>
    rintro D ys W hD rfl ⟨⟨hsz, S, e0, e1, e2, e3, e4, e5, e6, hS, hb3, hb4, hrow⟩, hB⟩ hK
    have hrow := hrow fun p hp => by
      obtain ⟨j, _, rfl⟩ := List.mem_map.1 hp
      show (l[l.length - 1 - j]?.getD .empty).size ≤ maxLen
      rcases hg : l[l.length - 1 - j]? with _ | s
      · simp
      · exact hls s (List.mem_of_getElem? hg)
    have one : ∀ (j : Nat) (v : Value), [e0, e1, e2, e3, e4, e5, e6][j]? = some v → v.oneCell' = true := fun j v hv => by
      have hj : j < (cntF 9 t (backL l l.length)).row.length := by rw [hrow.1]; exact (List.getElem?_eq_some_iff.1 hv).1
      exact (hrow.2 j _ v (List.getElem?_eq_getElem hj) hv).oneCell
    have g0 := hb3.cell 0
    have g1 := hb3.cell 1
    have g2 := hb3.cell 2
    have g3 := hb3.cell 3
    have g4 := hb3.cell 4
    have g5 := hb3.cell 5
    have g6 := hb3.cell 6
    simp at g0 g1 g2 g3 g4 g5 g6
    gi_wp2_with (refine wpListIn_storeBlk _ rfl _ _ _ rfl rfl rfl hb4 (by rw [hz]; kernel_rfl) (by rw [hz]; rfl) (fun v hv => by obtain ⟨j, hj⟩ := List.mem_iff_getElem?.1 hv; exact one j v hj) ?_; intro W1 k1 k2 k3 k4 k5 k6)
    have hDn : D ≠ w.heap.size + 1 := by omega
    have hK' : W1.heap[D]? = some (.deferred (some [])) := (k3 D hDn).trans hK
    refine ⟨by simp, .inl ⟨_, _, rfl, run_takeDeferred hK', ?_⟩⟩
    have kd : ∀ k, k ≠ D → (W1.putObj D (.deferred none)).heap[k]? = W1.heap[k]? := fun k hk => World.putObj_heap_other hk
    have k1' : Blk (W1.putObj D (.deferred none)) (w.heap.size + 1) 32 #[e0, e1, e2, e3, e4, e5, e6] := (kd _ (Ne.symm hDn)).trans k1
    have q0 := k1'.cell 0
    have q1 := k1'.cell 1
    have q2 := k1'.cell 2
    have q3 := k1'.cell 3
    have q4 := k1'.cell 4
    have q5 := k1'.cell 5
    have q6 := k1'.cell 6
    simp at q0 q1 q2 q3 q4 q5 q6
    refine ⟨_, by simp [results, Tryd.f89, go_sem, q0, q1, q2, q3, q4, q5, q6], S, e0, e1, e2, e3, e4, e5, e6, rfl, ?_, fun b hb => ?_, ?_⟩
    · exact hB.trans ⟨k4, k5, k6, by rw [World.putObj_size, k2]; exact Nat.le_refl _, fun k hk => (kd k (by omega)).trans (k3 k (by omega))⟩
    · obtain ⟨h1, cs, t, fr, h2⟩ := hS b hb
      exact ⟨by omega, by rw [World.putObj_size, k2]; exact (Array.getElem?_eq_some_iff.1 h2).1⟩
    · rw [← cntF_all]
      refine ⟨hrow.1, fun j d v hd hv => (hrow.2 j d v hd hv).keep fun p hp => World.cell?_heap ?_⟩
      rcases hp with hp | hp
      · have := hok _ hp
        exact (kd _ (by omega)).trans (k3 _ (by omega))
      · obtain ⟨h1, cs, t, fr, h2⟩ := hS _ hp
        exact (kd _ (by rintro e; rw [e, hK] at h2; cases h2)).trans (k3 _ (by omega))
  case stop =>
    rintro D c pre W _ _ h _
    exact h.elim

theorem sp_fdrops (l : List ByteArray) (t : Tm) (hl : l.length ≤ 8796093022207) (hls : ∀ s ∈ l, s.size ≤ maxLen) : PSpec Tryd.prog 89 [strsAV l, tmAV t] (fun _ => tmAV (cnt 9 l t)) none := by
  have hcl : ∀ t : Tm, (tmAV t).has (fun _ => true) = false := fun t => by obtain ⟨k, n, a, b, vs, xs, cs⟩ := t; rfl
  have hcl2 : ∀ (t : Tm) (q : Nat → Bool), (tmAV t).has q = false := fun t q => by obtain ⟨k, n, a, b, vs, xs, cs⟩ := t; rfl
  refine ⟨⟨_, Tryd.func89, rfl, rfl⟩, fun d => hcl2 _ _, fun _ d => hcl _, by simp, fun d w ok vals hgi hok hlen hv => ?_⟩
  match vals, hlen with
  | ⟨[v0, v1]⟩, _ =>
  have h0 : Rep w ok (strsD l) v0 := (hv 0 _ v0 rfl rfl).d_inv
  have h1 := hv 1 _ v1 rfl rfl
  obtain ⟨c0, c1, c2, c3, c4, c5, c6, rfl, hr⟩ := tm_cells h1
  have hs := strs_of_rep h0 hok
  obtain ⟨a, cap, rfl⟩ : ∃ a cap, v0 = .slice a l.length cap := by
    rcases hs with ⟨a, cc, rfl, rfl⟩ | ⟨b, o, cc, rfl, _⟩
    · exact ⟨_, _, rfl⟩
    · exact ⟨_, _, rfl⟩
  refine ((callsIn_wide (n := 3)).1 (fdrops_in Fence.wide 3 (fun _ => trivial) rfl (by omega) l hl hls t w ok hok a l.length cap hs c0 c1 c2 c3 c4 c5 c6 hr)).mono ?_
  rintro e w' ⟨S, d0, d1, d2, d3, d4, d5, d6, rfl, hB, hS, hrow⟩
  exact ⟨_, fun b => ok b ∨ S b, noG, rfl, hB, fun b h => .inl h, fun b h => h.imp id fun h => hS b h, tm_of_cells hrow, by simp⟩
end Go.Proofs.YtialccgjbanmcaaDoor

/- Terms that own names, plainly. -/
namespace Go.Proofs.YtialccgjbanmcaaDoor
open Go.RowKit
set_option linter.unusedVariables false
set_option linter.unusedSimpArgs false

/-- Those of names that are in others. -/
def inN (l o : List ByteArray) : List ByteArray := l.filter fun s => hasB o s
theorem inN_len (l o : List ByteArray) : (inN l o).length ≤ l.length := List.length_filter_le _ _
theorem inN_snoc {l : List ByteArray} (o : List ByteArray) {i : Nat} {x : ByteArray} (hx : l[i]? = some x) : inN (l.take (i + 1)) o = if hasB o x then inN (l.take i) o ++ [x] else inN (l.take i) o := by
  unfold inN
  rw [List.take_add_one, hx, List.filter_append]
  cases hq : hasB o x <;> simp [List.filter, hq]
theorem woN_snoc {l : List ByteArray} (o : List ByteArray) {i : Nat} {x : ByteArray} (hx : l[i]? = some x) : woN (l.take (i + 1)) o = if hasB o x then woN (l.take i) o else woN (l.take i) o ++ [x] := by
  unfold woN
  rw [List.take_add_one, hx, List.filter_append]
  cases hq : hasB o x <;> simp [List.filter, hq]
def Tm.nm : Tm → ByteArray
  | .mk _ _ a _ _ _ _ => a
/-- The names that are asked for again, as often. -/
def moreN (had : List ByteArray) : List Tm → List ByteArray
  | [] => []
  | x :: r => if hasB had x.nm then x.nm :: moreN (had ++ [x.nm]) r else moreN (had ++ [x.nm]) r
theorem moreN_len : ∀ (l : List Tm) (had : List ByteArray), (moreN had l).length ≤ l.length
  | [], _ => Nat.le_refl _
  | x :: r, had => by
    have := moreN_len r (had ++ [x.nm])
    rw [moreN]
    split <;> simp <;> omega
theorem inN_woN (l f g : List ByteArray) : woN (inN l f) g = inN l (woN f g) := by
  unfold woN inN
  rw [List.filter_filter]
  refine List.filter_congr fun s _ => ?_
  rw [Bool.eq_iff_iff]
  simp [hasB_iff, hasB_not, and_comm]
theorem inN_inN (l f g : List ByteArray) : inN (inN l f) (inN l g) = inN (inN l f) g := by
  unfold inN
  refine List.filter_congr fun s hs => ?_
  have := (List.mem_filter.1 hs).1
  rw [Bool.eq_iff_iff]
  simp [hasB_iff, this]

/-- What each part of a let owns; what both need. -/
def letH (a : ByteArray) (own : List ByteArray) : List Tm → List (List ByteArray)
  | [x, y] => [inN own x.free, inN own (woN y.free [a]) ++ [a]]
  | _ => []
def letD (a : ByteArray) (own : List ByteArray) : List Tm → List ByteArray
  | [x, y] => inN (inN own x.free) (woN y.free [a])
  | _ => []
def nmH : List Tm → ByteArray
  | x :: _ => x.nm
  | [] => .empty
mutual
def Tm.ow : Tm → List ByteArray → Tm
  | .mk k n a b vs xs cs, has => cnt 9 (woN has (Tm.mk k n a b vs xs cs).free) (
      if k = 3 ∨ k = 4 ∨ k = 5 then cnt 8 (moreN [] xs) (.mk k n a b vs xs cs)
      else if k = 6 then cnt 8 (letD a (inN has (Tm.mk k n a b vs xs cs).free) xs) (.mk 6 0 a .empty [] (Tm.owZ xs (letH a (inN has (Tm.mk k n a b vs xs cs).free) xs)) [])
      else if k = 7 then .mk 7 0 .empty .empty [] xs (Cs.owL cs (inN has (Tm.mk k n a b vs xs cs).free) (nmH xs))
      else .mk k n a b vs xs cs)
def Tm.owZ : List Tm → List (List ByteArray) → List Tm
  | [], _ => []
  | x :: r, hs => x.ow (hs.headD []) :: Tm.owZ r hs.tail
def Cs.owL : List Cs → List ByteArray → ByteArray → List Cs
  | [], _, _ => []
  | c :: r, own, nm => c.ow own nm :: Cs.owL r own nm
def Cs.ow : Cs → List ByteArray → ByteArray → Cs
  | .mk t ws y, own, nm => .mk t ws (cnt 8 (inN ws y.free) (cnt 9 (if hasB y.free nm then [] else [nm]) (y.ow (if hasB y.free nm then own ++ inN ws y.free else woN (own ++ inN ws y.free) [nm]))))
end
theorem Cs.owL_snoc {l : List Cs} {i : Nat} {x : Cs} (hx : l[i]? = some x) (own : List ByteArray) (nm : ByteArray) : Cs.owL (l.take (i + 1)) own nm = Cs.owL (l.take i) own nm ++ [x.ow own nm] := by
  have : ∀ l : List Cs, Cs.owL l own nm = l.map fun c => c.ow own nm := fun l => by
    induction l with
    | nil => rfl
    | cons c r ih => rw [Cs.owL, ih]; rfl
  rw [this, this, List.take_add_one, hx, List.map_append]
  rfl
theorem Cs.owL_len (own : List ByteArray) (nm : ByteArray) : ∀ l : List Cs, (Cs.owL l own nm).length = l.length
  | [] => rfl
  | c :: r => by rw [Cs.owL, List.length_cons, Cs.owL_len own nm r, List.length_cons]
def Fn.ow (f : Fn) : Fn := ⟨f.name, f.params, f.body.ow f.params⟩
end Go.Proofs.YtialccgjbanmcaaDoor
