/- Lists of names, changed in place: slices.IndexFunc, DeleteFunc; scope.without, scope.add, by the abstract machine. -/
import Derived.Test.YtialccgjbanmcaaDoorNamesA
namespace Go.Proofs.YtialccgjbanmcaaDoor
open Go.RowKit
attribute [local simp] runD mkRc ldOf ldArg noAny dstOk guardOk opEff opEff0 effOp pureOp callOp zEff evA constAV frGet memGet startAS frOf isGoCall idIn AS.after nextR opnIds objIds AV.ids idsL AObj.ids frNo memNo opnAny isAny mkVal rdCells wrCells fldAddr idxAddr srcRows litRows toD1 toDs setAt sliceAV optI partAV bldAV fillAV binAV binI AV.cells callEff calleeOf frKill memKill AV.kill AObj.kill AV.has AV.hasL Op.operands Call.operands keepF keepM viewIds cChk renOf moGet moWs moQ cEff moLike moHave AV.ren renL AObj.ren AObj.like kept startC moMem AV.frz frz1 frzL frSub memSub frzs AS.frz frFrz memFrz AObj.frz takeMap takeLen bleF Nat.ble_eq memAny objAny mapOp D.keyOk rowAV valRow extOp wrapOp phO
set_option linter.unusedVariables false
set_option linter.unusedSimpArgs false

set_option maxHeartbeats 1000000 in
theorem cs_IndexFunc (l : List ByteArray) (hl : l.length ≤ 8796093022208) (p : ByteArray → Bool) (K : Nat) (t : TypeId) (x : D)
    (hk : ∀ s ∈ l, CSpec Tryd.prog K [.d (.str s), .ptr 1000 0] [(1000, .blk t [.d x])] (.d (.bool (p s))) [(1000, .blk t [.d x])]) :
    CSpec Tryd.prog 117 [.arr 1001 0 l.length, .clo K [.ptr 1000 0]] [(1000, .blk t [.d x]), (1001, .arr 9 1 (l.map strR))] (.d (.int (indexI l p))) [(1000, .blk t [.d x]), (1001, .arr 9 1 (l.map strR))] := by
  refine CSpec.of Tryd.func117 rfl rfl (Nat.le_of_ble_eq_true rfl) ?_
  show AWp _ _ (endC _ Tryd.f117 _ _) (startC 19 _ _)
  repeat (first | refine AWp.seq ?_ | refine AWp.block ?_)
  apply AWp.reg [] []
  · conv => lhs; simp
  · trivial
  repeat (first | refine AWp.seq ?_ | refine AWp.block ?_)
  apply AWp.reg [] []
  · conv => lhs; simp
  · trivial
  repeat (first | refine AWp.seq ?_ | refine AWp.block ?_)
  refine AWp.loop (σ := fun u : {i : Nat // i ≤ l.length ∧ ∀ y ∈ l.take i, p y = false} => ⟨19, [(0, .arr 1001 0 l.length), (1, .clo K [.ptr 1000 0]), (7, .d (.int l.length)), (8, .d (.int u.1))], [(1000, some (.blk t [.d x])), (1001, some (.arr 9 1 (l.map strR)))]⟩)
    (μ := fun u => l.length - u.1) ⟨0, Nat.zero_le _, by simp⟩ (Le.sub (by simp) (by simp)) (fun ⟨i, hi, ht⟩ => ?_)
  dsimp only
  repeat (first | refine AWp.seq ?_ | refine AWp.block ?_)
  apply AWp.reg [] []
  · conv => lhs; simp
  · trivial
  repeat (first | refine AWp.seq ?_ | refine AWp.block ?_)
  refine AWp.cond rfl (fun h => ?_) (fun h => ?_)
  · have hi1 : i < l.length := by have := of_decide_eq_true h; omega
    have h1 : l[i]? = some l[i] := List.getElem?_eq_getElem hi1
    have hmem : l[i] ∈ l := List.getElem_mem hi1
    generalize l[i] = y at h1 hmem
    have hc := hk y hmem
    obtain ⟨B, hB⟩ : ∃ B, B = p y := ⟨_, rfl⟩
    rw [← hB] at hc
    refine AWp.skip ?_
    repeat (first | refine AWp.seq ?_ | refine AWp.block ?_)
    apply AWp.reg [] []
    · conv => lhs; simp
    · trivial
    cases B with
    | true =>
      repeat (first | refine AWp.seq ?_ | refine AWp.block ?_)
      apply AWp.reg [] [.c [] [.d (.str y), .ptr 1000 0] [(1000, .blk t [.d x])] (.d (.bool true)) [(1000, .blk t [.d x])]]
      · conv => lhs; simp [h1]
      · exact ⟨by omega, hc⟩
      repeat (first | refine AWp.seq ?_ | refine AWp.block ?_)
      refine AWp.cond rfl (fun h2 => ?_) (fun h2 => ?_)
      · repeat (first | refine AWp.seq ?_ | refine AWp.block ?_)
        apply AWp.reg [] []
        · conv => lhs; simp
        · trivial
        refine AWp.ret ?_
        try dsimp only [thenQ, blockQ]
        apply endC.ret
        · rfl
        · conv => lhs; simp [resAV, Tryd.results117]
        · rw [indexI_some h1 ht hB.symm]; rfl
        · simp [moEnd, memGet]
      · simp at h2
    | false =>
      repeat (first | refine AWp.seq ?_ | refine AWp.block ?_)
      apply AWp.reg [] [.c [] [.d (.str y), .ptr 1000 0] [(1000, .blk t [.d x])] (.d (.bool false)) [(1000, .blk t [.d x])]]
      · conv => lhs; simp [h1]
      · exact ⟨by omega, hc⟩
      repeat (first | refine AWp.seq ?_ | refine AWp.block ?_)
      refine AWp.cond rfl (fun h2 => ?_) (fun h2 => ?_)
      · simp at h2
      refine AWp.skip ?_
      repeat (first | refine AWp.seq ?_ | refine AWp.block ?_)
      apply AWp.reg [] []
      · conv => lhs; simp
      · first | trivial | omega | (simp [inI, maxLen]; done) | (simp [inI, maxLen]; omega)
      refine ⟨⟨i + 1, hi1, take_all_snoc h1 ht hB.symm⟩, by simp; omega, Le.sub (by simp) (by simp)⟩
  have hi1 : i = l.length := by have := of_decide_eq_false h; omega
  subst hi1
  rw [List.take_length] at ht
  refine AWp.exit ?_
  repeat (first | refine AWp.seq ?_ | refine AWp.block ?_)
  apply AWp.reg [] []
  · conv => lhs; simp
  · trivial
  refine AWp.ret ?_
  try dsimp only [thenQ, blockQ]
  apply endC.ret
  · rfl
  · conv => lhs; simp [resAV, Tryd.results117]
  · rw [indexI_none ht]; rfl
  · simp [moEnd, memGet]


/-- What DeleteFunc leaves in the array. -/
def delRows (l : List ByteArray) (p : ByteArray → Bool) : List (List D) := ((l.filter fun s => !p s).map strR) ++ List.replicate (l.length - (l.filter fun s => !p s).length) [.str ByteArray.empty]

theorem set_mid {α : Type} (a m b : List α) (v : α) : ∃ m', m'.length = m.length ∧ (a ++ (m ++ v :: b)).set a.length v = (a ++ [v]) ++ (m' ++ b) := by
  cases m with
  | nil => exact ⟨[], rfl, by simp⟩
  | cons x m => exact ⟨m ++ [v], by simp, by simp⟩

set_option maxRecDepth 20000 in
set_option maxHeartbeats 4000000 in
theorem cs_DeleteFunc (l : List ByteArray) (hl : l.length ≤ 8796093022208) (p : ByteArray → Bool) (K : Nat) (t : TypeId) (x : D)
    (hk : ∀ s ∈ l, CSpec Tryd.prog K [.d (.str s), .ptr 1000 0] [(1000, .blk t [.d x])] (.d (.bool (p s))) [(1000, .blk t [.d x])]) :
    CSpec Tryd.prog 87 [.arr 1001 0 l.length, .clo K [.ptr 1000 0]] [(1000, .blk t [.d x]), (1001, .arr 9 1 (l.map strR))] (.arr 1001 0 (l.filter fun s => !p s).length) [(1000, .blk t [.d x]), (1001, .arr 9 1 (delRows l p))] := by
  have hix := cs_IndexFunc l hl p K t x hk
  refine CSpec.of Tryd.func87 rfl rfl (Nat.le_of_ble_eq_true rfl) ?_
  show AWp _ _ (endC _ Tryd.f87 _ _) (startC 42 _ _)
  repeat (first | refine AWp.seq ?_ | refine AWp.block ?_)
  apply AWp.reg [] []
  · conv => lhs; simp
  · trivial
  by_cases hno : ∀ y ∈ l, p y = false
  · rw [indexI_none hno] at hix
    have hf : (l.filter fun s => !p s) = l := List.filter_eq_self.2 fun y hy => by simp [hno y hy]
    repeat (first | refine AWp.seq ?_ | refine AWp.block ?_)
    apply AWp.reg [] [.c [] [.arr 1001 0 l.length, .clo K [.ptr 1000 0]] [(1000, .blk t [.d x]), (1001, .arr 9 1 (l.map strR))] (.d (.int (-1))) [(1000, .blk t [.d x]), (1001, .arr 9 1 (l.map strR))]]
    · conv => lhs; simp
    · exact hix
    repeat (first | refine AWp.seq ?_ | refine AWp.block ?_)
    apply AWp.reg [] []
    · conv => lhs; simp
    · trivial
    repeat (first | refine AWp.seq ?_ | refine AWp.block ?_)
    refine AWp.cond rfl (fun h => ?_) (fun h => ?_)
    · repeat (first | refine AWp.seq ?_ | refine AWp.block ?_)
      apply AWp.reg [] []
      · conv => lhs; simp
      · trivial
      refine AWp.ret ?_
      try dsimp only [thenQ, blockQ]
      apply endC.ret
      · rfl
      · conv => lhs; simp [resAV, Tryd.results87]
      · rw [hf]; rfl
      · simp [moEnd, memGet, delRows, hf]
    · simp at h
  obtain ⟨i0, y0, hy0, hp0, hbefore⟩ : ∃ i0 y0, l[i0]? = some y0 ∧ p y0 = true ∧ ∀ y ∈ l.take i0, p y = false := by
    have : ∃ i, l.findIdx? p = some i := by
      cases hf : l.findIdx? p with
      | none => exact absurd (List.findIdx?_eq_none_iff.1 hf) hno
      | some i => exact ⟨i, rfl⟩
    obtain ⟨i, hi⟩ := this
    rw [List.findIdx?_eq_some_iff_getElem] at hi
    obtain ⟨h1, h2, h3⟩ := hi
    refine ⟨i, l[i], List.getElem?_eq_getElem h1, h2, fun y hy => ?_⟩
    obtain ⟨j, hj⟩ := List.mem_iff_getElem?.1 hy
    rw [List.getElem?_take] at hj
    split at hj
    · rename_i hji
      have := h3 j hji
      rw [List.getElem?_eq_getElem (by omega)] at hj
      cases hj
      simpa using this
    · cases hj
  rw [indexI_some hy0 hbefore hp0] at hix
  have hi0 : i0 < l.length := (List.getElem?_eq_some_iff.1 hy0).1
  have hne : ¬ ((i0 : Int) = -1) := by omega
  repeat (first | refine AWp.seq ?_ | refine AWp.block ?_)
  apply AWp.reg [] [.c [] [.arr 1001 0 l.length, .clo K [.ptr 1000 0]] [(1000, .blk t [.d x]), (1001, .arr 9 1 (l.map strR))] (.d (.int i0)) [(1000, .blk t [.d x]), (1001, .arr 9 1 (l.map strR))]]
  · conv => lhs; simp
  · exact hix
  repeat (first | refine AWp.seq ?_ | refine AWp.block ?_)
  apply AWp.reg [] []
  · conv => lhs; simp [hne]
  · trivial
  repeat (first | refine AWp.seq ?_ | refine AWp.block ?_)
  refine AWp.cond rfl (fun h => ?_) (fun h => ?_)
  · simp at h
  refine AWp.skip ?_
  repeat (first | refine AWp.seq ?_ | refine AWp.block ?_)
  apply AWp.reg [] []
  · conv => lhs; simp
  · simp [inI]; omega
  repeat (first | refine AWp.seq ?_ | refine AWp.block ?_)
  have hk0 : ((l.take (i0 + 1)).filter fun s => !p s) = l.take i0 := by
    rw [List.take_add_one, hy0, List.filter_append]
    simp [hp0]
    exact fun y hy => by simpa using hbefore y hy
  refine AWp.loop (σ := fun u : {q : Nat × List ByteArray // q.1 ≤ l.length ∧ ((l.take q.1).filter fun s => !p s).length + q.2.length = q.1} => ⟨42, [(0, .arr 1001 0 l.length), (1, .clo K [.ptr 1000 0]), (5, .d (.int ((l.take u.1.1).filter fun s => !p s).length)), (6, .d (.int u.1.1))],
      [(1000, some (.blk t [.d x])), (1001, some (.arr 9 1 ((((l.take u.1.1).filter fun s => !p s) ++ (u.1.2 ++ l.drop u.1.1)).map strR)))]⟩)
    (μ := fun u => l.length - u.1.1) ⟨(i0 + 1, [y0]), hi0, by rw [hk0]; simp; omega⟩ ?_ (fun ⟨⟨j, mid⟩, hj, hlen⟩ => ?_)
  · dsimp only
    rw [hk0]
    have e : l.take i0 ++ ([y0] ++ l.drop (i0 + 1)) = l := by
      have h2 := List.drop_eq_getElem_cons hi0
      rw [List.getElem?_eq_getElem hi0] at hy0
      cases hy0
      rw [List.singleton_append, ← h2, List.take_append_drop]
    rw [e]
    have e2 : (l.take i0).length = i0 := by simp; omega
    rw [e2]
    exact Le.sub (by simp) (by simp)
  dsimp only at hj hlen ⊢
  have hKl : ((l.take j).filter fun s => !p s).length ≤ j := by omega
  obtain ⟨kp, hkp⟩ : ∃ kp, kp = (l.take j).filter fun s => !p s := ⟨_, rfl⟩
  rw [← hkp] at hlen hKl ⊢
  obtain ⟨R, hR⟩ : ∃ R, R = kp ++ (mid ++ l.drop j) := ⟨_, rfl⟩
  have hRl : R.length = l.length := by rw [hR]; simp; omega
  rw [← hR]
  repeat (first | refine AWp.seq ?_ | refine AWp.block ?_)
  apply AWp.reg [] []
  · conv => lhs; simp
  · trivial
  repeat (first | refine AWp.seq ?_ | refine AWp.block ?_)
  refine AWp.cond rfl (fun h => ?_) (fun h => ?_)
  · have hj1 : j < l.length := by have := of_decide_eq_true h; omega
    have hv : l[j]? = some l[j] := List.getElem?_eq_getElem hj1
    have hmem : l[j] ∈ l := List.getElem_mem hj1
    have hd : l.drop j = l[j] :: l.drop (j + 1) := List.drop_eq_getElem_cons hj1
    generalize l[j] = v at hv hmem hd
    have hc := hk v hmem
    obtain ⟨B, hB⟩ : ∃ B, B = p v := ⟨_, rfl⟩
    have ht : (l.take (j + 1)).filter (fun s => !p s) = kp ++ (if B then [] else [v]) := by
      rw [List.take_add_one, hv, List.filter_append, ← hkp, hB]
      cases hp : p v <;> simp [hp]
    rw [← hB] at hc
    have hRj : R[j]? = some v := by
      rw [hR, hd, List.getElem?_append_right (by omega), List.getElem?_append_right (by omega)]
      rw [show j - kp.length - mid.length = 0 from by omega]
      rfl
    refine AWp.skip ?_
    repeat (first | refine AWp.seq ?_ | refine AWp.block ?_)
    apply AWp.reg [] []
    · conv => lhs; simp [hRj, hRl]
    · first | trivial | omega | (simp [inI, maxLen]; done) | (simp [inI, maxLen]; omega)
    cases B with
    | true =>
      repeat (first | refine AWp.seq ?_ | refine AWp.block ?_)
      apply AWp.reg [] [.c [] [.d (.str v), .ptr 1000 0] [(1000, .blk t [.d x])] (.d (.bool true)) [(1000, .blk t [.d x])]]
      · conv => lhs; simp
      · exact hc
      repeat (first | refine AWp.seq ?_ | refine AWp.block ?_)
      refine AWp.cond rfl (fun h2 => ?_) (fun h2 => ?_)
      · simp at h2
      refine AWp.skip ?_
      repeat (first | refine AWp.seq ?_ | refine AWp.block ?_)
      apply AWp.reg [] []
      · conv => lhs; simp
      · first | trivial | omega | (simp [inI, maxLen]; done) | (simp [inI, maxLen]; omega)
      refine ⟨⟨(j + 1, mid ++ [v]), hj1, by dsimp only; rw [ht]; simp; omega⟩, by simp; omega, ?_⟩
      dsimp only
      rw [ht]
      simp only [if_true, List.append_nil]
      have e : kp ++ (mid ++ [v] ++ l.drop (j + 1)) = R := by rw [hR, hd]; simp
      rw [e]
      exact Le.sub (by simp) (by simp)
    | false =>
      repeat (first | refine AWp.seq ?_ | refine AWp.block ?_)
      apply AWp.reg [] [.c [] [.d (.str v), .ptr 1000 0] [(1000, .blk t [.d x])] (.d (.bool false)) [(1000, .blk t [.d x])]]
      · conv => lhs; simp
      · exact hc
      obtain ⟨m', hm', hset⟩ := set_mid kp mid (l.drop (j + 1)) v
      rw [← hd, ← hR] at hset
      have hRk : R[kp.length]? = some R[kp.length] := List.getElem?_eq_getElem (by omega)
      generalize R[kp.length] = r at hRk
      repeat (first | refine AWp.seq ?_ | refine AWp.block ?_)
      refine AWp.cond rfl (fun h2 => ?_) (fun h2 => ?_)
      · repeat (first | refine AWp.seq ?_ | refine AWp.block ?_)
        apply AWp.reg [] []
        · conv => lhs; simp [hRk, hRl]
        · first | trivial | omega | (simp [inI, maxLen]; done) | (simp [inI, maxLen]; omega)
        repeat (first | refine AWp.seq ?_ | refine AWp.block ?_)
        apply AWp.reg [] []
        · conv => lhs; simp
        · first | trivial | omega | (simp [inI, maxLen]; done) | (simp [inI, maxLen]; omega)
        repeat (first | refine AWp.seq ?_ | refine AWp.block ?_)
        apply AWp.reg [] []
        · conv => lhs; simp
        · first | trivial | omega | (simp [inI, maxLen]; done) | (simp [inI, maxLen]; omega)
        refine ⟨⟨(j + 1, m'), hj1, by dsimp only; rw [ht]; simp; omega⟩, by simp; omega, ?_⟩
        dsimp only
        rw [ht]
        have e : kp ++ (if false = true then [] else [v]) ++ (m' ++ l.drop (j + 1)) = R.set kp.length v := by rw [hset]; simp
        rw [e]
        exact Le.sub (by simp) (by simp [List.map_set])
      · simp at h2
  have hj1 : j = l.length := by have := of_decide_eq_false h; omega
  subst hj1
  rw [List.take_length] at hkp
  rw [List.drop_length, List.append_nil] at hR
  refine AWp.exit ?_
  have hmem : List.take kp.length (List.map strR R) ++ (List.replicate (l.length - kp.length) [D.str ByteArray.empty] ++ List.drop (kp.length + (l.length - kp.length)) (List.map strR R)) = delRows l p := by
    rw [delRows, ← hkp, hR, List.map_append, List.take_append_of_le_length (by simp), List.take_of_length_le (by simp), List.drop_eq_nil_of_le (by simp; omega), List.append_nil]
  repeat (first | refine AWp.seq ?_ | refine AWp.block ?_)
  apply AWp.reg [] []
  · conv => lhs; simp [hRl]
  · first | trivial | omega | (simp [inI, maxLen]; done) | (simp [inI, maxLen]; omega)
  repeat (first | refine AWp.seq ?_ | refine AWp.block ?_)
  apply AWp.reg [] []
  · conv => lhs; simp [hRl]
  · first | trivial | omega | (simp [inI, maxLen]; done) | (simp [inI, maxLen]; omega)
  rw [hmem]
  refine AWp.ret ?_
  try dsimp only [thenQ, blockQ]
  apply endC.ret
  · rfl
  · conv => lhs; simp [resAV, Tryd.results87]
  · rw [hkp]; rfl
  · simp [moEnd, memGet]
end Go.Proofs.YtialccgjbanmcaaDoor
