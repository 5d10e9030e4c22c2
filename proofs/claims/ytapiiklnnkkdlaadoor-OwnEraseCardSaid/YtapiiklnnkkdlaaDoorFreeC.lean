import Derived.Test.YtapiiklnnkkdlaaDoorNamesA
/- Lists of names, changed in place: slices.IndexFunc, DeleteFunc; scope.without, scope.add, by the abstract machine. -/
namespace Go.Proofs.YtapiiklnnkkdlaaDoor
open Go.RowKit
attribute [local simp] runD mkRc ldOf stOf stOk ldArg noAny dstOk guardOk opEff opEff0 effOp pureOp callOp zEff evA constAV scalAV Value.oneCell' frGet memGet startAS frOf isGoCall idIn AS.after nextR opnIds objIds AV.ids idsL AObj.ids frNo memNo opnAny isAny mkVal rdCells wrCells fldAddr idxAddr srcRows litRows toD1 toDs setAt sliceAV optI partAV bldAV fillAV binAV binI AV.cells callEff calleeOf frKill memKill AV.kill AObj.kill AV.has AV.hasL Op.operands Call.operands keepF keepM viewIds cChk renOf moGet moWs moQ cEff moLike moHave AV.ren renL AObj.ren AObj.like kept startC moMem AV.frz frz1 frzL frSub memSub frzs AS.frz frFrz memFrz AObj.frz takeMap takeLen bleF Nat.ble_eq memAny objAny mapOp D.keyOk rowAV valRow extOp wrapOp phO
set_option linter.unusedVariables false
set_option linter.unusedSimpArgs false
set_option maxHeartbeats 1000000 in
theorem cs_IndexFunc (l : List ByteArray) (hl : l.length ≤ 8796093022208) (p : ByteArray → Bool) (K : Nat) (t : TypeId) (x : D)
    (hk : ∀ s ∈ l, CSpec Tryd.prog K [.d (.str s), .ptr 1000 0] [(1000, .blk t [.d x])] (.d (.bool (p s))) [(1000, .blk t [.d x])]) :
    CSpec Tryd.prog 164 [.arr 1001 0 l.length, .clo K [.ptr 1000 0]] [(1000, .blk t [.d x]), (1001, .arr 9 1 (l.map strR))] (.d (.int (indexI l p))) [(1000, .blk t [.d x]), (1001, .arr 9 1 (l.map strR))] := by
  refine CSpec.of Tryd.func164 rfl rfl (Nat.le_of_ble_eq_true rfl) ?_
  show AWp _ _ (endC _ Tryd.f164 _ _) (startC 19 _ _)
  repeat (first | refine AWp.seq ?_ | refine AWp.block ?_)
  apply AWp.reg [] []
  · conv => lhs; simp
  · trivial
  repeat (first | refine AWp.seq ?_ | refine AWp.block ?_)
  apply AWp.reg [] []
  · conv => lhs; simp
  · trivial
  repeat (first | refine AWp.seq ?_ | refine AWp.block ?_)
  refine AWp.loop (σ := fun u : {i : Nat // i ≤ l.length ∧ ∀ y ∈ l.take i, p y = false} => ⟨19, [(0, .arr 1001 0 l.length), (1, .clo K [.ptr 1000 0]), (7, .d (.int l.length)), (8, .d (.int u.1))], [(1000, some (.blk t [.d x])), (1001, some (.arr 9 1 (l.map strR)))]⟩)
    (μ := fun u => l.length - u.1) ⟨0, Nat.zero_le _, by simp⟩ (Le.sub (by simp) (by simp)) (fun ⟨i, hi, ht⟩ => ?_)
  dsimp only
  repeat (first | refine AWp.seq ?_ | refine AWp.block ?_)
  apply AWp.reg [] []
  · conv => lhs; simp
  · trivial
  repeat (first | refine AWp.seq ?_ | refine AWp.block ?_)
  refine AWp.cond rfl (fun h => ?_) (fun h => ?_)
  · have hi1 : i < l.length := by have := of_decide_eq_true h; omega
    have h1 : l[i]? = some l[i] := List.getElem?_eq_getElem hi1
    have hmem : l[i] ∈ l := List.getElem_mem hi1
    generalize l[i] = y at h1 hmem
    have hc := hk y hmem
    obtain ⟨B, hB⟩ : ∃ B, B = p y := ⟨_, rfl⟩
    rw [← hB] at hc
    refine AWp.skip ?_
    repeat (first | refine AWp.seq ?_ | refine AWp.block ?_)
    apply AWp.reg [] []
    · conv => lhs; simp
    · trivial
    cases B with
    | true =>
      repeat (first | refine AWp.seq ?_ | refine AWp.block ?_)
      apply AWp.reg [] [.c [] [.d (.str y), .ptr 1000 0] [(1000, .blk t [.d x])] (.d (.bool true)) [(1000, .blk t [.d x])]]
      · conv => lhs; simp [h1]
      · exact ⟨by omega, hc⟩
      repeat (first | refine AWp.seq ?_ | refine AWp.block ?_)
      refine AWp.cond rfl (fun h2 => ?_) (fun h2 => ?_)
      · repeat (first | refine AWp.seq ?_ | refine AWp.block ?_)
        apply AWp.reg [] []
        · conv => lhs; simp
        · trivial
        refine AWp.ret ?_
        try dsimp only [thenQ, blockQ]
        apply endC.ret
        · rfl
        · conv => lhs; simp [resAV, Tryd.results164]
        · rw [indexI_some h1 ht hB.symm]; rfl
        · simp [moEnd, memGet]
      · simp at h2
    | false =>
      repeat (first | refine AWp.seq ?_ | refine AWp.block ?_)
      apply AWp.reg [] [.c [] [.d (.str y), .ptr 1000 0] [(1000, .blk t [.d x])] (.d (.bool false)) [(1000, .blk t [.d x])]]
      · conv => lhs; simp [h1]
      · exact ⟨by omega, hc⟩
      repeat (first | refine AWp.seq ?_ | refine AWp.block ?_)
      refine AWp.cond rfl (fun h2 => ?_) (fun h2 => ?_)
      · simp at h2
      refine AWp.skip ?_
      refine AWp.rg [] [] ?_
      refine ⟨⟨i + 1, hi1, take_all_snoc h1 ht hB.symm⟩, by simp; omega, Le.sub (by simp) (by simp)⟩
  have hi1 : i = l.length := by have := of_decide_eq_false h; omega
  subst hi1
  rw [List.take_length] at ht
  refine AWp.exit ?_
  repeat (first | refine AWp.seq ?_ | refine AWp.block ?_)
  apply AWp.reg [] []
  · conv => lhs; simp
  · trivial
  refine AWp.ret ?_
  try dsimp only [thenQ, blockQ]
  apply endC.ret
  · rfl
  · conv => lhs; simp [resAV, Tryd.results164]
  · rw [indexI_none ht]; rfl
  · simp [moEnd, memGet]
def delRows (l : List ByteArray) (p : ByteArray → Bool) : List (List D) := ((l.filter fun s => !p s).map strR) ++ List.replicate (l.length - (l.filter fun s => !p s).length) [.str ByteArray.empty]
theorem set_mid {α : Type} (a m b : List α) (v : α) : ∃ m', m'.length = m.length ∧ (a ++ (m ++ v :: b)).set a.length v = (a ++ [v]) ++ (m' ++ b) := by
  cases m with
  | nil => exact ⟨[], rfl, by simp⟩
  | cons x m => exact ⟨m ++ [v], by simp, by simp⟩
set_option maxRecDepth 20000 in
set_option maxHeartbeats 4000000 in
theorem cs_DeleteFunc (l : List ByteArray) (hl : l.length ≤ 8796093022208) (p : ByteArray → Bool) (K : Nat) (t : TypeId) (x : D)
    (hk : ∀ s ∈ l, CSpec Tryd.prog K [.d (.str s), .ptr 1000 0] [(1000, .blk t [.d x])] (.d (.bool (p s))) [(1000, .blk t [.d x])]) :
    CSpec Tryd.prog 123 [.arr 1001 0 l.length, .clo K [.ptr 1000 0]] [(1000, .blk t [.d x]), (1001, .arr 9 1 (l.map strR))] (.arr 1001 0 (l.filter fun s => !p s).length) [(1000, .blk t [.d x]), (1001, .arr 9 1 (delRows l p))] := by
  have hix := cs_IndexFunc l hl p K t x hk
  refine CSpec.of Tryd.func123 rfl rfl (Nat.le_of_ble_eq_true rfl) ?_
  show AWp _ _ (endC _ Tryd.f123 _ _) (startC 42 _ _)
  repeat (first | refine AWp.seq ?_ | refine AWp.block ?_)
  apply AWp.reg [] []
  · conv => lhs; simp
  · trivial
  by_cases hno : ∀ y ∈ l, p y = false
  · rw [indexI_none hno] at hix
    have hf : (l.filter fun s => !p s) = l := List.filter_eq_self.2 fun y hy => by simp [hno y hy]
    repeat (first | refine AWp.seq ?_ | refine AWp.block ?_)
    apply AWp.reg [] [.c [] [.arr 1001 0 l.length, .clo K [.ptr 1000 0]] [(1000, .blk t [.d x]), (1001, .arr 9 1 (l.map strR))] (.d (.int (-1))) [(1000, .blk t [.d x]), (1001, .arr 9 1 (l.map strR))]]
    · conv => lhs; simp
    · exact hix
    repeat (first | refine AWp.seq ?_ | refine AWp.block ?_)
    apply AWp.reg [] []
    · conv => lhs; simp
    · trivial
    repeat (first | refine AWp.seq ?_ | refine AWp.block ?_)
    refine AWp.cond rfl (fun h => ?_) (fun h => ?_)
    · repeat (first | refine AWp.seq ?_ | refine AWp.block ?_)
      apply AWp.reg [] []
      · conv => lhs; simp
      · trivial
      refine AWp.ret ?_
      try dsimp only [thenQ, blockQ]
      apply endC.ret
      · rfl
      · conv => lhs; simp [resAV, Tryd.results123]
      · rw [hf]; rfl
      · simp [moEnd, memGet, delRows, hf]
    · simp at h
  obtain ⟨i0, y0, hy0, hp0, hbefore⟩ : ∃ i0 y0, l[i0]? = some y0 ∧ p y0 = true ∧ ∀ y ∈ l.take i0, p y = false := by
    have : ∃ i, l.findIdx? p = some i := by
      cases hf : l.findIdx? p with
      | none => exact absurd (List.findIdx?_eq_none_iff.1 hf) hno
      | some i => exact ⟨i, rfl⟩
    obtain ⟨i, hi⟩ := this
    rw [List.findIdx?_eq_some_iff_getElem] at hi
    obtain ⟨h1, h2, h3⟩ := hi
    refine ⟨i, l[i], List.getElem?_eq_getElem h1, h2, fun y hy => ?_⟩
    obtain ⟨j, hj⟩ := List.mem_iff_getElem?.1 hy
    rw [List.getElem?_take] at hj
    split at hj
    · rename_i hji
      have := h3 j hji
      rw [List.getElem?_eq_getElem (by omega)] at hj
      cases hj
      simpa using this
    · cases hj
  rw [indexI_some hy0 hbefore hp0] at hix
  have hi0 : i0 < l.length := (List.getElem?_eq_some_iff.1 hy0).1
  have hne : ¬ ((i0 : Int) = -1) := by omega
  repeat (first | refine AWp.seq ?_ | refine AWp.block ?_)
  apply AWp.reg [] [.c [] [.arr 1001 0 l.length, .clo K [.ptr 1000 0]] [(1000, .blk t [.d x]), (1001, .arr 9 1 (l.map strR))] (.d (.int i0)) [(1000, .blk t [.d x]), (1001, .arr 9 1 (l.map strR))]]
  · conv => lhs; simp
  · exact hix
  repeat (first | refine AWp.seq ?_ | refine AWp.block ?_)
  apply AWp.reg [] []
  · conv => lhs; simp [hne]
  · trivial
  repeat (first | refine AWp.seq ?_ | refine AWp.block ?_)
  refine AWp.cond rfl (fun h => ?_) (fun h => ?_)
  · simp at h
  refine AWp.skip ?_
  repeat (first | refine AWp.seq ?_ | refine AWp.block ?_)
  apply AWp.reg [] []
  · conv => lhs; simp
  · simp [inI]; omega
  repeat (first | refine AWp.seq ?_ | refine AWp.block ?_)
  have hk0 : ((l.take (i0 + 1)).filter fun s => !p s) = l.take i0 := by
    rw [List.take_add_one, hy0, List.filter_append]
    simp [hp0]
    exact fun y hy => by simpa using hbefore y hy
  refine AWp.loop (σ := fun u : {q : Nat × List ByteArray // q.1 ≤ l.length ∧ ((l.take q.1).filter fun s => !p s).length + q.2.length = q.1} => ⟨42, [(0, .arr 1001 0 l.length), (1, .clo K [.ptr 1000 0]), (5, .d (.int ((l.take u.1.1).filter fun s => !p s).length)), (6, .d (.int u.1.1))],
      [(1000, some (.blk t [.d x])), (1001, some (.arr 9 1 ((((l.take u.1.1).filter fun s => !p s) ++ (u.1.2 ++ l.drop u.1.1)).map strR)))]⟩)
    (μ := fun u => l.length - u.1.1) ⟨(i0 + 1, [y0]), hi0, by rw [hk0]; simp; omega⟩ ?_ (fun ⟨⟨j, mid⟩, hj, hlen⟩ => ?_)
  · dsimp only
    rw [hk0]
    have e : l.take i0 ++ ([y0] ++ l.drop (i0 + 1)) = l := by
      have h2 := List.drop_eq_getElem_cons hi0
      rw [List.getElem?_eq_getElem hi0] at hy0
      cases hy0
      rw [List.singleton_append, ← h2, List.take_append_drop]
    rw [e]
    have e2 : (l.take i0).length = i0 := by simp; omega
    rw [e2]
    exact Le.sub (by simp) (by simp)
  dsimp only at hj hlen ⊢
  have hKl : ((l.take j).filter fun s => !p s).length ≤ j := by omega
  obtain ⟨kp, hkp⟩ : ∃ kp, kp = (l.take j).filter fun s => !p s := ⟨_, rfl⟩
  rw [← hkp] at hlen hKl ⊢
  obtain ⟨R, hR⟩ : ∃ R, R = kp ++ (mid ++ l.drop j) := ⟨_, rfl⟩
  have hRl : R.length = l.length := by rw [hR]; simp; omega
  rw [← hR]
  repeat (first | refine AWp.seq ?_ | refine AWp.block ?_)
  apply AWp.reg [] []
  · conv => lhs; simp
  · trivial
  repeat (first | refine AWp.seq ?_ | refine AWp.block ?_)
  refine AWp.cond rfl (fun h => ?_) (fun h => ?_)
  · have hj1 : j < l.length := by have := of_decide_eq_true h; omega
    have hv : l[j]? = some l[j] := List.getElem?_eq_getElem hj1
    have hmem : l[j] ∈ l := List.getElem_mem hj1
    have hd : l.drop j = l[j] :: l.drop (j + 1) := List.drop_eq_getElem_cons hj1
    generalize l[j] = v at hv hmem hd
    have hc := hk v hmem
    obtain ⟨B, hB⟩ : ∃ B, B = p v := ⟨_, rfl⟩
    have ht : (l.take (j + 1)).filter (fun s => !p s) = kp ++ (if B then [] else [v]) := by
      rw [List.take_add_one, hv, List.filter_append, ← hkp, hB]
      cases hp : p v <;> simp [hp]
    rw [← hB] at hc
    have hRj : R[j]? = some v := by
      rw [hR, hd, List.getElem?_append_right (by omega), List.getElem?_append_right (by omega)]
      rw [show j - kp.length - mid.length = 0 from by omega]
      rfl
    refine AWp.skip ?_
    refine AWp.rg [] [] ?_ (hr := by conv => lhs; simp [hRj, hRl])
    cases B with
    | true =>
      repeat (first | refine AWp.seq ?_ | refine AWp.block ?_)
      apply AWp.reg [] [.c [] [.d (.str v), .ptr 1000 0] [(1000, .blk t [.d x])] (.d (.bool true)) [(1000, .blk t [.d x])]]
      · conv => lhs; simp
      · exact hc
      repeat (first | refine AWp.seq ?_ | refine AWp.block ?_)
      refine AWp.cond rfl (fun h2 => ?_) (fun h2 => ?_)
      · simp at h2
      refine AWp.skip ?_
      refine AWp.rg [] [] ?_
      refine ⟨⟨(j + 1, mid ++ [v]), hj1, by dsimp only; rw [ht]; simp; omega⟩, by simp; omega, ?_⟩
      dsimp only
      rw [ht]
      simp only [if_true, List.append_nil]
      have e : kp ++ (mid ++ [v] ++ l.drop (j + 1)) = R := by rw [hR, hd]; simp
      rw [e]
      exact Le.sub (by simp) (by simp)
    | false =>
      repeat (first | refine AWp.seq ?_ | refine AWp.block ?_)
      apply AWp.reg [] [.c [] [.d (.str v), .ptr 1000 0] [(1000, .blk t [.d x])] (.d (.bool false)) [(1000, .blk t [.d x])]]
      · conv => lhs; simp
      · exact hc
      obtain ⟨m', hm', hset⟩ := set_mid kp mid (l.drop (j + 1)) v
      rw [← hd, ← hR] at hset
      have hRk : R[kp.length]? = some R[kp.length] := List.getElem?_eq_getElem (by omega)
      generalize R[kp.length] = r at hRk
      repeat (first | refine AWp.seq ?_ | refine AWp.block ?_)
      refine AWp.cond rfl (fun h2 => ?_) (fun h2 => ?_)
      · refine AWp.rg [] [] ?_ (hr := by conv => lhs; simp [hRk, hRl])
        refine AWp.rg [] [] ?_
        refine AWp.rg [] [] ?_
        refine ⟨⟨(j + 1, m'), hj1, by dsimp only; rw [ht]; simp; omega⟩, by simp; omega, ?_⟩
        dsimp only
        rw [ht]
        have e : kp ++ (if false = true then [] else [v]) ++ (m' ++ l.drop (j + 1)) = R.set kp.length v := by rw [hset]; simp
        rw [e]
        exact Le.sub (by simp) (by simp [List.map_set])
      · simp at h2
  have hj1 : j = l.length := by have := of_decide_eq_false h; omega
  subst hj1
  rw [List.take_length] at hkp
  rw [List.drop_length, List.append_nil] at hR
  refine AWp.exit ?_
  have hmem : List.take kp.length (List.map strR R) ++ (List.replicate (l.length - kp.length) [D.str ByteArray.empty] ++ List.drop (kp.length + (l.length - kp.length)) (List.map strR R)) = delRows l p := by
    rw [delRows, ← hkp, hR, List.map_append, List.take_append_of_le_length (by simp), List.take_of_length_le (by simp), List.drop_eq_nil_of_le (by simp; omega), List.append_nil]
  refine AWp.rg [] [] ?_ (hr := by conv => lhs; simp [hRl])
  refine AWp.rg [] [] ?_ (hr := by conv => lhs; simp [hRl])
  rw [hmem]
  refine AWp.ret ?_
  try dsimp only [thenQ, blockQ]
  apply endC.ret
  · rfl
  · conv => lhs; simp [resAV, Tryd.results123]
  · rw [hkp]; rfl
  · simp [moEnd, memGet]

theorem PSpec.toC {P : Program} {k : Nat} {args args' : List AV} {d : D} (hS : PSpec P k args' (fun _ => .d d) none) (o : Nat) {e : TypeId} {sz : Nat} {rows : List (List D)} (he : args.map (AV.frz o (.arr e sz rows)) = args') (hd : d.flat) :
    CSpec P k args [(o, .arr e sz rows)] (.d d) [(o, .arr e sz rows)] := by
  subst he
  refine ⟨hS.ent, fun w ok g vals hM hl hv => ?_⟩
  have hx : moGet [(o, AObj.arr e sz rows)] o = some (.arr e sz rows) := by simp [moGet]
  refine (hS.run 0 w (fun b => ok b ∨ g.bl o = some b) vals hM.giw (fun b hb => ?_) (by simpa using hl) (fun i c v hc hvi => ?_)).mono ?_
  · rcases hb with hb | hb
    · exact (hM.okb b hb).1
    · exact (hM.own o _ b hx hb).2.1
  · rw [List.getElem?_map] at hc
    obtain ⟨c', hc', rfl⟩ := Option.map_eq_some_iff.1 hc
    exact ((hv i c' v hc' hvi).frz hM hx).toNo
  · rintro ex w' ⟨v, ok', g', rfl, hb, hok, hokn, hr, -⟩
    refine ⟨v, ok, g, rfl, ⟨fun i y hy => ?_, hM.inj, fun i y b hy hbi => ?_, fun b h => ?_, hM.okk, hb.size, fun b h _ => hb.block b h, fun _ _ => ⟨rfl, rfl⟩, hb.os, hb.tape, hb.output, hM.gi, hM.gb⟩, ?_⟩
    · have hy' : o = i ∧ AObj.arr e sz rows = y := by
        simp only [moGet] at hy
        split at hy
        · rename_i h; exact ⟨by simpa using h, by simpa using hy⟩
        · cases hy
      obtain ⟨rfl, rfl⟩ := hy'
      refine (hM.obj _ _ hy).mono (fun _ => false) trivial (fun b h => hb.block b (hM.own _ _ b hy h).2.1) rfl rfl (fun p h => hb.cell (hM.okb _ h).1) (fun _ h => h) (fun o x' _ h => ⟨x', h, AObj.like_refl _, rfl, rfl⟩)
    · obtain ⟨h1, h2, h3⟩ := hM.own i y b hy hbi
      exact ⟨h1, by have := hb.size; omega, h3⟩
    · obtain ⟨h1, h2⟩ := hM.okb b h
      exact ⟨by have := hb.size; omega, .inl h⟩
    · cases hr with
      | d _ _ hr => exact .d _ _ (hr.flat hd)
theorem cs_Contains (o : Nat) (l : List ByteArray) (s : ByteArray) (hl : l.length ≤ 8796093022208) : CSpec Tryd.prog 125 [.arr o 0 l.length, .d (.str s)] [(o, .arr 9 1 (l.map strR))] (.d (.bool (hasB l s))) [(o, .arr 9 1 (l.map strR))] :=
  (sp_Contains l s hl).toC o (by simp [AV.frz, frz1, List.take_of_length_le]) trivial
def woN (l gone : List ByteArray) : List ByteArray := l.filter fun s => !hasB gone s
theorem woN_len (l gone : List ByteArray) : (woN l gone).length ≤ l.length := List.length_filter_le _ _
theorem cs_without1 (gone : List ByteArray) (s : ByteArray) (hg : gone.length ≤ 8796093022208) : CSpec Tryd.prog 163 [.d (.str s), .ptr 1000 0] [(1000, .blk 30 [.d (strsD gone)])] (.d (.bool (hasB gone s))) [(1000, .blk 30 [.d (strsD gone)])] := by
  have hc := sp_Contains gone s hg
  refine CSpec.of Tryd.func163 rfl rfl (Nat.le_of_ble_eq_true rfl) ?_
  show AWp _ _ (endC _ Tryd.f163 _ _) (startC 7 _ _)
  repeat (first | refine AWp.seq ?_ | refine AWp.block ?_)
  apply AWp.reg [] []
  · conv => lhs; simp
  · trivial
  repeat (first | refine AWp.seq ?_ | refine AWp.block ?_)
  apply AWp.reg [] [.p (fun _ => .d (.bool (hasB gone s))) none]
  · conv => lhs; simp
  · exact hc
  refine AWp.ret ?_
  try dsimp only [thenQ, blockQ]
  apply endC.ret
  · rfl
  · conv => lhs; simp [resAV, Tryd.results163]
  · rfl
  · simp [moEnd, memGet]
set_option maxHeartbeats 2000000 in
theorem sp_without (l gone : List ByteArray) (hl : l.length ≤ 8796093022208) (hg : gone.length ≤ 8796093022208) : PSpec Tryd.prog 122 [strsAV l, strsAV gone] (fun _ => strsAV (woN l gone)) none := by
  have hcl := sp_Clone l hl
  have hdf := cs_DeleteFunc l hl (hasB gone) 163 30 (strsD gone) (fun s _ => cs_without1 gone s hg)
  rw [show (fun s => !hasB gone s) = fun s => !hasB gone s from rfl] at hdf
  obtain ⟨n, hn⟩ : ∃ n, n = (l.filter fun s => !hasB gone s).length := ⟨_, rfl⟩
  obtain ⟨R, hR⟩ : ∃ R, R = delRows l (hasB gone) := ⟨_, rfl⟩
  have hRn : R.take n = (woN l gone).map strR := by
    rw [hR, hn, delRows, List.take_append_of_le_length (by simp), List.take_of_length_le (by simp), woN]
  have hRl : l.length ≤ R.length := by
    have := List.length_filter_le (fun s => !hasB gone s) l
    rw [hR, delRows]; simp; omega
  rw [← hn, ← hR] at hdf
  refine PSpec.of Tryd.func122 rfl rfl rfl (Nat.le_of_ble_eq_true rfl) ?_
  show AWp _ _ (endQ _ Tryd.f122 _ _ _) (startAS 9 _)
  repeat (first | refine AWp.seq ?_ | refine AWp.block ?_)
  apply AWp.reg [] []
  · conv => lhs; simp
  · trivial
  repeat (first | refine AWp.seq ?_ | refine AWp.block ?_)
  apply AWp.reg [] [.p (fun d => .arr d 0 l.length) (some (.arr 9 1 (l.map strR))), .c [(1000, 3), (1001, 6)] [.arr 1001 0 l.length, .clo 163 [.ptr 1000 0]] [(1000, .blk 30 [.d (strsD gone)]), (1001, .arr 9 1 (l.map strR))] (.arr 1001 0 n) [(1000, .blk 30 [.d (strsD gone)]), (1001, .arr 9 1 R)]]
  · conv => lhs; simp
  · exact ⟨hcl, hdf, hRl⟩
  refine AWp.ret ?_
  try dsimp only [thenQ, blockQ]
  apply endQ.retF [6]
  · rfl
  · conv => lhs; simp
  · conv => lhs; simp [resAV, Tryd.results122]
  simp [resVal, AV.nilD, hRn]
def addN (l more : List ByteArray) : List ByteArray := more.foldl (fun l s => if hasB l s then l else l ++ [s]) l
theorem addN_len (more : List ByteArray) : ∀ l, (addN l more).length ≤ l.length + more.length := by
  induction more with
  | nil => intro l; simp [addN]
  | cons s more ih =>
    intro l
    have := ih (if hasB l s then l else l ++ [s])
    simp only [addN, List.foldl_cons, List.length_cons] at this ⊢
    refine Nat.le_trans this ?_
    split
    · omega
    · simp; omega
theorem addN_snoc {l more : List ByteArray} {i : Nat} {x : ByteArray} (hx : more[i]? = some x) : addN l (more.take (i + 1)) = if hasB (addN l (more.take i)) x then addN l (more.take i) else addN l (more.take i) ++ [x] := by
  rw [List.take_add_one, hx]
  simp only [addN, List.foldl_append, Option.toList_some, List.foldl_cons, List.foldl_nil]
  rfl
set_option maxHeartbeats 2000000 in
theorem cs_add (l more : List ByteArray) (hl : l.length + more.length ≤ 1048576) : CSpec Tryd.prog 121 [.arr 500 0 l.length, strsAV more] [(500, .arr 9 1 (l.map strR))] (.arr 500 0 (addN l more).length) [(500, .arr 9 1 ((addN l more).map strR))] := by
  refine CSpec.of Tryd.func121 rfl rfl (Nat.le_of_ble_eq_true rfl) ?_
  show AWp _ _ (endC _ Tryd.f121 _ _) (startC 23 _ _)
  repeat (first | refine AWp.seq ?_ | refine AWp.block ?_)
  apply AWp.reg [] []
  · conv => lhs; simp
  · trivial
  repeat (first | refine AWp.seq ?_ | refine AWp.block ?_)
  apply AWp.reg [] []
  · conv => lhs; simp
  · trivial
  repeat (first | refine AWp.seq ?_ | refine AWp.block ?_)
  refine AWp.loop (σ := fun u : {i : Nat // i ≤ more.length} => ⟨23, [(0, .arr 500 0 (addN l (more.take u.1)).length), (7, strsAV more), (8, .d (.int more.length)), (9, .d (.int u.1))], [(500, some (.arr 9 1 ((addN l (more.take u.1)).map strR)))]⟩)
    (μ := fun u => more.length - u.1) ⟨0, Nat.zero_le _⟩ (Le.sub (by simp [addN]) (by simp [addN])) (fun ⟨i, hi⟩ => ?_)
  dsimp only
  have hN := addN_len (more.take i) l
  have hti : (more.take i).length = i := by simp; omega
  obtain ⟨L, hL⟩ : ∃ L, L = addN l (more.take i) := ⟨_, rfl⟩
  rw [← hL] at hN ⊢
  repeat (first | refine AWp.seq ?_ | refine AWp.block ?_)
  apply AWp.reg [] []
  · conv => lhs; simp
  · trivial
  repeat (first | refine AWp.seq ?_ | refine AWp.block ?_)
  refine AWp.cond rfl (fun h => ?_) (fun h => ?_)
  · have hi1 : i < more.length := by have := of_decide_eq_true h; omega
    have h1 : more[i]? = some more[i] := List.getElem?_eq_getElem hi1
    generalize more[i] = x at h1
    have hs := addN_snoc (l := l) h1
    rw [← hL] at hs
    have hc := cs_Contains 1001 L x (by omega)
    obtain ⟨B, hB⟩ : ∃ B, B = hasB L x := ⟨_, rfl⟩
    rw [← hB] at hs hc
    refine AWp.skip ?_
    refine AWp.rg [] [] ?_ (hr := by conv => lhs; simp [h1])
    repeat (first | refine AWp.seq ?_ | refine AWp.block ?_)
    apply AWp.reg [] [.c [(1001, 500)] [.arr 1001 0 L.length, .d (.str x)] [(1001, .arr 9 1 (L.map strR))] (.d (.bool B)) [(1001, .arr 9 1 (L.map strR))]]
    · conv => lhs; simp
    · exact hc
    cases B with
    | true =>
      repeat (first | refine AWp.seq ?_ | refine AWp.block ?_)
      refine AWp.cond rfl (fun h2 => ?_) (fun h2 => ?_)
      · simp at h2
      refine AWp.skip ?_
      refine AWp.rg [] [] ?_
      refine ⟨⟨i + 1, hi1⟩, by simp; omega, ?_⟩
      dsimp only
      rw [hs, if_pos rfl]
      exact Le.sub (by simp) (by simp)
    | false =>
      repeat (first | refine AWp.seq ?_ | refine AWp.block ?_)
      refine AWp.cond rfl (fun h2 => ?_) (fun h2 => ?_)
      · refine AWp.rg [] [] ?_
        refine AWp.rg [] [] ?_
        refine ⟨⟨i + 1, hi1⟩, by simp; omega, ?_⟩
        dsimp only
        rw [hs, if_neg (by simp)]
        exact Le.sub (by simp) (by simp)
      · simp at h2
  have hi1 : i = more.length := by have := of_decide_eq_false h; omega
  subst hi1
  rw [List.take_length] at hL
  refine AWp.exit ?_
  repeat (first | refine AWp.seq ?_ | refine AWp.block ?_)
  apply AWp.reg [] []
  · conv => lhs; simp
  · trivial
  refine AWp.ret ?_
  try dsimp only [thenQ, blockQ]
  apply endC.ret
  · rfl
  · conv => lhs; simp [resAV, Tryd.results121]
  · rw [hL]; rfl
  · simp [moEnd, memGet, hL]
end Go.Proofs.YtapiiklnnkkdlaaDoor

namespace Go.Proofs.YtapiiklnnkkdlaaDoor
open Go.RowKit
set_option linter.unusedVariables false
set_option linter.unusedSimpArgs false
def endX (P : Program) (fn : Func) (r : Nat → AV) (x : Option AObj) : Exit → AS → Prop := fun e s => ∃ o, (∀ d, r d = (r o).ren (fun _ => d)) ∧ (∀ i ∈ (r o).ids, i = o) ∧ endQ P fn r x o e s
theorem endX.ret {P : Program} {fn : Func} {n : Nat} (o : Nat) {s : AS} {cs : List AV} {y : AObj} (h : resAV P s fn.results.toList = some cs) (hr : (resVal cs).nilD = .arr o 0 n) (hx : memGet s.mem o = some y) (ho : Nat.ble 500 o = false) : endX P fn (fun d => .arr d 0 n) (some y) .ret s :=
  ⟨o, fun _ => rfl, by simp [AV.ids, idsL], .inl rfl, s, Le.refl s, cs, h, hr, rfl, fun z hz => by cases hz; exact ⟨hx, ho⟩⟩
theorem PSpec.ofArrX {P : Program} {k : Nat} {fn : Func} {c : Code} (hf : P.funcs[k]? = some fn) (hnm : (fn.name == "runtime.NumGoroutine") = false) (hb : fn.body = some c) {args : List AV} (r : Nat → AV) {e : TypeId} {sz : Nat} {rows : List (List D)} (hn : args.length ≤ fn.ntmps)
    (hrcl : ∀ d, (r d).has (fun i => !(d == i)) = false) (h : AWp P c (endX P fn r (some (.arr e sz rows))) (startAS fn.ntmps args)) : PSpec P k args r (some (.arr e sz rows)) := by
  refine ⟨⟨fn, hf, hnm, by rw [hb]; rfl⟩, hrcl, (fun h => by cases h), fun y hy => ⟨e, sz, rows, by cases hy; rfl⟩, fun d w ok vals hgi hok hl hv => ?_⟩
  refine calls_of_wp hf hb ?_
  have hst : St ⟨w, ok, fun _ => False, noG⟩ (startAS fn.ntmps args) { tmps := vals ++ Array.replicate (fn.ntmps - vals.size) undef, defers := [] } w := by
    refine ⟨ok, noG, ⟨(fun o x hx => by cases hx), (fun i j xi xj b hi => by cases hi), (fun i x b hi => by cases hi), fun b hb => ⟨hok b hb, .inl hb⟩, fun b hb => hb, Nat.le_refl _, fun b _ _ => rfl, fun i _ => ⟨rfl, rfl⟩, rfl, rfl, rfl, hgi, fun _ _ h => h⟩, by simp [startAS]; omega, rfl, fun t => ?_⟩
    exact frStart (C := ⟨w, ok, fun _ => False, noG⟩) hl hn hv t
  refine wp_mono (h _ _ w hst) ?_
  rintro ex a' w' ⟨s, ⟨o, hren, hids, he, s', hle, cs, hres, hr, hrn, hx⟩, hs⟩
  obtain ⟨ok', g, hM, h1, h2, h3⟩ := hle _ _ _ hs
  obtain ⟨v, hv1, hv2⟩ := results_ok hM h3 hres
  obtain ⟨hxo, hxs⟩ := hx _ rfl
  have hv2 := hv2.nilD
  rw [hr, hrn] at hv2
  have hfin : a'.defers = [] ∧ ∃ v, (results fn a'.tmps).run P w' = .ok v w' ∧ ∃ v' ok' g', Ending.returned v = .returned v' ∧ Below w.heap.size w w' ∧ (∀ b, ok b → ok' b) ∧ (∀ b, ok' b → ok b ∨ (w.heap.size ≤ b ∧ b < w'.heap.size)) ∧ VR w' ok' g' (oneM d (some (.arr e sz rows))) (r d) v' ∧
      (∀ y, (some (.arr e sz rows) : Option AObj) = some y → OR w' ok' g' (oneM d (some (.arr e sz rows))) d y ∧ ∀ b, g'.bl d = some b → ¬ ok' b ∧ w.heap.size ≤ b ∧ b < w'.heap.size) := by
    refine ⟨h2, v, hv1, v, ok', ⟨fun _ => g.bl o, fun _ => g.cp o⟩, rfl, ⟨hM.os, hM.tape, hM.output, hM.size, fun b hb => hM.heap b hb (fun h => h)⟩, hM.okk, fun b hb => ?_, ?_, fun y hy => ?_⟩
    · obtain ⟨k1, k2⟩ := hM.okb b hb
      rcases k2 with k2 | k2
      · exact .inl k2
      · exact .inr ⟨k2, k1⟩
    · rw [hren d]
      refine VR.reren _ hv2 fun i hi => ?_
      have := hids i hi
      subst this
      exact ⟨_, hxo, by simp [oneM, AObj.ren], rfl, rfl⟩
    · cases hy
      have hO := hM.obj o _ hxo
      refine ⟨hO, fun b hb => ?_⟩
      obtain ⟨k1, k2, k3⟩ := hM.own o _ b hxo hb
      refine ⟨k1, ?_, k2⟩
      rcases k3 with k3 | ⟨k3, _⟩
      · exact k3
      · exact k3.elim
  rcases he with rfl | rfl
  · exact hfin
  · exact hfin
mutual
def Tm.free : Tm → List ByteArray
  | .mk k _ a _ _ xs cs => if k = 1 then [a] else if k = 6 ∧ xs.length = 2 then Tm.freeL a [] xs else Cs.frees (Tm.frees (if 8 ≤ k ∧ k ≤ 11 then [a] else []) xs) cs
def Tm.frees : List ByteArray → List Tm → List ByteArray
  | o, [] => o
  | o, x :: r => Tm.frees (addN o x.free) r
def Tm.freeL (a : ByteArray) : List ByteArray → List Tm → List ByteArray
  | o, [] => o
  | o, x :: r => Tm.freeB a (addN o x.free) r
def Tm.freeB (a : ByteArray) : List ByteArray → List Tm → List ByteArray
  | o, [] => o
  | o, x :: _ => addN o (woN x.free [a])
def Cs.frees : List ByteArray → List Cs → List ByteArray
  | o, [] => o
  | o, c :: r => Cs.frees (addN o c.freeC) r
def Cs.freeC : Cs → List ByteArray
  | .mk _ vs b => woN b.free vs
end
theorem Tm.frees_eq (l : List Tm) : ∀ o, Tm.frees o l = l.foldl (fun o x => addN o x.free) o := by
  induction l with
  | nil => intro o; simp [Tm.frees]
  | cons x r ih => intro o; simp [Tm.frees, ih]
theorem Cs.frees_eq (l : List Cs) : ∀ o, Cs.frees o l = l.foldl (fun o x => addN o x.freeC) o := by
  induction l with
  | nil => intro o; simp [Cs.frees]
  | cons x r ih => intro o; simp [Cs.frees, ih]
theorem nodup_addN (more : List ByteArray) : ∀ l : List ByteArray, l.Nodup → (addN l more).Nodup := by
  induction more with
  | nil => intro l h; simpa [addN] using h
  | cons s more ih =>
    intro l h
    have := ih (if hasB l s then l else l ++ [s]) (by
      split
      · exact h
      · rename_i hs
        have hs' := hasB_not.1 (by simpa using hs)
        rw [List.nodup_append]
        exact ⟨h, by simp, fun x hx y hy => by simp at hy; subst hy; rintro rfl; exact hs' hx⟩)
    simpa only [addN, List.foldl_cons] using this
theorem addN_app (more : List ByteArray) : ∀ l : List ByteArray, (l ++ more).Nodup → addN l more = l ++ more := by
  induction more with
  | nil => intro l h; simp [addN]
  | cons s more ih =>
    intro l h
    have hs : hasB l s = false := hasB_not.2 fun hm => by
      rw [List.nodup_append] at h
      exact h.2.2 s hm s (List.mem_cons_self ..) rfl
    have := ih (l ++ [s]) (by simpa using h)
    simp only [addN, List.foldl_cons, hs] at this ⊢
    simpa using this
theorem addN_nil {l : List ByteArray} (h : l.Nodup) : addN [] l = l := by simpa using addN_app l [] (by simpa using h)
theorem frees_nodup (l : List Tm) : ∀ o : List ByteArray, o.Nodup → (l.foldl (fun o x => addN o x.free) o).Nodup := by
  induction l with
  | nil => intro o h; exact h
  | cons x r ih => intro o h; exact ih _ (nodup_addN _ _ h)
theorem freesC_nodup (l : List Cs) : ∀ o : List ByteArray, o.Nodup → (l.foldl (fun o x => addN o x.freeC) o).Nodup := by
  induction l with
  | nil => intro o h; exact h
  | cons x r ih => intro o h; exact ih _ (nodup_addN _ _ h)
theorem Tm.free_nodup (t : Tm) : t.free.Nodup := by
  obtain ⟨k, n, a, b, vs, xs, cs⟩ := t
  simp only [Tm.free]
  split
  · simp
  split
  · rename_i h
    obtain ⟨_, h2⟩ := h
    match xs, h2 with
    | [x, y], _ => simp only [Tm.freeL, Tm.freeB]; exact nodup_addN _ _ (nodup_addN _ _ (by simp))
  · rw [Tm.frees_eq, Cs.frees_eq]
    refine freesC_nodup _ _ (frees_nodup _ _ ?_)
    split <;> simp
mutual
theorem Tm.free_len : ∀ t : Tm, t.free.length ≤ t.sz
  | .mk k n a b vs xs cs => by
    simp only [Tm.free, Tm.sz]
    split
    · simp; omega
    split
    · have := Tm.freeL_len a xs []
      simp at this; omega
    · have h1 := Tm.frees_len xs (if 8 ≤ k ∧ k ≤ 11 then [a] else [])
      have h2 := Cs.frees_len cs (Tm.frees (if 8 ≤ k ∧ k ≤ 11 then [a] else []) xs)
      have h3 : (if 8 ≤ k ∧ k ≤ 11 then [a] else []).length ≤ 1 := by split <;> simp
      omega
theorem Tm.frees_len : ∀ (l : List Tm) (o : List ByteArray), (Tm.frees o l).length ≤ o.length + Tm.szs l
  | [], o => by simp [Tm.frees]
  | x :: r, o => by
    have h1 := Tm.free_len x
    have h2 := Tm.frees_len r (addN o x.free)
    have h3 := addN_len x.free o
    simp only [Tm.frees, Tm.szs]
    omega
theorem Tm.freeL_len (a : ByteArray) : ∀ (l : List Tm) (o : List ByteArray), (Tm.freeL a o l).length ≤ o.length + Tm.szs l
  | [], o => by simp [Tm.freeL]
  | x :: r, o => by
    have h1 := Tm.free_len x
    have h2 := Tm.freeB_len a r (addN o x.free)
    have h3 := addN_len x.free o
    simp only [Tm.freeL, Tm.szs]
    omega
theorem Tm.freeB_len (a : ByteArray) : ∀ (l : List Tm) (o : List ByteArray), (Tm.freeB a o l).length ≤ o.length + Tm.szs l
  | [], o => by simp [Tm.freeB]
  | x :: r, o => by
    have h1 := Tm.free_len x
    have h3 := addN_len (woN x.free [a]) o
    have h4 := woN_len x.free [a]
    simp only [Tm.freeB, Tm.szs]
    omega
theorem Cs.frees_len : ∀ (l : List Cs) (o : List ByteArray), (Cs.frees o l).length ≤ o.length + Cs.szs l
  | [], o => by simp [Cs.frees]
  | x :: r, o => by
    have h1 := Cs.freeC_len x
    have h2 := Cs.frees_len r (addN o x.freeC)
    have h3 := addN_len x.freeC o
    simp only [Cs.frees, Cs.szs]
    omega
theorem Cs.freeC_len : ∀ (c : Cs), c.freeC.length ≤ c.sz
  | .mk t vs b => by
    have h1 := Tm.free_len b
    have h4 := woN_len b.free vs
    simp only [Cs.freeC, Cs.sz]
    omega
end
theorem Tm.szs_take {l : List Tm} {i : Nat} {x : Tm} (hx : l[i]? = some x) : Tm.szs (l.take i) + x.sz ≤ Tm.szs l := by
  induction l generalizing i with
  | nil => simp at hx
  | cons y r ih =>
    cases i with
    | zero => simp at hx; subst hx; simp [Tm.szs]
    | succ i => have := ih (i := i) (by simpa using hx); simp only [List.take_succ_cons, Tm.szs]; omega
theorem Cs.szs_take {l : List Cs} {i : Nat} {x : Cs} (hx : l[i]? = some x) : Cs.szs (l.take i) + x.sz ≤ Cs.szs l := by
  induction l generalizing i with
  | nil => simp at hx
  | cons y r ih =>
    cases i with
    | zero => simp at hx; subst hx; simp [Cs.szs]
    | succ i => have := ih (i := i) (by simpa using hx); simp only [List.take_succ_cons, Cs.szs]; omega
theorem Tm.frees_snoc {o : List ByteArray} {l : List Tm} {i : Nat} {x : Tm} (hx : l[i]? = some x) : Tm.frees o (l.take (i + 1)) = addN (Tm.frees o (l.take i)) x.free := by
  rw [List.take_add_one, hx]
  simp [Tm.frees_eq]
theorem Cs.frees_snoc {o : List ByteArray} {l : List Cs} {i : Nat} {x : Cs} (hx : l[i]? = some x) : Cs.frees o (l.take (i + 1)) = addN (Cs.frees o (l.take i)) x.freeC := by
  rw [List.take_add_one, hx]
  simp [Cs.frees_eq]
end Go.Proofs.YtapiiklnnkkdlaaDoor

namespace Go.Proofs.YtapiiklnnkkdlaaDoor
open Go.RowKit
attribute [local simp] runD mkRc ldOf stOf stOk ldArg noAny dstOk guardOk opEff opEff0 effOp pureOp callOp zEff evA constAV scalAV Value.oneCell' frGet memGet startAS frOf isGoCall idIn AS.after nextR opnIds objIds AV.ids idsL AObj.ids frNo memNo opnAny isAny mkVal rdCells wrCells fldAddr idxAddr srcRows litRows toD1 toDs setAt sliceAV optI partAV bldAV fillAV binAV binI AV.cells callEff calleeOf frKill memKill AV.kill AObj.kill AV.has AV.hasL Op.operands Call.operands keepF keepM viewIds cChk renOf moGet moWs moQ cEff moLike moHave AV.ren renL AObj.ren AObj.like kept startC moMem AV.frz frz1 frzL frSub memSub frzs AS.frz frFrz memFrz AObj.frz takeMap takeLen bleF Nat.ble_eq memAny objAny mapOp D.keyOk rowAV valRow extOp wrapOp phO frLow memLow memLow1 objLow memEmpty Low LowL
set_option linter.unusedVariables false
set_option linter.unusedSimpArgs false
theorem AWp.seqJ {P : Program} {Q : Exit → AS → Prop} {s : AS} {x y : Code} (s0 : AS) (h2 : AWp P y Q s0) (h1 : ∀ W : AS → Prop, (∀ s', Le s' s0 → W s') → AWp P x (thenQ W Q) s) : AWp P (.seq x y) Q s :=
  AWp.seq (h1 _ fun _ hl => AWp.le hl h2)
abbrev tmCells (k n : Int) (a b : ByteArray) (vs : List ByteArray) (xs : List Tm) (cs : List Cs) : List AV :=
  [.d (.int k), .d (.int n), .d (.str a), .d (.str b), .d (strsD vs), .d (.sl (xs.map Tm.row)), .d (.sl (cs.map Cs.row))]
def tmObj (k n : Int) (a b : ByteArray) (vs : List ByteArray) (xs : List Tm) (cs : List Cs) : Option AObj := some (.blk 34 (tmCells k n a b vs xs cs))
structure Tm.Fit (t : Tm) : Prop where
  ok : t.Ok
  sz : t.sz ≤ 1048576
theorem Tm.Fit.arg {k n : Int} {a b : ByteArray} {vs : List ByteArray} {xs : List Tm} {cs : List Cs} (h : (Tm.mk k n a b vs xs cs).Fit) {x : Tm} (hx : x ∈ xs) : x.Fit :=
  ⟨h.ok.arg hx, by have := Tm.sz_arg (k := k) (n := n) (a := a) (b := b) (vs := vs) (cs := cs) hx; have := h.sz; omega⟩
theorem Tm.Fit.case {k n : Int} {a b : ByteArray} {vs : List ByteArray} {xs : List Tm} {cs : List Cs} (h : (Tm.mk k n a b vs xs cs).Fit) {t : Int} {ws : List ByteArray} {x : Tm} (hx : Cs.mk t ws x ∈ cs) : x.Fit ∧ ws.length ≤ 8796093022207 :=
  ⟨⟨(h.ok.case hx).body.1, by have := Tm.sz_case (k := k) (n := n) (a := a) (b := b) (vs := vs) (xs := xs) hx; have := h.sz; omega⟩, (h.ok.case hx).body.2⟩
theorem sz_all {k n : Int} {a b : ByteArray} {vs : List ByteArray} {xs : List Tm} {cs : List Cs} (h : (Tm.mk k n a b vs xs cs).Fit) : 1 + Tm.szs xs + Cs.szs cs ≤ 1048576 := by
  have := h.sz
  simpa only [Tm.sz] using this
set_option maxRecDepth 20000 in
set_option maxHeartbeats 8000000 in
theorem sp_Free_at : ∀ (N : Nat) (t : Tm), t.sz < N → t.Fit → PSpec Tryd.prog 77 [tmAV t] (fun d => .arr d 0 t.free.length) (some (.arr 9 1 (t.free.map strR))) := by
  intro N
  induction N with
  | zero => intro s h; omega
  | succ N ih =>
  intro t hN hF
  have hO := hF.ok
  obtain ⟨k, n, a, b, vs, xs, cs⟩ := t
  obtain ⟨o1, o2, o3, o4, o5⟩ := hO.vars
  have hsz := sz_all hF
  refine PSpec.ofArrX Tryd.func77 rfl rfl _ (Nat.le_of_ble_eq_true rfl) (fun d => by simp [AV.has, AV.hasL]) ?_
  show AWp _ _ (endX _ Tryd.f77 _ _) (startAS 77 _)
  repeat (first | refine AWp.seq ?_ | refine AWp.block ?_)
  apply AWp.reg [] []
  · conv => lhs; simp
  · trivial
  repeat (first | refine AWp.seq ?_ | refine AWp.block ?_)
  apply AWp.reg [] []
  · conv => lhs; simp
  · trivial
  by_cases e1 : k = 1
  · subst e1
    have hf : (Tm.mk 1 n a b vs xs cs).free = [a] := by simp [Tm.free]
    rw [hf]
    repeat (first | refine AWp.seq ?_ | refine AWp.block ?_)
    apply AWp.reg [] []
    · conv => lhs; simp
    · trivial
    repeat (first | refine AWp.seq ?_ | refine AWp.block ?_)
    apply AWp.reg [] []
    · conv => lhs; simp
    · trivial
    repeat (first | refine AWp.seq ?_ | refine AWp.block ?_)
    refine AWp.cond rfl (fun h => ?_) (fun h => ?_)
    · refine AWp.rg [] [] ?_
      refine AWp.ret ?_
      try dsimp only [thenQ, blockQ]
      apply endX.ret 14
      · conv => lhs; simp [resAV, Tryd.results77]
      · rfl
      · rfl
      · rfl
    · simp at h
  by_cases e6 : k = 6 ∧ xs.length = 2
  · obtain ⟨e6, e7⟩ := e6
    subst e6
    match xs, e7 with
    | [x, y], _ =>
    have hf : (Tm.mk 6 n a b vs [x, y] cs).free = addN x.free (woN y.free [a]) := by
      simp [Tm.free, Tm.freeL, Tm.freeB, addN_nil x.free_nodup]
    rw [hf]
    have hx := ih x (by have := Tm.sz_arg (k := 6) (n := n) (a := a) (b := b) (vs := vs) (cs := cs) (x := x) (xs := [x, y]) (by simp); omega) (hF.arg (by simp))
    have hy := ih y (by have := Tm.sz_arg (k := 6) (n := n) (a := a) (b := b) (vs := vs) (cs := cs) (x := y) (xs := [x, y]) (by simp); omega) (hF.arg (by simp))
    have lx := x.free_len
    have ly := y.free_len
    simp only [Tm.szs] at hsz
    have hwo := sp_without y.free [a] (by omega) (by simp)
    have lw := woN_len y.free [a]
    have had := cs_add x.free (woN y.free [a]) (by omega)
    generalize x.free = fx at *
    generalize woN y.free [a] = fw at *
    generalize y.free = fy at *
    obtain ⟨xk, xn, xa, xb, xv, xx, xc⟩ := x
    obtain ⟨yk, yn, ya, yb, yv, yx, yc⟩ := y
    repeat (first | refine AWp.seq ?_ | refine AWp.block ?_)
    apply AWp.reg [] []
    · conv => lhs; simp
    · trivial
    repeat (first | refine AWp.seq ?_ | refine AWp.block ?_)
    apply AWp.reg [] []
    · conv => lhs; simp
    · trivial
    repeat (first | refine AWp.seq ?_ | refine AWp.block ?_)
    refine AWp.cond rfl (fun h => ?_) (fun h => ?_)
    · simp at h
    repeat (first | refine AWp.seq ?_ | refine AWp.block ?_)
    apply AWp.reg [] []
    · conv => lhs; simp
    · trivial
    repeat (first | refine AWp.seq ?_ | refine AWp.block ?_)
    refine AWp.cond rfl (fun h2 => ?_) (fun h2 => ?_)
    rotate_left
    · simp at h2
    repeat (first | refine AWp.seq ?_ | refine AWp.block ?_)
    apply AWp.reg [] []
    · conv => lhs; simp
    · trivial
    repeat (first | refine AWp.seq ?_ | refine AWp.block ?_)
    refine AWp.cond rfl (fun h3 => ?_) (fun h3 => ?_)
    rotate_left
    · simp at h3
    repeat (first | refine AWp.seq ?_ | refine AWp.block ?_)
    apply AWp.draw [9, 12] [.p (fun d => .arr d 0 fx.length) (some (.arr 9 1 (fx.map strR))), .p (fun d => .arr d 0 fy.length) (some (.arr 9 1 (fy.map strR))), .p (fun _ => strsAV fw) none, .c [(500, 25)] [.arr 500 0 fx.length, strsAV fw] [(500, .arr 9 1 (fx.map strR))] (.arr 500 0 (addN fx fw).length) [(500, .arr 9 1 ((addN fx fw).map strR))]] mixed
    · conv => lhs; simp [Tm.row, Tm.rows_eq, Cs.rows_eq, tmAV]
    · kernel_rfl
    · exact ⟨hx, hy, hwo, had⟩
    refine AWp.ret ?_
    try dsimp only [thenQ, blockQ]
    apply endX.ret 25
    · conv => lhs; simp [resAV, Tryd.results77]
    · rfl
    · rfl
    · rfl
  obtain ⟨o0, ho0⟩ : ∃ o0, o0 = if 8 ≤ k ∧ k ≤ 11 then [a] else [] := ⟨_, rfl⟩
  have hf : (Tm.mk k n a b vs xs cs).free = Cs.frees (Tm.frees o0 xs) cs := by simp only [Tm.free, if_neg e1, if_neg e6, ho0]
  have hl0 : o0.length ≤ 1 := by rw [ho0]; split <;> simp
  rw [hf]
  refine AWp.seqJ ⟨77, [(1, .ptr 1 0), (3, .arr 400 0 o0.length)], [(1, tmObj k n a b vs xs cs), (400, some (.arr 9 1 (o0.map strR)))]⟩ ?_ (fun W hW => ?_)
  rotate_left
  · by_cases k6 : k = 6
    · subst k6
      have h7 : ¬ (xs.length : Int) = 2 := fun h => e6 ⟨rfl, by omega⟩
      rw [if_neg (by omega)] at ho0
      subst ho0
      repeat (first | refine AWp.seq ?_ | refine AWp.block ?_)
      apply AWp.reg [] []
      · conv => lhs; simp
      · trivial
      repeat (first | refine AWp.seq ?_ | refine AWp.block ?_)
      apply AWp.reg [] []
      · conv => lhs; simp
      · trivial
      repeat (first | refine AWp.seq ?_ | refine AWp.block ?_)
      refine AWp.cond rfl (fun h => ?_) (fun h => ?_)
      · simp at h
      repeat (first | refine AWp.seq ?_ | refine AWp.block ?_)
      apply AWp.reg [] []
      · conv => lhs; simp
      · trivial
      repeat (first | refine AWp.seq ?_ | refine AWp.block ?_)
      refine AWp.cond rfl (fun h2 => ?_) (fun h2 => ?_)
      rotate_left
      · simp at h2
      repeat (first | refine AWp.seq ?_ | refine AWp.block ?_)
      apply AWp.reg [] []
      · conv => lhs; simp [h7]
      · trivial
      repeat (first | refine AWp.seq ?_ | refine AWp.block ?_)
      refine AWp.cond rfl (fun h3 => ?_) (fun h3 => ?_)
      · simp at h3
      refine AWp.skip ?_
      exact hW _ (Le.low [400] [] (fr := [(1, .ptr 1 0), (3, .arr 400 0 0)]) (mem := [(1, tmObj 6 n a b vs xs cs), (400, some (.arr 9 1 []))]) rfl (by simp) (by simp [tmObj]))
    by_cases k8 : k = 8
    · subst k8
      rw [if_pos (by omega)] at ho0
      subst ho0
      repeat (first | refine AWp.seq ?_ | refine AWp.block ?_)
      apply AWp.reg [] []
      · conv => lhs; simp
      · trivial
      repeat (first | refine AWp.seq ?_ | refine AWp.block ?_)
      apply AWp.reg [] []
      · conv => lhs; simp
      · trivial
      repeat (first | refine AWp.seq ?_ | refine AWp.block ?_)
      refine AWp.cond rfl (fun h => ?_) (fun h => ?_)
      · simp at h
      repeat (first | refine AWp.seq ?_ | refine AWp.block ?_)
      apply AWp.reg [] []
      · conv => lhs; simp
      · trivial
      repeat (first | refine AWp.seq ?_ | refine AWp.block ?_)
      refine AWp.cond rfl (fun h2 => ?_) (fun h2 => ?_)
      · simp at h2
      repeat (first | refine AWp.seq ?_ | refine AWp.block ?_)
      apply AWp.reg [] []
      · conv => lhs; simp
      · trivial
      repeat (first | refine AWp.seq ?_ | refine AWp.block ?_)
      refine AWp.cond rfl (fun h3 => ?_) (fun h3 => ?_)
      rotate_left
      · simp at h3
      refine AWp.skip ?_
      repeat (first | refine AWp.seq ?_ | refine AWp.block ?_)
      refine AWp.cond rfl (fun h4 => ?_) (fun h4 => ?_)
      rotate_left
      · simp at h4
      refine AWp.rg [] [] ?_
      exact hW _ (Le.trans (Le.swap _ 41 400 rfl rfl) (Le.sub (by simp [AS.swap, swN]) (by simp [AS.swap, swN, tmObj])))
    by_cases k9 : k = 9
    · subst k9
      rw [if_pos (by omega)] at ho0
      subst ho0
      repeat (first | refine AWp.seq ?_ | refine AWp.block ?_)
      apply AWp.reg [] []
      · conv => lhs; simp
      · trivial
      repeat (first | refine AWp.seq ?_ | refine AWp.block ?_)
      apply AWp.reg [] []
      · conv => lhs; simp
      · trivial
      repeat (first | refine AWp.seq ?_ | refine AWp.block ?_)
      refine AWp.cond rfl (fun h => ?_) (fun h => ?_)
      · simp at h
      repeat (first | refine AWp.seq ?_ | refine AWp.block ?_)
      apply AWp.reg [] []
      · conv => lhs; simp
      · trivial
      repeat (first | refine AWp.seq ?_ | refine AWp.block ?_)
      refine AWp.cond rfl (fun h2 => ?_) (fun h2 => ?_)
      · simp at h2
      repeat (first | refine AWp.seq ?_ | refine AWp.block ?_)
      apply AWp.reg [] []
      · conv => lhs; simp
      · trivial
      repeat (first | refine AWp.seq ?_ | refine AWp.block ?_)
      refine AWp.cond rfl (fun h3 => ?_) (fun h3 => ?_)
      · simp at h3
      repeat (first | refine AWp.seq ?_ | refine AWp.block ?_)
      apply AWp.reg [] []
      · conv => lhs; simp
      · trivial
      repeat (first | refine AWp.seq ?_ | refine AWp.block ?_)
      refine AWp.cond rfl (fun h4 => ?_) (fun h4 => ?_)
      rotate_left
      · simp at h4
      refine AWp.rg [] [] ?_
      exact hW _ (Le.trans (Le.swap _ 41 400 rfl rfl) (Le.sub (by simp [AS.swap, swN]) (by simp [AS.swap, swN, tmObj])))
    by_cases k10 : k = 10
    · subst k10
      rw [if_pos (by omega)] at ho0
      subst ho0
      repeat (first | refine AWp.seq ?_ | refine AWp.block ?_)
      apply AWp.reg [] []
      · conv => lhs; simp
      · trivial
      repeat (first | refine AWp.seq ?_ | refine AWp.block ?_)
      apply AWp.reg [] []
      · conv => lhs; simp
      · trivial
      repeat (first | refine AWp.seq ?_ | refine AWp.block ?_)
      refine AWp.cond rfl (fun h => ?_) (fun h => ?_)
      · simp at h
      repeat (first | refine AWp.seq ?_ | refine AWp.block ?_)
      apply AWp.reg [] []
      · conv => lhs; simp
      · trivial
      repeat (first | refine AWp.seq ?_ | refine AWp.block ?_)
      refine AWp.cond rfl (fun h2 => ?_) (fun h2 => ?_)
      · simp at h2
      repeat (first | refine AWp.seq ?_ | refine AWp.block ?_)
      apply AWp.reg [] []
      · conv => lhs; simp
      · trivial
      repeat (first | refine AWp.seq ?_ | refine AWp.block ?_)
      refine AWp.cond rfl (fun h3 => ?_) (fun h3 => ?_)
      · simp at h3
      repeat (first | refine AWp.seq ?_ | refine AWp.block ?_)
      apply AWp.reg [] []
      · conv => lhs; simp
      · trivial
      repeat (first | refine AWp.seq ?_ | refine AWp.block ?_)
      refine AWp.cond rfl (fun h4 => ?_) (fun h4 => ?_)
      · simp at h4
      repeat (first | refine AWp.seq ?_ | refine AWp.block ?_)
      apply AWp.reg [] []
      · conv => lhs; simp
      · trivial
      repeat (first | refine AWp.seq ?_ | refine AWp.block ?_)
      refine AWp.cond rfl (fun h5 => ?_) (fun h5 => ?_)
      rotate_left
      · simp at h5
      refine AWp.skip ?_
      repeat (first | refine AWp.seq ?_ | refine AWp.block ?_)
      refine AWp.cond rfl (fun h6 => ?_) (fun h6 => ?_)
      rotate_left
      · simp at h6
      refine AWp.rg [] [] ?_
      exact hW _ (Le.trans (Le.swap _ 47 400 rfl rfl) (Le.sub (by simp [AS.swap, swN]) (by simp [AS.swap, swN, tmObj])))
    by_cases k11 : k = 11
    · subst k11
      rw [if_pos (by omega)] at ho0
      subst ho0
      repeat (first | refine AWp.seq ?_ | refine AWp.block ?_)
      apply AWp.reg [] []
      · conv => lhs; simp
      · trivial
      repeat (first | refine AWp.seq ?_ | refine AWp.block ?_)
      apply AWp.reg [] []
      · conv => lhs; simp
      · trivial
      repeat (first | refine AWp.seq ?_ | refine AWp.block ?_)
      refine AWp.cond rfl (fun h => ?_) (fun h => ?_)
      · simp at h
      repeat (first | refine AWp.seq ?_ | refine AWp.block ?_)
      apply AWp.reg [] []
      · conv => lhs; simp
      · trivial
      repeat (first | refine AWp.seq ?_ | refine AWp.block ?_)
      refine AWp.cond rfl (fun h2 => ?_) (fun h2 => ?_)
      · simp at h2
      repeat (first | refine AWp.seq ?_ | refine AWp.block ?_)
      apply AWp.reg [] []
      · conv => lhs; simp
      · trivial
      repeat (first | refine AWp.seq ?_ | refine AWp.block ?_)
      refine AWp.cond rfl (fun h3 => ?_) (fun h3 => ?_)
      · simp at h3
      repeat (first | refine AWp.seq ?_ | refine AWp.block ?_)
      apply AWp.reg [] []
      · conv => lhs; simp
      · trivial
      repeat (first | refine AWp.seq ?_ | refine AWp.block ?_)
      refine AWp.cond rfl (fun h4 => ?_) (fun h4 => ?_)
      · simp at h4
      repeat (first | refine AWp.seq ?_ | refine AWp.block ?_)
      apply AWp.reg [] []
      · conv => lhs; simp
      · trivial
      repeat (first | refine AWp.seq ?_ | refine AWp.block ?_)
      refine AWp.cond rfl (fun h5 => ?_) (fun h5 => ?_)
      · simp at h5
      repeat (first | refine AWp.seq ?_ | refine AWp.block ?_)
      apply AWp.reg [] []
      · conv => lhs; simp
      · trivial
      repeat (first | refine AWp.seq ?_ | refine AWp.block ?_)
      refine AWp.cond rfl (fun h6 => ?_) (fun h6 => ?_)
      rotate_left
      · simp at h6
      refine AWp.rg [] [] ?_
      exact hW _ (Le.trans (Le.swap _ 47 400 rfl rfl) (Le.sub (by simp [AS.swap, swN]) (by simp [AS.swap, swN, tmObj])))
    rw [if_neg (by omega)] at ho0
    subst ho0
    repeat (first | refine AWp.seq ?_ | refine AWp.block ?_)
    apply AWp.reg [] []
    · conv => lhs; simp
    · trivial
    repeat (first | refine AWp.seq ?_ | refine AWp.block ?_)
    apply AWp.reg [] []
    · conv => lhs; simp [e1]
    · trivial
    refine AWp.cn ?_
    repeat (first | refine AWp.seq ?_ | refine AWp.block ?_)
    apply AWp.reg [] []
    · conv => lhs; simp [k6]
    · trivial
    refine AWp.cn ?_
    repeat (first | refine AWp.seq ?_ | refine AWp.block ?_)
    apply AWp.reg [] []
    · conv => lhs; simp [k8]
    · trivial
    refine AWp.cn ?_
    repeat (first | refine AWp.seq ?_ | refine AWp.block ?_)
    apply AWp.reg [] []
    · conv => lhs; simp [k9]
    · trivial
    repeat (first | refine AWp.seq ?_ | refine AWp.block ?_)
    refine AWp.cond rfl (fun h4 => ?_) (fun h4 => ?_)
    · cases h4
    repeat (first | refine AWp.seq ?_ | refine AWp.block ?_)
    apply AWp.reg [] []
    · conv => lhs; simp [k10]
    · trivial
    refine AWp.cn ?_
    repeat (first | refine AWp.seq ?_ | refine AWp.block ?_)
    apply AWp.reg [] []
    · conv => lhs; simp [k11]
    · trivial
    repeat (first | refine AWp.seq ?_ | refine AWp.block ?_)
    refine AWp.cond rfl (fun h6 => ?_) (fun h6 => ?_)
    · cases h6
    refine AWp.skip ?_
    exact hW _ (Le.low [400] [] (fr := [(1, .ptr 1 0), (3, .arr 400 0 0)]) (mem := [(1, tmObj k n a b vs xs cs), (400, some (.arr 9 1 []))]) rfl (by simp) (by simp [tmObj]))
  · repeat (first | refine AWp.seq ?_ | refine AWp.block ?_)
    apply AWp.reg [] []
    · conv => lhs; simp [tmObj]
    · trivial
    repeat (first | refine AWp.seq ?_ | refine AWp.block ?_)
    refine AWp.loop (σ := fun u : {i : Nat // i ≤ xs.length} => ⟨77, [(1, .ptr 1 0), (3, .arr 400 0 (Tm.frees o0 (xs.take u.1)).length), (49, .d (.sl (xs.map Tm.row))), (50, .d (.int xs.length)), (51, .d (.int u.1))], [(1, tmObj k n a b vs xs cs), (400, some (.arr 9 1 ((Tm.frees o0 (xs.take u.1)).map strR)))]⟩)
      (μ := fun u => xs.length - u.1) ⟨0, Nat.zero_le _⟩ (Le.sub (by simp [Tm.frees]) (by simp [Tm.frees, tmObj])) (fun ⟨i, hi⟩ => ?_)
    dsimp only
    have hL0 := Tm.frees_len (xs.take i) o0
    have hS : ∀ x, xs[i]? = some x → Tm.frees o0 (xs.take (i + 1)) = addN (Tm.frees o0 (xs.take i)) x.free := fun x => Tm.frees_snoc
    obtain ⟨L, hL⟩ : ∃ L, L = Tm.frees o0 (xs.take i) := ⟨_, rfl⟩
    rw [← hL] at hL0 hS ⊢
    repeat (first | refine AWp.seq ?_ | refine AWp.block ?_)
    apply AWp.reg [] []
    · conv => lhs; simp
    · trivial
    repeat (first | refine AWp.seq ?_ | refine AWp.block ?_)
    refine AWp.cond rfl (fun h => ?_) (fun h => ?_)
    · have hi1 : i < xs.length := by have := of_decide_eq_true h; omega
      have h1 : xs[i]? = some xs[i] := List.getElem?_eq_getElem hi1
      have hmem : xs[i] ∈ xs := List.getElem_mem hi1
      generalize xs[i] = x at h1 hmem
      have hx := ih x (by have := Tm.sz_arg (k := k) (n := n) (a := a) (b := b) (vs := vs) (cs := cs) hmem; omega) (hF.arg hmem)
      have lx := x.free_len
      have lt := Tm.szs_take h1
      have had := cs_add L x.free (by omega)
      have hS1 := hS x h1
      generalize x.free = fx at *
      obtain ⟨xk, xn, xa, xb, xv, xx, xc⟩ := x
      refine AWp.skip ?_
      refine AWp.rg [] [] ?_ (hr := by conv => lhs; simp [h1, Tm.row, Tm.rows_eq, Cs.rows_eq])
      repeat (first | refine AWp.seq ?_ | refine AWp.block ?_)
      apply AWp.reg [2] [.p (fun d => .arr d 0 fx.length) (some (.arr 9 1 (fx.map strR))), .c [(500, 400)] [.arr 500 0 L.length, strsAV fx] [(500, .arr 9 1 (L.map strR))] (.arr 500 0 (addN L fx).length) [(500, .arr 9 1 ((addN L fx).map strR))]]
      · conv => lhs; simp [tmAV, tmObj]
      · exact ⟨hx, had⟩
      refine AWp.rg [] [] ?_
      refine ⟨⟨i + 1, hi1⟩, by simp; omega, ?_⟩
      dsimp only
      rw [hS1]
      exact Le.sub (by simp) (by simp [tmObj])
    have hi1 : i = xs.length := by have := of_decide_eq_false h; omega
    subst hi1
    rw [List.take_length] at hL
    clear h hS
    refine AWp.exit ?_
    repeat (first | refine AWp.seq ?_ | refine AWp.block ?_)
    apply AWp.reg [] []
    · conv => lhs; simp [tmObj]
    · trivial
    repeat (first | refine AWp.seq ?_ | refine AWp.block ?_)
    refine AWp.loop (σ := fun u : {i : Nat // i ≤ cs.length} => ⟨77, [(1, .ptr 1 0), (3, .arr 400 0 (Cs.frees L (cs.take u.1)).length), (61, .d (.sl (cs.map Cs.row))), (62, .d (.int cs.length)), (63, .d (.int u.1))], [(1, tmObj k n a b vs xs cs), (400, some (.arr 9 1 ((Cs.frees L (cs.take u.1)).map strR)))]⟩)
      (μ := fun u => cs.length - u.1) ⟨0, Nat.zero_le _⟩ (Le.sub (by simp [Cs.frees]) (by simp [Cs.frees, tmObj])) (fun ⟨i, hi⟩ => ?_)
    dsimp only
    have hM0 := Cs.frees_len (cs.take i) L
    have hS : ∀ x, cs[i]? = some x → Cs.frees L (cs.take (i + 1)) = addN (Cs.frees L (cs.take i)) x.freeC := fun x => Cs.frees_snoc
    obtain ⟨M, hM⟩ : ∃ M, M = Cs.frees L (cs.take i) := ⟨_, rfl⟩
    rw [← hM] at hM0 hS ⊢
    have hlx : Tm.szs (xs.take xs.length) = Tm.szs xs := by rw [List.take_length]
    repeat (first | refine AWp.seq ?_ | refine AWp.block ?_)
    apply AWp.reg [] []
    · conv => lhs; simp
    · trivial
    repeat (first | refine AWp.seq ?_ | refine AWp.block ?_)
    refine AWp.cond rfl (fun h => ?_) (fun h => ?_)
    · have hi1 : i < cs.length := by have := of_decide_eq_true h; omega
      have h1 : cs[i]? = some cs[i] := List.getElem?_eq_getElem hi1
      have hmem : cs[i] ∈ cs := List.getElem_mem hi1
      generalize cs[i] = x at h1 hmem
      have lx := x.freeC_len
      have lt := Cs.szs_take h1
      have hS1 := hS x h1
      obtain ⟨g, ws, x⟩ := x
      obtain ⟨oc1, oc2⟩ := hF.case hmem
      have hx := ih x (by have := Tm.sz_case (k := k) (n := n) (a := a) (b := b) (vs := vs) (xs := xs) hmem; omega) oc1
      have lx2 := x.free_len
      have oc3 := oc1.sz
      have hwo := sp_without x.free ws (by omega) (by omega)
      simp only [Cs.freeC] at hS1 lx
      have had := cs_add M (woN x.free ws) (by omega)
      generalize woN x.free ws = fw at *
      generalize x.free = fx at *
      obtain ⟨xk, xn, xa, xb, xv, xx, xc⟩ := x
      refine AWp.skip ?_
      refine AWp.rg [] [] ?_ (hr := by conv => lhs; simp [h1, Cs.row, Tm.row, Tm.rows_eq, Cs.rows_eq])
      repeat (first | refine AWp.seq ?_ | refine AWp.block ?_)
      apply AWp.draw [3] [.p (fun d => .arr d 0 fx.length) (some (.arr 9 1 (fx.map strR))), .p (fun _ => strsAV fw) none, .c [(500, 400)] [.arr 500 0 M.length, strsAV fw] [(500, .arr 9 1 (M.map strR))] (.arr 500 0 (addN M fw).length) [(500, .arr 9 1 ((addN M fw).map strR))]] mixed
      · conv => lhs; simp [tmAV, tmObj]
      · kernel_rfl
      · exact ⟨hx, hwo, had⟩
      refine AWp.rg [] [] ?_
      refine ⟨⟨i + 1, hi1⟩, by simp; omega, ?_⟩
      dsimp only
      rw [hS1]
      exact Le.sub (by simp) (by simp [tmObj])
    have hi1 : i = cs.length := by have := of_decide_eq_false h; omega
    subst hi1
    rw [List.take_length, hL] at hM
    rw [← hM]
    refine AWp.exit ?_
    repeat (first | refine AWp.seq ?_ | refine AWp.block ?_)
    apply AWp.reg [] []
    · conv => lhs; simp
    · trivial
    refine AWp.ret ?_
    try dsimp only [thenQ, blockQ]
    apply endX.ret 400
    · conv => lhs; simp [resAV, Tryd.results77]
    · rfl
    · rfl
    · rfl
theorem sp_Free (t : Tm) (h : t.Fit) : PSpec Tryd.prog 77 [tmAV t] (fun d => .arr d 0 t.free.length) (some (.arr 9 1 (t.free.map strR))) := sp_Free_at _ t (Nat.lt_succ_self _) h
end Go.Proofs.YtapiiklnnkkdlaaDoor

namespace Go.Proofs.YtapiiklnnkkdlaaDoor
open Go.RowKit
attribute [local simp] runD mkRc ldOf stOf stOk ldArg noAny dstOk guardOk opEff opEff0 effOp pureOp callOp zEff evA constAV scalAV Value.oneCell' frGet memGet startAS frOf isGoCall idIn AS.after nextR opnIds objIds AV.ids idsL AObj.ids frNo memNo opnAny isAny mkVal rdCells wrCells fldAddr idxAddr srcRows litRows toD1 toDs setAt sliceAV optI partAV bldAV fillAV binAV binI AV.cells callEff calleeOf frKill memKill AV.kill AObj.kill AV.has AV.hasL Op.operands Call.operands keepF keepM viewIds cChk renOf moGet moWs moQ cEff moLike moHave AV.ren renL AObj.ren AObj.like kept startC moMem AV.frz frz1 frzL frSub memSub frzs AS.frz frFrz memFrz AObj.frz takeMap takeLen bleF Nat.ble_eq memAny objAny mapOp D.keyOk rowAV valRow extOp wrapOp phO
set_option linter.unusedVariables false
set_option linter.unusedSimpArgs false
end Go.Proofs.YtapiiklnnkkdlaaDoor
