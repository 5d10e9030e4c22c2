import Derived.Test.YtapiiklnnkkdlaaDoorNamesA
/- Lists of names, changed in place: slices.IndexFunc, DeleteFunc; scope.without, scope.add, by the abstract machine. -/
namespace Go.Proofs.YtapiiklnnkkdlaaDoor
open Go.RowKit
attribute [local simp] runD mkRc ldOf stOf stOk ldArg noAny dstOk guardOk opEff opEff0 effOp pureOp callOp zEff evA constAV scalAV Value.oneCell' frGet memGet startAS frOf isGoCall idIn AS.after nextR opnIds objIds AV.ids idsL AObj.ids frNo memNo opnAny isAny mkVal rdCells wrCells fldAddr idxAddr srcRows litRows toD1 toDs setAt sliceAV optI partAV bldAV fillAV binAV binI AV.cells callEff calleeOf frKill memKill AV.kill AObj.kill AV.has AV.hasL Op.operands Call.operands keepF keepM viewIds cChk renOf moGet moWs moQ cEff moLike moHave AV.ren renL AObj.ren AObj.like kept startC moMem AV.frz frz1 frzL frSub memSub frzs AS.frz frFrz memFrz AObj.frz takeMap takeLen bleF Nat.ble_eq memAny objAny mapOp D.keyOk rowAV valRow extOp wrapOp phO
set_option linter.unusedVariables false
set_option linter.unusedSimpArgs false
set_option maxHeartbeats 1000000 in
theorem cs_IndexFunc (l : List ByteArray) (hl : l.length ≤ 8796093022208) (p : ByteArray → Bool) (K : Nat) (t : TypeId) (x : D)
    (hk : ∀ s ∈ l, CSpec Tryd.prog K [.d (.str s), .ptr 1000 0] [(1000, .blk t [.d x])] (.d (.bool (p s))) [(1000, .blk t [.d x])]) :
    CSpec Tryd.prog 164 [.arr 1001 0 l.length, .clo K [.ptr 1000 0]] [(1000, .blk t [.d x]), (1001, .arr 9 1 (l.map strR))] (.d (.int (indexI l p))) [(1000, .blk t [.d x]), (1001, .arr 9 1 (l.map strR))] := by
  refine CSpec.of Tryd.func164 rfl rfl (Nat.le_of_ble_eq_true rfl) ?_
  show AWp _ _ (endC _ Tryd.f164 _ _) (startC 19 _ _)
  repeat (first | refine AWp.seq ?_ | refine AWp.block ?_)
  apply AWp.reg [] []
  · conv => lhs; simp
  · trivial
  repeat (first | refine AWp.seq ?_ | refine AWp.block ?_)
  apply AWp.reg [] []
  · conv => lhs; simp
  · trivial
  repeat (first | refine AWp.seq ?_ | refine AWp.block ?_)
  refine AWp.loop (σ := fun u : {i : Nat // i ≤ l.length ∧ ∀ y ∈ l.take i, p y = false} => ⟨19, [(0, .arr 1001 0 l.length), (1, .clo K [.ptr 1000 0]), (7, .d (.int l.length)), (8, .d (.int u.1))], [(1000, some (.blk t [.d x])), (1001, some (.arr 9 1 (l.map strR)))]⟩)
    (μ := fun u => l.length - u.1) ⟨0, Nat.zero_le _, by simp⟩ (Le.sub (by simp) (by simp)) (fun ⟨i, hi, ht⟩ => ?_)
  dsimp only
  repeat (first | refine AWp.seq ?_ | refine AWp.block ?_)
  apply AWp.reg [] []
  · conv => lhs; simp
  · trivial
  repeat (first | refine AWp.seq ?_ | refine AWp.block ?_)
  refine AWp.cond rfl (fun h => ?_) (fun h => ?_)
  · have hi1 : i < l.length := by have := of_decide_eq_true h; omega
    have h1 : l[i]? = some l[i] := List.getElem?_eq_getElem hi1
    have hmem : l[i] ∈ l := List.getElem_mem hi1
    generalize l[i] = y at h1 hmem
    have hc := hk y hmem
    obtain ⟨B, hB⟩ : ∃ B, B = p y := ⟨_, rfl⟩
    rw [← hB] at hc
    refine AWp.skip ?_
    repeat (first | refine AWp.seq ?_ | refine AWp.block ?_)
    apply AWp.reg [] []
    · conv => lhs; simp
    · trivial
    cases B with
    | true =>
      repeat (first | refine AWp.seq ?_ | refine AWp.block ?_)
      apply AWp.reg [] [.c [] [.d (.str y), .ptr 1000 0] [(1000, .blk t [.d x])] (.d (.bool true)) [(1000, .blk t [.d x])]]
      · conv => lhs; simp [h1]
      · exact ⟨by omega, hc⟩
      repeat (first | refine AWp.seq ?_ | refine AWp.block ?_)
      refine AWp.cond rfl (fun h2 => ?_) (fun h2 => ?_)
      · repeat (first | refine AWp.seq ?_ | refine AWp.block ?_)
        apply AWp.reg [] []
        · conv => lhs; simp
        · trivial
        refine AWp.ret ?_
        try dsimp only [thenQ, blockQ]
        apply endC.ret
        · rfl
        · conv => lhs; simp [resAV, Tryd.results164]
        · rw [indexI_some h1 ht hB.symm]; rfl
        · simp [moEnd, memGet]
      · simp at h2
    | false =>
      repeat (first | refine AWp.seq ?_ | refine AWp.block ?_)
      apply AWp.reg [] [.c [] [.d (.str y), .ptr 1000 0] [(1000, .blk t [.d x])] (.d (.bool false)) [(1000, .blk t [.d x])]]
      · conv => lhs; simp [h1]
      · exact ⟨by omega, hc⟩
      repeat (first | refine AWp.seq ?_ | refine AWp.block ?_)
      refine AWp.cond rfl (fun h2 => ?_) (fun h2 => ?_)
      · simp at h2
      refine AWp.skip ?_
      refine AWp.rg [] [] ?_
      refine ⟨⟨i + 1, hi1, take_all_snoc h1 ht hB.symm⟩, by simp; omega, Le.sub (by simp) (by simp)⟩
  have hi1 : i = l.length := by have := of_decide_eq_false h; omega
  subst hi1
  rw [List.take_length] at ht
  refine AWp.exit ?_
  repeat (first | refine AWp.seq ?_ | refine AWp.block ?_)
  apply AWp.reg [] []
  · conv => lhs; simp
  · trivial
  refine AWp.ret ?_
  try dsimp only [thenQ, blockQ]
  apply endC.ret
  · rfl
  · conv => lhs; simp [resAV, Tryd.results164]
  · rw [indexI_none ht]; rfl
  · simp [moEnd, memGet]
def delRows (l : List ByteArray) (p : ByteArray → Bool) : List (List D) := ((l.filter fun s => !p s).map strR) ++ List.replicate (l.length - (l.filter fun s => !p s).length) [.str ByteArray.empty]
theorem set_mid {α : Type} (a m b : List α) (v : α) : ∃ m', m'.length = m.length ∧ (a ++ (m ++ v :: b)).set a.length v = (a ++ [v]) ++ (m' ++ b) := by
  cases m with
  | nil => exact ⟨[], rfl, by simp⟩
  | cons x m => exact ⟨m ++ [v], by simp, by simp⟩
set_option maxRecDepth 20000 in
set_option maxHeartbeats 4000000 in
theorem cs_DeleteFunc (l : List ByteArray) (hl : l.length ≤ 8796093022208) (p : ByteArray → Bool) (K : Nat) (t : TypeId) (x : D)
    (hk : ∀ s ∈ l, CSpec Tryd.prog K [.d (.str s), .ptr 1000 0] [(1000, .blk t [.d x])] (.d (.bool (p s))) [(1000, .blk t [.d x])]) :
    CSpec Tryd.prog 123 [.arr 1001 0 l.length, .clo K [.ptr 1000 0]] [(1000, .blk t [.d x]), (1001, .arr 9 1 (l.map strR))] (.arr 1001 0 (l.filter fun s => !p s).length) [(1000, .blk t [.d x]), (1001, .arr 9 1 (delRows l p))] := by
  have hix := cs_IndexFunc l hl p K t x hk
  refine CSpec.of Tryd.func123 rfl rfl (Nat.le_of_ble_eq_true rfl) ?_
  show AWp _ _ (endC _ Tryd.f123 _ _) (startC 42 _ _)
  repeat (first | refine AWp.seq ?_ | refine AWp.block ?_)
  apply AWp.reg [] []
  · conv => lhs; simp
  · trivial
  by_cases hno : ∀ y ∈ l, p y = false
  · rw [indexI_none hno] at hix
    have hf : (l.filter fun s => !p s) = l := List.filter_eq_self.2 fun y hy => by simp [hno y hy]
    repeat (first | refine AWp.seq ?_ | refine AWp.block ?_)
    apply AWp.reg [] [.c [] [.arr 1001 0 l.length, .clo K [.ptr 1000 0]] [(1000, .blk t [.d x]), (1001, .arr 9 1 (l.map strR))] (.d (.int (-1))) [(1000, .blk t [.d x]), (1001, .arr 9 1 (l.map strR))]]
    · conv => lhs; simp
    · exact hix
    repeat (first | refine AWp.seq ?_ | refine AWp.block ?_)
    apply AWp.reg [] []
    · conv => lhs; simp
    · trivial
    repeat (first | refine AWp.seq ?_ | refine AWp.block ?_)
    refine AWp.cond rfl (fun h => ?_) (fun h => ?_)
    · repeat (first | refine AWp.seq ?_ | refine AWp.block ?_)
      apply AWp.reg [] []
      · conv => lhs; simp
      · trivial
      refine AWp.ret ?_
      try dsimp only [thenQ, blockQ]
      apply endC.ret
      · rfl
      · conv => lhs; simp [resAV, Tryd.results123]
      · rw [hf]; rfl
      · simp [moEnd, memGet, delRows, hf]
    · simp at h
  obtain ⟨i0, y0, hy0, hp0, hbefore⟩ : ∃ i0 y0, l[i0]? = some y0 ∧ p y0 = true ∧ ∀ y ∈ l.take i0, p y = false := by
    have : ∃ i, l.findIdx? p = some i := by
      cases hf : l.findIdx? p with
      | none => exact absurd (List.findIdx?_eq_none_iff.1 hf) hno
      | some i => exact ⟨i, rfl⟩
    obtain ⟨i, hi⟩ := this
    rw [List.findIdx?_eq_some_iff_getElem] at hi
    obtain ⟨h1, h2, h3⟩ := hi
    refine ⟨i, l[i], List.getElem?_eq_getElem h1, h2, fun y hy => ?_⟩
    obtain ⟨j, hj⟩ := List.mem_iff_getElem?.1 hy
    rw [List.getElem?_take] at hj
    split at hj
    · rename_i hji
      have := h3 j hji
      rw [List.getElem?_eq_getElem (by omega)] at hj
      cases hj
      simpa using this
    · cases hj
  rw [indexI_some hy0 hbefore hp0] at hix
  have hi0 : i0 < l.length := (List.getElem?_eq_some_iff.1 hy0).1
  have hne : ¬ ((i0 : Int) = -1) := by omega
  repeat (first | refine AWp.seq ?_ | refine AWp.block ?_)
  apply AWp.reg [] [.c [] [.arr 1001 0 l.length, .clo K [.ptr 1000 0]] [(1000, .blk t [.d x]), (1001, .arr 9 1 (l.map strR))] (.d (.int i0)) [(1000, .blk t [.d x]), (1001, .arr 9 1 (l.map strR))]]
  · conv => lhs; simp
  · exact hix
  repeat (first | refine AWp.seq ?_ | refine AWp.block ?_)
  apply AWp.reg [] []
  · conv => lhs; simp [hne]
  · trivial
  repeat (first | refine AWp.seq ?_ | refine AWp.block ?_)
  refine AWp.cond rfl (fun h => ?_) (fun h => ?_)
  · simp at h
  refine AWp.skip ?_
  repeat (first | refine AWp.seq ?_ | refine AWp.block ?_)
  apply AWp.reg [] []
  · conv => lhs; simp
  · simp [inI]; omega
  repeat (first | refine AWp.seq ?_ | refine AWp.block ?_)
  have hk0 : ((l.take (i0 + 1)).filter fun s => !p s) = l.take i0 := by
    rw [List.take_add_one, hy0, List.filter_append]
    simp [hp0]
    exact fun y hy => by simpa using hbefore y hy
  refine AWp.loop (σ := fun u : {q : Nat × List ByteArray // q.1 ≤ l.length ∧ ((l.take q.1).filter fun s => !p s).length + q.2.length = q.1} => ⟨42, [(0, .arr 1001 0 l.length), (1, .clo K [.ptr 1000 0]), (5, .d (.int ((l.take u.1.1).filter fun s => !p s).length)), (6, .d (.int u.1.1))],
      [(1000, some (.blk t [.d x])), (1001, some (.arr 9 1 ((((l.take u.1.1).filter fun s => !p s) ++ (u.1.2 ++ l.drop u.1.1)).map strR)))]⟩)
    (μ := fun u => l.length - u.1.1) ⟨(i0 + 1, [y0]), hi0, by rw [hk0]; simp; omega⟩ ?_ (fun ⟨⟨j, mid⟩, hj, hlen⟩ => ?_)
  · dsimp only
    rw [hk0]
    have e : l.take i0 ++ ([y0] ++ l.drop (i0 + 1)) = l := by
      have h2 := List.drop_eq_getElem_cons hi0
      rw [List.getElem?_eq_getElem hi0] at hy0
      cases hy0
      rw [List.singleton_append, ← h2, List.take_append_drop]
    rw [e]
    have e2 : (l.take i0).length = i0 := by simp; omega
    rw [e2]
    exact Le.sub (by simp) (by simp)
  dsimp only at hj hlen ⊢
  have hKl : ((l.take j).filter fun s => !p s).length ≤ j := by omega
  obtain ⟨kp, hkp⟩ : ∃ kp, kp = (l.take j).filter fun s => !p s := ⟨_, rfl⟩
  rw [← hkp] at hlen hKl ⊢
  obtain ⟨R, hR⟩ : ∃ R, R = kp ++ (mid ++ l.drop j) := ⟨_, rfl⟩
  have hRl : R.length = l.length := by rw [hR]; simp; omega
  rw [← hR]
  repeat (first | refine AWp.seq ?_ | refine AWp.block ?_)
  apply AWp.reg [] []
  · conv => lhs; simp
  · trivial
  repeat (first | refine AWp.seq ?_ | refine AWp.block ?_)
  refine AWp.cond rfl (fun h => ?_) (fun h => ?_)
  · have hj1 : j < l.length := by have := of_decide_eq_true h; omega
    have hv : l[j]? = some l[j] := List.getElem?_eq_getElem hj1
    have hmem : l[j] ∈ l := List.getElem_mem hj1
    have hd : l.drop j = l[j] :: l.drop (j + 1) := List.drop_eq_getElem_cons hj1
    generalize l[j] = v at hv hmem hd
    have hc := hk v hmem
    obtain ⟨B, hB⟩ : ∃ B, B = p v := ⟨_, rfl⟩
    have ht : (l.take (j + 1)).filter (fun s => !p s) = kp ++ (if B then [] else [v]) := by
      rw [List.take_add_one, hv, List.filter_append, ← hkp, hB]
      cases hp : p v <;> simp [hp]
    rw [← hB] at hc
    have hRj : R[j]? = some v := by
      rw [hR, hd, List.getElem?_append_right (by omega), List.getElem?_append_right (by omega)]
      rw [show j - kp.length - mid.length = 0 from by omega]
      rfl
    refine AWp.skip ?_
    refine AWp.rg [] [] ?_ (hr := by conv => lhs; simp [hRj, hRl])
    cases B with
    | true =>
      repeat (first | refine AWp.seq ?_ | refine AWp.block ?_)
      apply AWp.reg [] [.c [] [.d (.str v), .ptr 1000 0] [(1000, .blk t [.d x])] (.d (.bool true)) [(1000, .blk t [.d x])]]
      · conv => lhs; simp
      · exact hc
      repeat (first | refine AWp.seq ?_ | refine AWp.block ?_)
      refine AWp.cond rfl (fun h2 => ?_) (fun h2 => ?_)
      · simp at h2
      refine AWp.skip ?_
      refine AWp.rg [] [] ?_
      refine ⟨⟨(j + 1, mid ++ [v]), hj1, by dsimp only; rw [ht]; simp; omega⟩, by simp; omega, ?_⟩
      dsimp only
      rw [ht]
      simp only [if_true, List.append_nil]
      have e : kp ++ (mid ++ [v] ++ l.drop (j + 1)) = R := by rw [hR, hd]; simp
      rw [e]
      exact Le.sub (by simp) (by simp)
    | false =>
      repeat (first | refine AWp.seq ?_ | refine AWp.block ?_)
      apply AWp.reg [] [.c [] [.d (.str v), .ptr 1000 0] [(1000, .blk t [.d x])] (.d (.bool false)) [(1000, .blk t [.d x])]]
      · conv => lhs; simp
      · exact hc
      obtain ⟨m', hm', hset⟩ := set_mid kp mid (l.drop (j + 1)) v
      rw [← hd, ← hR] at hset
      have hRk : R[kp.length]? = some R[kp.length] := List.getElem?_eq_getElem (by omega)
      generalize R[kp.length] = r at hRk
      repeat (first | refine AWp.seq ?_ | refine AWp.block ?_)
      refine AWp.cond rfl (fun h2 => ?_) (fun h2 => ?_)
      · refine AWp.rg [] [] ?_ (hr := by conv => lhs; simp [hRk, hRl])
        refine AWp.rg [] [] ?_
        refine AWp.rg [] [] ?_
        refine ⟨⟨(j + 1, m'), hj1, by dsimp only; rw [ht]; simp; omega⟩, by simp; omega, ?_⟩
        dsimp only
        rw [ht]
        have e : kp ++ (if false = true then [] else [v]) ++ (m' ++ l.drop (j + 1)) = R.set kp.length v := by rw [hset]; simp
        rw [e]
        exact Le.sub (by simp) (by simp [List.map_set])
      · simp at h2
  have hj1 : j = l.length := by have := of_decide_eq_false h; omega
  subst hj1
  rw [List.take_length] at hkp
  rw [List.drop_length, List.append_nil] at hR
  refine AWp.exit ?_
  have hmem : List.take kp.length (List.map strR R) ++ (List.replicate (l.length - kp.length) [D.str ByteArray.empty] ++ List.drop (kp.length + (l.length - kp.length)) (List.map strR R)) = delRows l p := by
    rw [delRows, ← hkp, hR, List.map_append, List.take_append_of_le_length (by simp), List.take_of_length_le (by simp), List.drop_eq_nil_of_le (by simp; omega), List.append_nil]
  refine AWp.rg [] [] ?_ (hr := by conv => lhs; simp [hRl])
  refine AWp.rg [] [] ?_ (hr := by conv => lhs; simp [hRl])
  rw [hmem]
  refine AWp.ret ?_
  try dsimp only [thenQ, blockQ]
  apply endC.ret
  · rfl
  · conv => lhs; simp [resAV, Tryd.results123]
  · rw [hkp]; rfl
  · simp [moEnd, memGet]

theorem PSpec.toC {P : Program} {k : Nat} {args args' : List AV} {d : D} (hS : PSpec P k args' (fun _ => .d d) none) (o : Nat) {e : TypeId} {sz : Nat} {rows : List (List D)} (he : args.map (AV.frz o (.arr e sz rows)) = args') (hd : d.flat) :
    CSpec P k args [(o, .arr e sz rows)] (.d d) [(o, .arr e sz rows)] := by
  subst he
  refine ⟨hS.ent, fun w ok g vals hM hl hv => ?_⟩
  have hx : moGet [(o, AObj.arr e sz rows)] o = some (.arr e sz rows) := by simp [moGet]
  refine (hS.run 0 w (fun b => ok b ∨ g.bl o = some b) vals hM.giw (fun b hb => ?_) (by simpa using hl) (fun i c v hc hvi => ?_)).mono ?_
  · rcases hb with hb | hb
    · exact (hM.okb b hb).1
    · exact (hM.own o _ b hx hb).2.1
  · rw [List.getElem?_map] at hc
    obtain ⟨c', hc', rfl⟩ := Option.map_eq_some_iff.1 hc
    exact ((hv i c' v hc' hvi).frz hM hx).toNo
  · rintro ex w' ⟨v, ok', g', rfl, hb, hok, hokn, hr, -⟩
    refine ⟨v, ok, g, rfl, ⟨fun i y hy => ?_, hM.inj, fun i y b hy hbi => ?_, fun b h => ?_, hM.okk, hb.size, fun b h _ => hb.block b h, fun _ _ => ⟨rfl, rfl⟩, hb.os, hb.tape, hb.output, hM.gi, hM.gb⟩, ?_⟩
    · have hy' : o = i ∧ AObj.arr e sz rows = y := by
        simp only [moGet] at hy
        split at hy
        · rename_i h; exact ⟨by simpa using h, by simpa using hy⟩
        · cases hy
      obtain ⟨rfl, rfl⟩ := hy'
      refine (hM.obj _ _ hy).mono (fun _ => false) trivial (fun b h => hb.block b (hM.own _ _ b hy h).2.1) rfl rfl (fun p h => hb.cell (hM.okb _ h).1) (fun _ h => h) (fun o x' _ h => ⟨x', h, AObj.like_refl _, rfl, rfl⟩)
    · obtain ⟨h1, h2, h3⟩ := hM.own i y b hy hbi
      exact ⟨h1, by have := hb.size; omega, h3⟩
    · obtain ⟨h1, h2⟩ := hM.okb b h
      exact ⟨by have := hb.size; omega, .inl h⟩
    · cases hr with
      | d _ _ hr => exact .d _ _ (hr.flat hd)
theorem cs_Contains (o : Nat) (l : List ByteArray) (s : ByteArray) (hl : l.length ≤ 8796093022208) : CSpec Tryd.prog 125 [.arr o 0 l.length, .d (.str s)] [(o, .arr 9 1 (l.map strR))] (.d (.bool (hasB l s))) [(o, .arr 9 1 (l.map strR))] :=
  (sp_Contains l s hl).toC o (by simp [AV.frz, frz1, List.take_of_length_le]) trivial
theorem cs_Has (o : Nat) (l : List ByteArray) (s : ByteArray) (hl : l.length ≤ 8796093022208) : CSpec Tryd.prog 26 [.arr o 0 l.length, .d (.str s)] [(o, .arr 9 1 (l.map strR))] (.d (.bool (hasB l s))) [(o, .arr 9 1 (l.map strR))] :=
  (sp_Has l s hl).toC o (by simp [AV.frz, frz1, List.take_of_length_le]) trivial
def woN (l gone : List ByteArray) : List ByteArray := l.filter fun s => !hasB gone s
theorem woN_len (l gone : List ByteArray) : (woN l gone).length ≤ l.length := List.length_filter_le _ _
def addN (l more : List ByteArray) : List ByteArray := more.foldl (fun l s => if hasB l s then l else l ++ [s]) l
theorem addN_len (more : List ByteArray) : ∀ l, (addN l more).length ≤ l.length + more.length := by
  induction more with
  | nil => intro l; simp [addN]
  | cons s more ih =>
    intro l
    have := ih (if hasB l s then l else l ++ [s])
    simp only [addN, List.foldl_cons, List.length_cons] at this ⊢
    refine Nat.le_trans this ?_
    split
    · omega
    · simp; omega
end Go.Proofs.YtapiiklnnkkdlaaDoor

namespace Go.Proofs.YtapiiklnnkkdlaaDoor
open Go.RowKit
set_option linter.unusedVariables false
set_option linter.unusedSimpArgs false
def endX (P : Program) (fn : Func) (r : Nat → AV) (x : Option AObj) : Exit → AS → Prop := fun e s => ∃ o, (∀ d, r d = (r o).ren (fun _ => d)) ∧ (∀ i ∈ (r o).ids, i = o) ∧ endQ P fn r x o e s
theorem endX.ret {P : Program} {fn : Func} {n : Nat} (o : Nat) {s : AS} {cs : List AV} {y : AObj} (h : resAV P s fn.results.toList = some cs) (hr : (resVal cs).nilD = .arr o 0 n) (hx : memGet s.mem o = some y) (ho : Nat.ble 500 o = false) : endX P fn (fun d => .arr d 0 n) (some y) .ret s :=
  ⟨o, fun _ => rfl, by simp [AV.ids, idsL], .inl rfl, s, Le.refl s, cs, h, hr, rfl, fun z hz => by cases hz; exact ⟨hx, ho⟩⟩
theorem PSpec.ofArrX {P : Program} {k : Nat} {fn : Func} {c : Code} (hf : P.funcs[k]? = some fn) (hnm : (fn.name == "runtime.NumGoroutine") = false) (hb : fn.body = some c) {args : List AV} (r : Nat → AV) {e : TypeId} {sz : Nat} {rows : List (List D)} (hn : args.length ≤ fn.ntmps)
    (hrcl : ∀ d, (r d).has (fun i => !(d == i)) = false) (h : AWp P c (endX P fn r (some (.arr e sz rows))) (startAS fn.ntmps args)) : PSpec P k args r (some (.arr e sz rows)) := by
  refine ⟨⟨fn, hf, hnm, by rw [hb]; rfl⟩, hrcl, (fun h => by cases h), fun y hy => ⟨e, sz, rows, by cases hy; rfl⟩, fun d w ok vals hgi hok hl hv => ?_⟩
  refine calls_of_wp hf hb ?_
  have hst : St ⟨w, ok, fun _ => False, noG⟩ (startAS fn.ntmps args) { tmps := vals ++ Array.replicate (fn.ntmps - vals.size) undef, defers := [] } w := by
    refine ⟨ok, noG, ⟨(fun o x hx => by cases hx), (fun i j xi xj b hi => by cases hi), (fun i x b hi => by cases hi), fun b hb => ⟨hok b hb, .inl hb⟩, fun b hb => hb, Nat.le_refl _, fun b _ _ => rfl, fun i _ => ⟨rfl, rfl⟩, rfl, rfl, rfl, hgi, fun _ _ h => h⟩, by simp [startAS]; omega, rfl, fun t => ?_⟩
    exact frStart (C := ⟨w, ok, fun _ => False, noG⟩) hl hn hv t
  refine wp_mono (h _ _ w hst) ?_
  rintro ex a' w' ⟨s, ⟨o, hren, hids, he, s', hle, cs, hres, hr, hrn, hx⟩, hs⟩
  obtain ⟨ok', g, hM, h1, h2, h3⟩ := hle _ _ _ hs
  obtain ⟨v, hv1, hv2⟩ := results_ok hM h3 hres
  obtain ⟨hxo, hxs⟩ := hx _ rfl
  have hv2 := hv2.nilD
  rw [hr, hrn] at hv2
  have hfin : a'.defers = [] ∧ ∃ v, (results fn a'.tmps).run P w' = .ok v w' ∧ ∃ v' ok' g', Ending.returned v = .returned v' ∧ Below w.heap.size w w' ∧ (∀ b, ok b → ok' b) ∧ (∀ b, ok' b → ok b ∨ (w.heap.size ≤ b ∧ b < w'.heap.size)) ∧ VR w' ok' g' (oneM d (some (.arr e sz rows))) (r d) v' ∧
      (∀ y, (some (.arr e sz rows) : Option AObj) = some y → OR w' ok' g' (oneM d (some (.arr e sz rows))) d y ∧ ∀ b, g'.bl d = some b → ¬ ok' b ∧ w.heap.size ≤ b ∧ b < w'.heap.size) := by
    refine ⟨h2, v, hv1, v, ok', ⟨fun _ => g.bl o, fun _ => g.cp o⟩, rfl, ⟨hM.os, hM.tape, hM.output, hM.size, fun b hb => hM.heap b hb (fun h => h)⟩, hM.okk, fun b hb => ?_, ?_, fun y hy => ?_⟩
    · obtain ⟨k1, k2⟩ := hM.okb b hb
      rcases k2 with k2 | k2
      · exact .inl k2
      · exact .inr ⟨k2, k1⟩
    · rw [hren d]
      refine VR.reren _ hv2 fun i hi => ?_
      have := hids i hi
      subst this
      exact ⟨_, hxo, by simp [oneM, AObj.ren], rfl, rfl⟩
    · cases hy
      have hO := hM.obj o _ hxo
      refine ⟨hO, fun b hb => ?_⟩
      obtain ⟨k1, k2, k3⟩ := hM.own o _ b hxo hb
      refine ⟨k1, ?_, k2⟩
      rcases k3 with k3 | ⟨k3, _⟩
      · exact k3
      · exact k3.elim
  rcases he with rfl | rfl
  · exact hfin
  · exact hfin
mutual
def Tm.free : Tm → List ByteArray
  | .mk k _ a _ _ xs cs => if k = 1 then [a] else if k = 6 ∧ xs.length = 2 then Tm.freeL a [] xs else Cs.frees (Tm.frees (if 8 ≤ k ∧ k ≤ 11 then [a] else []) xs) cs
def Tm.frees : List ByteArray → List Tm → List ByteArray
  | o, [] => o
  | o, x :: r => Tm.frees (addN o x.free) r
def Tm.freeL (a : ByteArray) : List ByteArray → List Tm → List ByteArray
  | o, [] => o
  | o, x :: r => Tm.freeB a (addN o x.free) r
def Tm.freeB (a : ByteArray) : List ByteArray → List Tm → List ByteArray
  | o, [] => o
  | o, x :: _ => addN o (woN x.free [a])
def Cs.frees : List ByteArray → List Cs → List ByteArray
  | o, [] => o
  | o, c :: r => Cs.frees (addN o c.freeC) r
def Cs.freeC : Cs → List ByteArray
  | .mk _ vs b => woN b.free vs
end
theorem Tm.frees_eq (l : List Tm) : ∀ o, Tm.frees o l = l.foldl (fun o x => addN o x.free) o := by
  induction l with
  | nil => intro o; simp [Tm.frees]
  | cons x r ih => intro o; simp [Tm.frees, ih]
theorem Cs.frees_eq (l : List Cs) : ∀ o, Cs.frees o l = l.foldl (fun o x => addN o x.freeC) o := by
  induction l with
  | nil => intro o; simp [Cs.frees]
  | cons x r ih => intro o; simp [Cs.frees, ih]
mutual
theorem Tm.free_len : ∀ t : Tm, t.free.length ≤ t.sz
  | .mk k n a b vs xs cs => by
    simp only [Tm.free, Tm.sz]
    split
    · simp; omega
    split
    · have := Tm.freeL_len a xs []
      simp at this; omega
    · have h1 := Tm.frees_len xs (if 8 ≤ k ∧ k ≤ 11 then [a] else [])
      have h2 := Cs.frees_len cs (Tm.frees (if 8 ≤ k ∧ k ≤ 11 then [a] else []) xs)
      have h3 : (if 8 ≤ k ∧ k ≤ 11 then [a] else []).length ≤ 1 := by split <;> simp
      omega
theorem Tm.frees_len : ∀ (l : List Tm) (o : List ByteArray), (Tm.frees o l).length ≤ o.length + Tm.szs l
  | [], o => by simp [Tm.frees]
  | x :: r, o => by
    have h1 := Tm.free_len x
    have h2 := Tm.frees_len r (addN o x.free)
    have h3 := addN_len x.free o
    simp only [Tm.frees, Tm.szs]
    omega
theorem Tm.freeL_len (a : ByteArray) : ∀ (l : List Tm) (o : List ByteArray), (Tm.freeL a o l).length ≤ o.length + Tm.szs l
  | [], o => by simp [Tm.freeL]
  | x :: r, o => by
    have h1 := Tm.free_len x
    have h2 := Tm.freeB_len a r (addN o x.free)
    have h3 := addN_len x.free o
    simp only [Tm.freeL, Tm.szs]
    omega
theorem Tm.freeB_len (a : ByteArray) : ∀ (l : List Tm) (o : List ByteArray), (Tm.freeB a o l).length ≤ o.length + Tm.szs l
  | [], o => by simp [Tm.freeB]
  | x :: r, o => by
    have h1 := Tm.free_len x
    have h3 := addN_len (woN x.free [a]) o
    have h4 := woN_len x.free [a]
    simp only [Tm.freeB, Tm.szs]
    omega
theorem Cs.frees_len : ∀ (l : List Cs) (o : List ByteArray), (Cs.frees o l).length ≤ o.length + Cs.szs l
  | [], o => by simp [Cs.frees]
  | x :: r, o => by
    have h1 := Cs.freeC_len x
    have h2 := Cs.frees_len r (addN o x.freeC)
    have h3 := addN_len x.freeC o
    simp only [Cs.frees, Cs.szs]
    omega
theorem Cs.freeC_len : ∀ (c : Cs), c.freeC.length ≤ c.sz
  | .mk t vs b => by
    have h1 := Tm.free_len b
    have h4 := woN_len b.free vs
    simp only [Cs.freeC, Cs.sz]
    omega
end
theorem Tm.szs_take {l : List Tm} {i : Nat} {x : Tm} (hx : l[i]? = some x) : Tm.szs (l.take i) + x.sz ≤ Tm.szs l := by
  induction l generalizing i with
  | nil => simp at hx
  | cons y r ih =>
    cases i with
    | zero => simp at hx; subst hx; simp [Tm.szs]
    | succ i => have := ih (i := i) (by simpa using hx); simp only [List.take_succ_cons, Tm.szs]; omega
theorem Cs.szs_take {l : List Cs} {i : Nat} {x : Cs} (hx : l[i]? = some x) : Cs.szs (l.take i) + x.sz ≤ Cs.szs l := by
  induction l generalizing i with
  | nil => simp at hx
  | cons y r ih =>
    cases i with
    | zero => simp at hx; subst hx; simp [Cs.szs]
    | succ i => have := ih (i := i) (by simpa using hx); simp only [List.take_succ_cons, Cs.szs]; omega
theorem Tm.frees_snoc {o : List ByteArray} {l : List Tm} {i : Nat} {x : Tm} (hx : l[i]? = some x) : Tm.frees o (l.take (i + 1)) = addN (Tm.frees o (l.take i)) x.free := by
  rw [List.take_add_one, hx]
  simp [Tm.frees_eq]
theorem Cs.frees_snoc {o : List ByteArray} {l : List Cs} {i : Nat} {x : Cs} (hx : l[i]? = some x) : Cs.frees o (l.take (i + 1)) = addN (Cs.frees o (l.take i)) x.freeC := by
  rw [List.take_add_one, hx]
  simp [Cs.frees_eq]
end Go.Proofs.YtapiiklnnkkdlaaDoor

namespace Go.Proofs.YtapiiklnnkkdlaaDoor
open Go.RowKit
attribute [local simp] runD mkRc ldOf stOf stOk ldArg noAny dstOk guardOk opEff opEff0 effOp pureOp callOp zEff evA constAV scalAV Value.oneCell' frGet memGet startAS frOf isGoCall idIn AS.after nextR opnIds objIds AV.ids idsL AObj.ids frNo memNo opnAny isAny mkVal rdCells wrCells fldAddr idxAddr srcRows litRows toD1 toDs setAt sliceAV optI partAV bldAV fillAV binAV binI AV.cells callEff calleeOf frKill memKill AV.kill AObj.kill AV.has AV.hasL Op.operands Call.operands keepF keepM viewIds cChk renOf moGet moWs moQ cEff moLike moHave AV.ren renL AObj.ren AObj.like kept startC moMem AV.frz frz1 frzL frSub memSub frzs AS.frz frFrz memFrz AObj.frz takeMap takeLen bleF Nat.ble_eq memAny objAny mapOp D.keyOk rowAV valRow extOp wrapOp phO frLow memLow memLow1 objLow memEmpty Low LowL
set_option linter.unusedVariables false
set_option linter.unusedSimpArgs false
theorem AWp.seqJ {P : Program} {Q : Exit → AS → Prop} {s : AS} {x y : Code} (s0 : AS) (h2 : AWp P y Q s0) (h1 : ∀ W : AS → Prop, (∀ s', Le s' s0 → W s') → AWp P x (thenQ W Q) s) : AWp P (.seq x y) Q s :=
  AWp.seq (h1 _ fun _ hl => AWp.le hl h2)
abbrev tmCells (k n : Int) (a b : ByteArray) (vs : List ByteArray) (xs : List Tm) (cs : List Cs) : List AV :=
  [.d (.int k), .d (.int n), .d (.str a), .d (.str b), .d (strsD vs), .d (.sl (xs.map Tm.row)), .d (.sl (cs.map Cs.row))]
def tmObj (k n : Int) (a b : ByteArray) (vs : List ByteArray) (xs : List Tm) (cs : List Cs) : Option AObj := some (.blk 34 (tmCells k n a b vs xs cs))
structure Tm.Fit (t : Tm) : Prop where
  ok : t.Ok
  sz : t.sz ≤ 1048576
theorem Tm.Fit.arg {k n : Int} {a b : ByteArray} {vs : List ByteArray} {xs : List Tm} {cs : List Cs} (h : (Tm.mk k n a b vs xs cs).Fit) {x : Tm} (hx : x ∈ xs) : x.Fit :=
  ⟨h.ok.arg hx, by have := Tm.sz_arg (k := k) (n := n) (a := a) (b := b) (vs := vs) (cs := cs) hx; have := h.sz; omega⟩
theorem Tm.Fit.case {k n : Int} {a b : ByteArray} {vs : List ByteArray} {xs : List Tm} {cs : List Cs} (h : (Tm.mk k n a b vs xs cs).Fit) {t : Int} {ws : List ByteArray} {x : Tm} (hx : Cs.mk t ws x ∈ cs) : x.Fit ∧ ws.length ≤ 8796093022207 :=
  ⟨⟨(h.ok.case hx).body.1, by have := Tm.sz_case (k := k) (n := n) (a := a) (b := b) (vs := vs) (xs := xs) hx; have := h.sz; omega⟩, (h.ok.case hx).body.2⟩
theorem sz_all {k n : Int} {a b : ByteArray} {vs : List ByteArray} {xs : List Tm} {cs : List Cs} (h : (Tm.mk k n a b vs xs cs).Fit) : 1 + Tm.szs xs + Cs.szs cs ≤ 1048576 := by
  have := h.sz
  simpa only [Tm.sz] using this
end Go.Proofs.YtapiiklnnkkdlaaDoor

namespace Go.Proofs.YtapiiklnnkkdlaaDoor
open Go.RowKit
attribute [local simp] runD mkRc ldOf stOf stOk ldArg noAny dstOk guardOk opEff opEff0 effOp pureOp callOp zEff evA constAV scalAV Value.oneCell' frGet memGet startAS frOf isGoCall idIn AS.after nextR opnIds objIds AV.ids idsL AObj.ids frNo memNo opnAny isAny mkVal rdCells wrCells fldAddr idxAddr srcRows litRows toD1 toDs setAt sliceAV optI partAV bldAV fillAV binAV binI AV.cells callEff calleeOf frKill memKill AV.kill AObj.kill AV.has AV.hasL Op.operands Call.operands keepF keepM viewIds cChk renOf moGet moWs moQ cEff moLike moHave AV.ren renL AObj.ren AObj.like kept startC moMem AV.frz frz1 frzL frSub memSub frzs AS.frz frFrz memFrz AObj.frz takeMap takeLen bleF Nat.ble_eq memAny objAny mapOp D.keyOk rowAV valRow extOp wrapOp phO
set_option linter.unusedVariables false
set_option linter.unusedSimpArgs false
theorem addN_woN (skip : List ByteArray) (l : List ByteArray) {L : List ByteArray} {i : Nat} {x : ByteArray} (hx : l[i]? = some x) :
    addN L (woN (l.take (i + 1)) skip) = if !hasB skip x && !hasB (addN L (woN (l.take i) skip)) x then addN L (woN (l.take i) skip) ++ [x] else addN L (woN (l.take i) skip) := by
  rw [List.take_add_one, hx]
  simp only [woN, List.filter_append, addN, List.foldl_append, Option.toList_some]
  cases h : hasB skip x
  · simp only [List.filter_cons, h, Bool.not_false, if_true, List.filter_nil, List.foldl_cons, List.foldl_nil, Bool.true_and]
    cases hasB (List.foldl (fun l s => if hasB l s = true then l else l ++ [s]) L (List.filter (fun s => !hasB skip s) (List.take i l))) x <;> rfl
  · simp [List.filter_cons, h]
set_option maxRecDepth 20000 in
set_option maxHeartbeats 4000000 in
theorem cs_Free1 (L l skip : List ByteArray) (hl : L.length + l.length ≤ 1048576) (hs : skip.length ≤ 8796093022207) :
    CSpec Tryd.prog 66 [strsAV l, strsAV skip, .ptr 1000 0] [(1000, .blk 30 [.arr 500 0 L.length]), (500, .arr 9 1 (L.map strR))] (resVal [])
      [(1000, .blk 30 [.arr 500 0 (addN L (woN l skip)).length]), (500, .arr 9 1 ((addN L (woN l skip)).map strR))] := by
  refine CSpec.of Tryd.func66 rfl rfl (Nat.le_of_ble_eq_true rfl) ?_
  show AWp _ _ (endC _ Tryd.f66 _ _) (startC 28 _ _)
  repeat (first | refine AWp.seq ?_ | refine AWp.block ?_)
  apply AWp.reg [] []
  · conv => lhs; simp
  · trivial
  repeat (first | refine AWp.seq ?_ | refine AWp.block ?_)
  refine AWp.loop (σ := fun u : {i : Nat // i ≤ l.length} => ⟨28, [(1, strsAV skip), (2, .ptr 1000 0), (7, strsAV l), (8, .d (.int l.length)), (9, .d (.int u.1))], [(1000, some (.blk 30 [.arr 500 0 (addN L (woN (l.take u.1) skip)).length])), (500, some (.arr 9 1 ((addN L (woN (l.take u.1) skip)).map strR)))]⟩)
    (μ := fun u => l.length - u.1) ⟨0, Nat.zero_le _⟩ (Le.sub (by simp [addN, woN]) (by simp [addN, woN])) (fun ⟨i, hi⟩ => ?_)
  dsimp only
  have hN := addN_len (woN (l.take i) skip) L
  have hw := woN_len (l.take i) skip
  have hti : (l.take i).length = i := by simp; omega
  have hS : ∀ x, l[i]? = some x → _ := fun x => addN_woN skip l (L := L) (i := i) (x := x)
  obtain ⟨M, hM⟩ : ∃ M, M = addN L (woN (l.take i) skip) := ⟨_, rfl⟩
  rw [← hM] at hN hS ⊢
  repeat (first | refine AWp.seq ?_ | refine AWp.block ?_)
  apply AWp.reg [] []
  · conv => lhs; simp
  · trivial
  repeat (first | refine AWp.seq ?_ | refine AWp.block ?_)
  refine AWp.cond rfl (fun h => ?_) (fun h => ?_)
  · have hi1 : i < l.length := by have := of_decide_eq_true h; omega
    have h1 : l[i]? = some l[i] := List.getElem?_eq_getElem hi1
    generalize l[i] = x at h1
    have hs1 := hS x h1
    have hp := sp_Has skip x (by omega)
    have hc := cs_Has 1001 M x (by omega)
    obtain ⟨A, hA⟩ : ∃ A, A = hasB skip x := ⟨_, rfl⟩
    obtain ⟨B, hB⟩ : ∃ B, B = hasB M x := ⟨_, rfl⟩
    rw [← hA, ← hB] at hs1
    rw [← hA] at hp
    rw [← hB] at hc
    refine AWp.skip ?_
    refine AWp.rg [] [] ?_ (hr := by conv => lhs; simp [h1])
    cases A with
    | true =>
      repeat (first | refine AWp.seq ?_ | refine AWp.block ?_)
      apply AWp.reg [] [.p (fun _ => .d (.bool true)) none, .c [(1001, 500)] [.arr 1001 0 M.length, .d (.str x)] [(1001, .arr 9 1 (M.map strR))] (.d (.bool B)) [(1001, .arr 9 1 (M.map strR))]]
      · conv => lhs; simp
      · exact hp
      refine AWp.cn ?_
      refine AWp.skip ?_
      refine AWp.rg [] [] ?_
      refine ⟨⟨i + 1, hi1⟩, by simp; omega, ?_⟩
      dsimp only
      rw [hs1]
      exact Le.sub (by simp) (by simp)
    | false =>
      cases B with
      | true =>
        repeat (first | refine AWp.seq ?_ | refine AWp.block ?_)
        apply AWp.reg [] [.p (fun _ => .d (.bool false)) none, .c [(1001, 500)] [.arr 1001 0 M.length, .d (.str x)] [(1001, .arr 9 1 (M.map strR))] (.d (.bool true)) [(1001, .arr 9 1 (M.map strR))]]
        · conv => lhs; simp
        · exact ⟨hp, hc⟩
        refine AWp.cn ?_
        refine AWp.skip ?_
        refine AWp.rg [] [] ?_
        refine ⟨⟨i + 1, hi1⟩, by simp; omega, ?_⟩
        dsimp only
        rw [hs1]
        exact Le.sub (by simp) (by simp)
      | false =>
        repeat (first | refine AWp.seq ?_ | refine AWp.block ?_)
        apply AWp.reg [] [.p (fun _ => .d (.bool false)) none, .c [(1001, 500)] [.arr 1001 0 M.length, .d (.str x)] [(1001, .arr 9 1 (M.map strR))] (.d (.bool false)) [(1001, .arr 9 1 (M.map strR))]]
        · conv => lhs; simp
        · exact ⟨hp, hc⟩
        refine AWp.cy ?_
        refine AWp.rg [] [] ?_
        refine AWp.rg [] [] ?_
        refine ⟨⟨i + 1, hi1⟩, by simp; omega, ?_⟩
        dsimp only
        rw [hs1]
        exact Le.sub (by simp) (by simp)
  have hi1 : i = l.length := by have := of_decide_eq_false h; omega
  subst hi1
  rw [List.take_length] at hM
  refine AWp.exit ?_
  rw [← hM]
  try dsimp only [thenQ, blockQ]
  apply endC.normal
  · rfl
  · conv => lhs; simp [resAV, Tryd.results66]
  · rfl
  · simp [moEnd, memGet]
end Go.Proofs.YtapiiklnnkkdlaaDoor

namespace Go.Proofs.YtapiiklnnkkdlaaDoor
open Go.RowKit
attribute [local simp] runD mkRc ldOf stOf stOk ldArg noAny dstOk guardOk opEff opEff0 effOp pureOp callOp zEff evA constAV scalAV Value.oneCell' frGet memGet startAS frOf isGoCall idIn AS.after nextR opnIds objIds AV.ids idsL AObj.ids frNo memNo opnAny isAny mkVal rdCells wrCells fldAddr idxAddr srcRows litRows toD1 toDs setAt sliceAV optI partAV bldAV fillAV binAV binI AV.cells callEff calleeOf frKill memKill AV.kill AObj.kill AV.has AV.hasL Op.operands Call.operands keepF keepM viewIds cChk renOf moGet moWs moQ cEff moLike moHave AV.ren renL AObj.ren AObj.like kept startC moMem AV.frz frz1 frzL frSub memSub frzs AS.frz frFrz memFrz AObj.frz takeMap takeLen bleF Nat.ble_eq memAny objAny mapOp D.keyOk rowAV valRow extOp wrapOp phO frLow memLow memLow1 objLow memEmpty Low LowL
set_option linter.unusedVariables false
set_option linter.unusedSimpArgs false
theorem woN_nil (l : List ByteArray) : woN l [] = l := by simp [woN, hasB]
def rfree (xs : List Tm) (sk : Nat → List ByteArray) (o0 : List ByteArray) : Nat → List ByteArray
  | 0 => o0
  | i + 1 => match xs[i]? with
    | some x => addN (rfree xs sk o0 i) (woN x.free (sk i))
    | none => rfree xs sk o0 i
theorem rfree_snoc {xs : List Tm} (sk : Nat → List ByteArray) (o0 : List ByteArray) {i : Nat} {x : Tm} (hx : xs[i]? = some x) : rfree xs sk o0 (i + 1) = addN (rfree xs sk o0 i) (woN x.free (sk i)) := by
  simp only [rfree, hx]
theorem rfree_len (xs : List Tm) (sk : Nat → List ByteArray) (o0 : List ByteArray) : ∀ i, (rfree xs sk o0 i).length ≤ o0.length + Tm.szs (xs.take i)
  | 0 => by simp [rfree]
  | i + 1 => by
    have ih := rfree_len xs sk o0 i
    simp only [rfree]
    split
    · rename_i x hx
      have h1 := addN_len (woN x.free (sk i)) (rfree xs sk o0 i)
      have h2 := woN_len x.free (sk i)
      have h3 := x.free_len
      have h4 : Tm.szs (xs.take (i + 1)) = Tm.szs (xs.take i) + x.sz := by
        rw [List.take_add_one, hx]
        have : ∀ l : List Tm, Tm.szs (l ++ [x]) = Tm.szs l + x.sz := fun l => by
          induction l with
          | nil => simp [Tm.szs]
          | cons y r ih => simp only [List.cons_append, Tm.szs, ih]; omega
        exact this _
      omega
    · rename_i hx
      have h4 : xs.take (i + 1) = xs.take i := by rw [List.take_add_one, hx]; simp
      rw [h4]; exact ih
theorem rfree_plain (xs : List Tm) (o0 : List ByteArray) : ∀ i, rfree xs (fun _ => []) o0 i = Tm.frees o0 (xs.take i)
  | 0 => by simp [rfree, Tm.frees]
  | i + 1 => by
    have ih := rfree_plain xs o0 i
    simp only [rfree]
    split
    · rename_i x hx
      rw [Tm.frees_snoc hx, ih, woN_nil]
    · rename_i hx
      rw [List.take_add_one, hx, ih]; simp
def skipA (k : Int) (a : ByteArray) (len i : Nat) : List ByteArray := if k = 6 ∧ len = 2 ∧ i = 1 then [a] else []
theorem skipA_len (k : Int) (a : ByteArray) (len i : Nat) : (skipA k a len i).length ≤ 1 := by unfold skipA; split <;> simp
theorem rfree_all (k : Int) (a : ByteArray) (xs : List Tm) (o0 : List ByteArray) (h : ¬ (k = 6 ∧ xs.length = 2)) : rfree xs (skipA k a xs.length) o0 xs.length = Tm.frees o0 xs := by
  have e : skipA k a xs.length = fun _ => [] := funext fun i => by
    unfold skipA
    rw [if_neg (fun hh => h ⟨hh.1, hh.2.1⟩)]
  rw [e, rfree_plain, List.take_length]
theorem rfree_let (a : ByteArray) (x y : Tm) : rfree [x, y] (skipA 6 a 2) [] 2 = Tm.freeL a [] [x, y] := by
  simp [rfree, skipA, Tm.freeL, Tm.freeB, woN_nil]
def refMem (k n : Int) (a b : ByteArray) (vs : List ByteArray) (xs : List Tm) (cs : List Cs) (L : List ByteArray) : List (Nat × Option AObj) :=
  [(1, tmObj k n a b vs xs cs), (3, some (.blk 30 [.arr 400 0 L.length])), (400, some (.arr 9 1 (L.map strR)))]
set_option maxRecDepth 20000 in
set_option maxHeartbeats 8000000 in
theorem sp_refFree_at : ∀ (N : Nat) (t : Tm), t.sz < N → t.Fit → PSpec Tryd.prog 25 [tmAV t] (fun d => .arr d 0 t.free.length) (some (.arr 9 1 (t.free.map strR))) := by
  intro N
  induction N with
  | zero => intro s h; omega
  | succ N ih =>
  intro t hN hF
  have hO := hF.ok
  obtain ⟨k, n, a, b, vs, xs, cs⟩ := t
  obtain ⟨o1, o2, o3, o4, o5⟩ := hO.vars
  have hsz := sz_all hF
  refine PSpec.ofArrX Tryd.func25 rfl rfl _ (Nat.le_of_ble_eq_true rfl) (fun d => by simp [AV.has, AV.hasL]) ?_
  show AWp _ _ (endX _ Tryd.f25 _ _) (startAS 82 _)
  repeat (first | refine AWp.seq ?_ | refine AWp.block ?_)
  apply AWp.reg [] []
  · conv => lhs; simp
  · trivial
  repeat (first | refine AWp.seq ?_ | refine AWp.block ?_)
  apply AWp.reg [] []
  · conv => lhs; simp
  · trivial
  repeat (first | refine AWp.seq ?_ | refine AWp.block ?_)
  apply AWp.reg [] []
  · conv => lhs; simp
  · trivial
  by_cases e1 : k = 1
  · subst e1
    have hf : (Tm.mk 1 n a b vs xs cs).free = [a] := by simp [Tm.free]
    rw [hf]
    repeat (first | refine AWp.seq ?_ | refine AWp.block ?_)
    apply AWp.reg [] []
    · conv => lhs; simp
    · trivial
    repeat (first | refine AWp.seq ?_ | refine AWp.block ?_)
    apply AWp.reg [] []
    · conv => lhs; simp
    · trivial
    repeat (first | refine AWp.seq ?_ | refine AWp.block ?_)
    refine AWp.cond rfl (fun h => ?_) (fun h => ?_)
    · refine AWp.rg [] [] ?_
      refine AWp.ret ?_
      try dsimp only [thenQ, blockQ]
      apply endX.ret 17
      · conv => lhs; simp [resAV, Tryd.results25]
      · rfl
      · rfl
      · rfl
    · simp at h
  obtain ⟨o0, ho0⟩ : ∃ o0, o0 = if 8 ≤ k ∧ k ≤ 11 then [a] else [] := ⟨_, rfl⟩
  have hl0 : o0.length ≤ 1 := by rw [ho0]; split <;> simp
  refine AWp.seqJ ⟨82, [(1, .ptr 1 0), (3, .ptr 3 0), (4, .clo 66 [.ptr 3 0])], refMem k n a b vs xs cs o0⟩ ?_ (fun W hW => ?_)
  rotate_left
  · by_cases k8 : k = 8
    · subst k8
      rw [if_pos (by omega)] at ho0
      subst ho0
      repeat (first | refine AWp.seq ?_ | refine AWp.block ?_)
      apply AWp.reg [] []
      · conv => lhs; simp
      · trivial
      repeat (first | refine AWp.seq ?_ | refine AWp.block ?_)
      apply AWp.reg [] []
      · conv => lhs; simp
      · trivial
      repeat (first | refine AWp.seq ?_ | refine AWp.block ?_)
      refine AWp.cond rfl (fun h => ?_) (fun h => ?_)
      · simp at h
      repeat (first | refine AWp.seq ?_ | refine AWp.block ?_)
      apply AWp.reg [] []
      · conv => lhs; simp
      · trivial
      repeat (first | refine AWp.seq ?_ | refine AWp.block ?_)
      refine AWp.cond rfl (fun h0 => ?_) (fun h0 => ?_)
      rotate_left
      · simp at h0
      refine AWp.skip ?_
      repeat (first | refine AWp.seq ?_ | refine AWp.block ?_)
      refine AWp.cond rfl (fun h6 => ?_) (fun h6 => ?_)
      rotate_left
      · simp at h6
      refine AWp.rg [] [] ?_
      exact hW _ (Le.trans (Le.swap _ 25 400 rfl rfl) (Le.sub (by simp [AS.swap, swN]) (by simp [AS.swap, swN, refMem, tmObj])))
    by_cases k9 : k = 9
    · subst k9
      rw [if_pos (by omega)] at ho0
      subst ho0
      repeat (first | refine AWp.seq ?_ | refine AWp.block ?_)
      apply AWp.reg [] []
      · conv => lhs; simp
      · trivial
      repeat (first | refine AWp.seq ?_ | refine AWp.block ?_)
      apply AWp.reg [] []
      · conv => lhs; simp
      · trivial
      repeat (first | refine AWp.seq ?_ | refine AWp.block ?_)
      refine AWp.cond rfl (fun h => ?_) (fun h => ?_)
      · simp at h
      repeat (first | refine AWp.seq ?_ | refine AWp.block ?_)
      apply AWp.reg [] []
      · conv => lhs; simp
      · trivial
      repeat (first | refine AWp.seq ?_ | refine AWp.block ?_)
      refine AWp.cond rfl (fun h0 => ?_) (fun h0 => ?_)
      · simp at h0
      repeat (first | refine AWp.seq ?_ | refine AWp.block ?_)
      apply AWp.reg [] []
      · conv => lhs; simp
      · trivial
      repeat (first | refine AWp.seq ?_ | refine AWp.block ?_)
      refine AWp.cond rfl (fun h1 => ?_) (fun h1 => ?_)
      rotate_left
      · simp at h1
      refine AWp.skip ?_
      repeat (first | refine AWp.seq ?_ | refine AWp.block ?_)
      refine AWp.cond rfl (fun h6 => ?_) (fun h6 => ?_)
      rotate_left
      · simp at h6
      refine AWp.rg [] [] ?_
      exact hW _ (Le.trans (Le.swap _ 25 400 rfl rfl) (Le.sub (by simp [AS.swap, swN]) (by simp [AS.swap, swN, refMem, tmObj])))
    by_cases k10 : k = 10
    · subst k10
      rw [if_pos (by omega)] at ho0
      subst ho0
      repeat (first | refine AWp.seq ?_ | refine AWp.block ?_)
      apply AWp.reg [] []
      · conv => lhs; simp
      · trivial
      repeat (first | refine AWp.seq ?_ | refine AWp.block ?_)
      apply AWp.reg [] []
      · conv => lhs; simp
      · trivial
      repeat (first | refine AWp.seq ?_ | refine AWp.block ?_)
      refine AWp.cond rfl (fun h => ?_) (fun h => ?_)
      · simp at h
      repeat (first | refine AWp.seq ?_ | refine AWp.block ?_)
      apply AWp.reg [] []
      · conv => lhs; simp
      · trivial
      repeat (first | refine AWp.seq ?_ | refine AWp.block ?_)
      refine AWp.cond rfl (fun h0 => ?_) (fun h0 => ?_)
      · simp at h0
      repeat (first | refine AWp.seq ?_ | refine AWp.block ?_)
      apply AWp.reg [] []
      · conv => lhs; simp
      · trivial
      repeat (first | refine AWp.seq ?_ | refine AWp.block ?_)
      refine AWp.cond rfl (fun h1 => ?_) (fun h1 => ?_)
      · simp at h1
      repeat (first | refine AWp.seq ?_ | refine AWp.block ?_)
      apply AWp.reg [] []
      · conv => lhs; simp
      · trivial
      repeat (first | refine AWp.seq ?_ | refine AWp.block ?_)
      refine AWp.cond rfl (fun h2 => ?_) (fun h2 => ?_)
      rotate_left
      · simp at h2
      refine AWp.skip ?_
      repeat (first | refine AWp.seq ?_ | refine AWp.block ?_)
      refine AWp.cond rfl (fun h6 => ?_) (fun h6 => ?_)
      rotate_left
      · simp at h6
      refine AWp.rg [] [] ?_
      exact hW _ (Le.trans (Le.swap _ 25 400 rfl rfl) (Le.sub (by simp [AS.swap, swN]) (by simp [AS.swap, swN, refMem, tmObj])))
    by_cases k11 : k = 11
    · subst k11
      rw [if_pos (by omega)] at ho0
      subst ho0
      repeat (first | refine AWp.seq ?_ | refine AWp.block ?_)
      apply AWp.reg [] []
      · conv => lhs; simp
      · trivial
      repeat (first | refine AWp.seq ?_ | refine AWp.block ?_)
      apply AWp.reg [] []
      · conv => lhs; simp
      · trivial
      repeat (first | refine AWp.seq ?_ | refine AWp.block ?_)
      refine AWp.cond rfl (fun h => ?_) (fun h => ?_)
      · simp at h
      repeat (first | refine AWp.seq ?_ | refine AWp.block ?_)
      apply AWp.reg [] []
      · conv => lhs; simp
      · trivial
      repeat (first | refine AWp.seq ?_ | refine AWp.block ?_)
      refine AWp.cond rfl (fun h0 => ?_) (fun h0 => ?_)
      · simp at h0
      repeat (first | refine AWp.seq ?_ | refine AWp.block ?_)
      apply AWp.reg [] []
      · conv => lhs; simp
      · trivial
      repeat (first | refine AWp.seq ?_ | refine AWp.block ?_)
      refine AWp.cond rfl (fun h1 => ?_) (fun h1 => ?_)
      · simp at h1
      repeat (first | refine AWp.seq ?_ | refine AWp.block ?_)
      apply AWp.reg [] []
      · conv => lhs; simp
      · trivial
      repeat (first | refine AWp.seq ?_ | refine AWp.block ?_)
      refine AWp.cond rfl (fun h2 => ?_) (fun h2 => ?_)
      · simp at h2
      repeat (first | refine AWp.seq ?_ | refine AWp.block ?_)
      apply AWp.reg [] []
      · conv => lhs; simp
      · trivial
      repeat (first | refine AWp.seq ?_ | refine AWp.block ?_)
      refine AWp.cond rfl (fun h6 => ?_) (fun h6 => ?_)
      rotate_left
      · simp at h6
      refine AWp.rg [] [] ?_
      exact hW _ (Le.trans (Le.swap _ 25 400 rfl rfl) (Le.sub (by simp [AS.swap, swN]) (by simp [AS.swap, swN, refMem, tmObj])))
    rw [if_neg (by omega)] at ho0
    subst ho0
    repeat (first | refine AWp.seq ?_ | refine AWp.block ?_)
    apply AWp.reg [] []
    · conv => lhs; simp
    · trivial
    repeat (first | refine AWp.seq ?_ | refine AWp.block ?_)
    apply AWp.reg [] []
    · conv => lhs; simp [e1]
    · trivial
    refine AWp.cn ?_
    repeat (first | refine AWp.seq ?_ | refine AWp.block ?_)
    apply AWp.reg [] []
    · conv => lhs; simp [k8]
    · trivial
    refine AWp.cn ?_
    repeat (first | refine AWp.seq ?_ | refine AWp.block ?_)
    apply AWp.reg [] []
    · conv => lhs; simp [k9]
    · trivial
    refine AWp.cn ?_
    repeat (first | refine AWp.seq ?_ | refine AWp.block ?_)
    apply AWp.reg [] []
    · conv => lhs; simp [k10]
    · trivial
    refine AWp.cn ?_
    repeat (first | refine AWp.seq ?_ | refine AWp.block ?_)
    apply AWp.reg [] []
    · conv => lhs; simp [k11]
    · trivial
    repeat (first | refine AWp.seq ?_ | refine AWp.block ?_)
    refine AWp.cond rfl (fun h6 => ?_) (fun h6 => ?_)
    · cases h6
    refine AWp.skip ?_
    exact hW _ (Le.low [400] [] rfl (by simp) (by simp [refMem, tmObj]))
  repeat (first | refine AWp.seq ?_ | refine AWp.block ?_)
  apply AWp.reg [] []
  · conv => lhs; simp [refMem, tmObj]
  · trivial
  repeat (first | refine AWp.seq ?_ | refine AWp.block ?_)
  refine AWp.loop (σ := fun u : {i : Nat // i ≤ xs.length} => ⟨82, [(1, .ptr 1 0), (3, .ptr 3 0), (4, .clo 66 [.ptr 3 0]), (27, .d (.sl (xs.map Tm.row))), (28, .d (.int xs.length)), (29, .d (.int u.1))], refMem k n a b vs xs cs (rfree xs (skipA k a xs.length) o0 u.1)⟩)
    (μ := fun u => xs.length - u.1) ⟨0, Nat.zero_le _⟩ (Le.sub (by simp [rfree]) (by simp [rfree, refMem, tmObj])) (fun ⟨i, hi⟩ => ?_)
  dsimp only
  have hL0 := rfree_len xs (skipA k a xs.length) o0 i
  have hS : ∀ x, xs[i]? = some x → _ := fun x => rfree_snoc (skipA k a xs.length) o0 (x := x) (i := i)
  obtain ⟨L, hL⟩ : ∃ L, L = rfree xs (skipA k a xs.length) o0 i := ⟨_, rfl⟩
  rw [← hL] at hL0 hS ⊢
  repeat (first | refine AWp.seq ?_ | refine AWp.block ?_)
  apply AWp.reg [] []
  · conv => lhs; simp
  · trivial
  repeat (first | refine AWp.seq ?_ | refine AWp.block ?_)
  refine AWp.cond rfl (fun h => ?_) (fun h => ?_)
  · have hi1 : i < xs.length := by have := of_decide_eq_true h; omega
    have h1 : xs[i]? = some xs[i] := List.getElem?_eq_getElem hi1
    have hmem : xs[i] ∈ xs := List.getElem_mem hi1
    generalize xs[i] = x at h1 hmem
    have hx := ih x (by have := Tm.sz_arg (k := k) (n := n) (a := a) (b := b) (vs := vs) (cs := cs) hmem; omega) (hF.arg hmem)
    have lx := x.free_len
    have lt := Tm.szs_take h1
    have hsk := skipA_len k a xs.length i
    have had := cs_Free1 L x.free (skipA k a xs.length i) (by omega) (by omega)
    have hS1 := hS x h1
    have hskd : skipA k a xs.length i = if k = 6 ∧ xs.length = 2 ∧ i = 1 then [a] else [] := rfl
    generalize skipA k a xs.length i = sk at hskd had hS1
    obtain ⟨L', hS0⟩ : ∃ L', L' = rfree xs (skipA k a xs.length) o0 (i + 1) := ⟨_, rfl⟩
    rw [← hS0] at hS1
    generalize x.free = fx at *
    rw [← hS1] at had
    obtain ⟨xk, xn, xa, xb, xv, xx, xc⟩ := x
    refine AWp.skip ?_
    refine AWp.rg [] [] ?_ (hr := by conv => lhs; simp [h1, Tm.row, Tm.rows_eq, Cs.rows_eq])
    repeat (first | refine AWp.seq ?_ | refine AWp.block ?_)
    apply AWp.reg [] []
    · conv => lhs; simp
    · trivial
    refine AWp.seqJ ⟨82, [(1, .ptr 1 0), (3, .ptr 3 0), (4, .clo 66 [.ptr 3 0]), (6, .ptr 6 0), (7, strsAV sk), (27, .d (.sl (xs.map Tm.row))), (28, .d (.int xs.length)), (29, .d (.int i))], (6, tmObj xk xn xa xb xv xx xc) :: refMem k n a b vs xs cs L⟩ ?_ (fun W1 hW1 => ?_)
    rotate_left
    · by_cases k6 : k = 6
      · subst k6
        by_cases k7 : xs.length = 2
        · have k7' : (xs.length : Int) = 2 := by omega
          by_cases k8 : i = 1
          · have k8' : (i : Int) = 1 := by omega
            rw [if_pos ⟨rfl, k7, k8⟩] at hskd
            subst hskd
            refine AWp.rg [] [] ?_ (hr := by conv => lhs; simp [k7', k8', refMem, tmObj])
            repeat (first | refine AWp.seq ?_ | refine AWp.block ?_)
            refine AWp.cond rfl (fun h2 => ?_) (fun h2 => ?_)
            rotate_left
            · simp at h2
            refine AWp.rg [2] [] ?_
            exact hW1 _ (Le.low [] [] rfl (by simp [strsD, k7', k8']) (by simp [refMem, tmObj]))
          · have k8' : ¬ (i : Int) = 1 := by omega
            rw [if_neg (fun hh => k8 hh.2.2)] at hskd
            subst hskd
            refine AWp.rg [] [] ?_ (hr := by conv => lhs; simp [k7', k8', refMem, tmObj])
            refine AWp.cn ?_
            refine AWp.skip ?_
            exact hW1 _ (Le.low [] [] rfl (by simp [strsD, k7']) (by simp [refMem, tmObj]))
        · have k7' : ¬ (xs.length : Int) = 2 := by omega
          rw [if_neg (fun hh => k7 hh.2.1)] at hskd
          subst hskd
          refine AWp.rg [] [] ?_ (hr := by conv => lhs; simp [k7', refMem, tmObj])
          refine AWp.cn ?_
          refine AWp.skip ?_
          exact hW1 _ (Le.low [] [] rfl (by simp [strsD]) (by simp [refMem, tmObj]))
      · rw [if_neg (fun hh => k6 hh.1)] at hskd
        subst hskd
        refine AWp.rg [] [] ?_ (hr := by conv => lhs; simp [k6, refMem, tmObj])
        refine AWp.cn ?_
        refine AWp.skip ?_
        exact hW1 _ (Le.low [] [] rfl (by simp [strsD]) (by simp [refMem, tmObj]))
    repeat (first | refine AWp.seq ?_ | refine AWp.block ?_)
    apply AWp.reg [2] [.p (fun d => .arr d 0 fx.length) (some (.arr 9 1 (fx.map strR))), .c [(1000, 3), (500, 400)] [strsAV fx, strsAV sk, .ptr 1000 0] [(1000, .blk 30 [.arr 500 0 L.length]), (500, .arr 9 1 (L.map strR))] (resVal []) [(1000, .blk 30 [.arr 500 0 L'.length]), (500, .arr 9 1 (L'.map strR))]]
    · conv => lhs; simp [tmAV, tmObj, refMem, resVal]
    · exact ⟨hx, had⟩
    refine AWp.rg [] [] ?_
    refine ⟨⟨i + 1, hi1⟩, by simp; omega, ?_⟩
    dsimp only
    rw [← hS0]
    exact Le.sub (by simp) (by simp [tmObj, refMem])
  have hi1 : i = xs.length := by have := of_decide_eq_false h; omega
  subst hi1
  clear h hS
  have hlx : Tm.szs (xs.take xs.length) = Tm.szs xs := by rw [List.take_length]
  refine AWp.exit ?_
  by_cases e6 : k = 6 ∧ xs.length = 2
  · have hf : (Tm.mk k n a b vs xs cs).free = L := by
      obtain ⟨e6, e7⟩ := e6
      rw [hL, ho0, e6]
      match xs, e7 with
      | [x, y], _ =>
        rw [if_neg (by omega)]
        refine Eq.trans ?_ (rfree_let a x y).symm
        simp [Tm.free]
    rw [hf]
    obtain ⟨e6, e7⟩ := e6
    subst e6
    have k7' : (xs.length : Int) = 2 := by omega
    refine AWp.rg [] [] ?_ (hr := by conv => lhs; simp [k7', refMem, tmObj])
    refine AWp.cy ?_
    refine AWp.rg [] [] ?_
    refine AWp.ret ?_
    try dsimp only [thenQ, blockQ]
    apply endX.ret 400
    · conv => lhs; simp [resAV, Tryd.results25]
    · rfl
    · rfl
    · rfl
  have hf : (Tm.mk k n a b vs xs cs).free = Cs.frees L cs := by
    simp only [Tm.free, if_neg e1, if_neg e6]
    rw [hL, rfree_all k a xs o0 e6, ho0]
  rw [hf]
  refine AWp.seqJ ⟨82, [(1, .ptr 1 0), (3, .ptr 3 0), (4, .clo 66 [.ptr 3 0])], refMem k n a b vs xs cs L⟩ ?_ (fun W1 hW1 => ?_)
  rotate_left
  · by_cases k6 : k = 6
    · subst k6
      have k7' : ¬ (xs.length : Int) = 2 := fun hh => e6 ⟨rfl, by omega⟩
      refine AWp.rg [] [] ?_ (hr := by conv => lhs; simp [k7', refMem, tmObj])
      refine AWp.cn ?_
      refine AWp.skip ?_
      exact hW1 _ (Le.sub (by simp) (by simp [refMem, tmObj]))
    · refine AWp.rg [] [] ?_ (hr := by conv => lhs; simp [k6, refMem, tmObj])
      refine AWp.cn ?_
      refine AWp.skip ?_
      exact hW1 _ (Le.sub (by simp) (by simp [refMem, tmObj]))
  repeat (first | refine AWp.seq ?_ | refine AWp.block ?_)
  apply AWp.reg [] []
  · conv => lhs; simp [refMem, tmObj]
  · trivial
  repeat (first | refine AWp.seq ?_ | refine AWp.block ?_)
  refine AWp.loop (σ := fun u : {i : Nat // i ≤ cs.length} => ⟨82, [(1, .ptr 1 0), (3, .ptr 3 0), (4, .clo 66 [.ptr 3 0]), (67, .d (.sl (cs.map Cs.row))), (68, .d (.int cs.length)), (69, .d (.int u.1))], refMem k n a b vs xs cs (Cs.frees L (cs.take u.1))⟩)
    (μ := fun u => cs.length - u.1) ⟨0, Nat.zero_le _⟩ (Le.sub (by simp [Cs.frees]) (by simp [Cs.frees, refMem, tmObj])) (fun ⟨i, hi⟩ => ?_)
  dsimp only
  have hM0 := Cs.frees_len (cs.take i) L
  have hS : ∀ x, cs[i]? = some x → Cs.frees L (cs.take (i + 1)) = addN (Cs.frees L (cs.take i)) x.freeC := fun x => Cs.frees_snoc
  obtain ⟨M, hM⟩ : ∃ M, M = Cs.frees L (cs.take i) := ⟨_, rfl⟩
  rw [← hM] at hM0 hS ⊢
  repeat (first | refine AWp.seq ?_ | refine AWp.block ?_)
  apply AWp.reg [] []
  · conv => lhs; simp
  · trivial
  repeat (first | refine AWp.seq ?_ | refine AWp.block ?_)
  refine AWp.cond rfl (fun h => ?_) (fun h => ?_)
  · have hi1 : i < cs.length := by have := of_decide_eq_true h; omega
    have h1 : cs[i]? = some cs[i] := List.getElem?_eq_getElem hi1
    have hmem : cs[i] ∈ cs := List.getElem_mem hi1
    generalize cs[i] = x at h1 hmem
    have lx := x.freeC_len
    have lt := Cs.szs_take h1
    have hS1 := hS x h1
    obtain ⟨g, ws, x⟩ := x
    obtain ⟨oc1, oc2⟩ := hF.case hmem
    have hx := ih x (by have := Tm.sz_case (k := k) (n := n) (a := a) (b := b) (vs := vs) (xs := xs) hmem; omega) oc1
    have lx2 := x.free_len
    have hsz2 : (Cs.mk g ws x).sz = x.sz := rfl
    simp only [Cs.freeC] at hS1
    have had := cs_Free1 M x.free ws (by omega) (by omega)
    rw [← hS1] at had
    obtain ⟨M', hM'⟩ : ∃ M', M' = Cs.frees L (cs.take (i + 1)) := ⟨_, rfl⟩
    rw [← hM'] at had
    generalize x.free = fx at *
    obtain ⟨xk, xn, xa, xb, xv, xx, xc⟩ := x
    refine AWp.skip ?_
    refine AWp.rg [] [] ?_ (hr := by conv => lhs; simp [h1, Cs.row, Tm.row, Tm.rows_eq, Cs.rows_eq])
    repeat (first | refine AWp.seq ?_ | refine AWp.block ?_)
    apply AWp.draw [3] [.p (fun d => .arr d 0 fx.length) (some (.arr 9 1 (fx.map strR))), .c [(1000, 3), (500, 400)] [strsAV fx, strsAV ws, .ptr 1000 0] [(1000, .blk 30 [.arr 500 0 M.length]), (500, .arr 9 1 (M.map strR))] (resVal []) [(1000, .blk 30 [.arr 500 0 M'.length]), (500, .arr 9 1 (M'.map strR))]] mixed
    · conv => lhs; simp [tmAV, tmObj, refMem, resVal]
    · kernel_rfl
    · exact ⟨hx, had⟩
    refine AWp.rg [] [] ?_
    refine ⟨⟨i + 1, hi1⟩, by simp; omega, ?_⟩
    dsimp only
    rw [← hM']
    exact Le.sub (by simp) (by simp [tmObj, refMem])
  have hi1 : i = cs.length := by have := of_decide_eq_false h; omega
  subst hi1
  rw [List.take_length] at hM
  rw [← hM]
  refine AWp.exit ?_
  repeat (first | refine AWp.seq ?_ | refine AWp.block ?_)
  apply AWp.reg [] []
  · conv => lhs; simp [refMem]
  · trivial
  refine AWp.ret ?_
  try dsimp only [thenQ, blockQ]
  apply endX.ret 400
  · conv => lhs; simp [resAV, Tryd.results25]
  · rfl
  · rfl
  · rfl
theorem sp_refFree (t : Tm) (h : t.Fit) : PSpec Tryd.prog 25 [tmAV t] (fun d => .arr d 0 t.free.length) (some (.arr 9 1 (t.free.map strR))) := sp_refFree_at _ t (Nat.lt_succ_self _) h
end Go.Proofs.YtapiiklnnkkdlaaDoor
