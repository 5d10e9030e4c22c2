/- A contract that only reads serves for an array that is owned; scope.without, scope.add, by the abstract machine. -/
import Derived.Test.YtialccgjbanmcaaDoorNamesB
namespace Go.Proofs.YtialccgjbanmcaaDoor
open Go.RowKit
attribute [local simp] runD mkRc ldOf ldArg noAny dstOk guardOk opEff opEff0 effOp pureOp callOp zEff evA constAV frGet memGet startAS frOf isGoCall idIn AS.after nextR opnIds objIds AV.ids idsL AObj.ids frNo memNo opnAny isAny mkVal rdCells wrCells fldAddr idxAddr srcRows litRows toD1 toDs setAt sliceAV optI partAV bldAV fillAV binAV binI AV.cells callEff calleeOf frKill memKill AV.kill AObj.kill AV.has AV.hasL Op.operands Call.operands keepF keepM viewIds cChk renOf moGet moWs moQ cEff moLike moHave AV.ren renL AObj.ren AObj.like kept startC moMem AV.frz frz1 frzL frSub memSub frzs AS.frz frFrz memFrz AObj.frz takeMap takeLen bleF Nat.ble_eq memAny objAny mapOp D.keyOk rowAV valRow extOp wrapOp phO
set_option linter.unusedVariables false
set_option linter.unusedSimpArgs false

/-- A function that only reads, and gives a number or a truth: it may read an owned array, too. -/
theorem PSpec.toC {P : Program} {k : Nat} {args args' : List AV} {d : D} (hS : PSpec P k args' (fun _ => .d d) none) (o : Nat) {e : TypeId} {sz : Nat} {rows : List (List D)} (he : args.map (AV.frz o (.arr e sz rows)) = args') (hd : d.flat) :
    CSpec P k args [(o, .arr e sz rows)] (.d d) [(o, .arr e sz rows)] := by
  subst he
  refine ⟨hS.ent, fun w ok g vals hM hl hv => ?_⟩
  have hx : moGet [(o, AObj.arr e sz rows)] o = some (.arr e sz rows) := by simp [moGet]
  refine (hS.run 0 w (fun b => ok b ∨ g.bl o = some b) vals hM.giw (fun b hb => ?_) (by simpa using hl) (fun i c v hc hvi => ?_)).mono ?_
  · rcases hb with hb | hb
    · exact (hM.okb b hb).1
    · exact (hM.own o _ b hx hb).2.1
  · rw [List.getElem?_map] at hc
    obtain ⟨c', hc', rfl⟩ := Option.map_eq_some_iff.1 hc
    exact ((hv i c' v hc' hvi).frz hM hx).toNo
  · rintro ex w' ⟨v, ok', g', rfl, hb, hok, hokn, hr, -⟩
    refine ⟨v, ok, g, rfl, ⟨fun i y hy => ?_, hM.inj, fun i y b hy hbi => ?_, fun b h => ?_, hM.okk, hb.size, fun b h _ => hb.block b h, fun _ _ => ⟨rfl, rfl⟩, hb.os, hb.tape, hb.output, hM.gi, hM.gb⟩, ?_⟩
    · have hy' : o = i ∧ AObj.arr e sz rows = y := by
        simp only [moGet] at hy
        split at hy
        · rename_i h; exact ⟨by simpa using h, by simpa using hy⟩
        · cases hy
      obtain ⟨rfl, rfl⟩ := hy'
      refine (hM.obj _ _ hy).mono (fun _ => false) trivial (fun b h => hb.block b (hM.own _ _ b hy h).2.1) rfl rfl (fun p h => hb.cell (hM.okb _ h).1) (fun _ h => h) (fun o x' _ h => ⟨x', h, AObj.like_refl _, rfl, rfl⟩)
    · obtain ⟨h1, h2, h3⟩ := hM.own i y b hy hbi
      exact ⟨h1, by have := hb.size; omega, h3⟩
    · obtain ⟨h1, h2⟩ := hM.okb b h
      exact ⟨by have := hb.size; omega, .inl h⟩
    · cases hr with
      | d _ _ hr => exact .d _ _ (hr.flat hd)

theorem cs_Contains (o : Nat) (l : List ByteArray) (s : ByteArray) (hl : l.length ≤ 8796093022208) : CSpec Tryd.prog 86 [.arr o 0 l.length, .d (.str s)] [(o, .arr 9 1 (l.map strR))] (.d (.bool (hasB l s))) [(o, .arr 9 1 (l.map strR))] :=
  (sp_Contains l s hl).toC o (by simp [AV.frz, frz1, List.take_of_length_le]) trivial
theorem cs_Has (o : Nat) (l : List ByteArray) (s : ByteArray) (hl : l.length ≤ 8796093022208) : CSpec Tryd.prog 57 [.arr o 0 l.length, .d (.str s)] [(o, .arr 9 1 (l.map strR))] (.d (.bool (hasB l s))) [(o, .arr 9 1 (l.map strR))] :=
  (sp_Has l s hl).toC o (by simp [AV.frz, frz1, List.take_of_length_le]) trivial

/-- A list of names without some. -/
def woN (l gone : List ByteArray) : List ByteArray := l.filter fun s => !hasB gone s
theorem woN_len (l gone : List ByteArray) : (woN l gone).length ≤ l.length := List.length_filter_le _ _

theorem cs_without1 (gone : List ByteArray) (s : ByteArray) (hg : gone.length ≤ 8796093022208) : CSpec Tryd.prog 120 [.d (.str s), .ptr 1000 0] [(1000, .blk 28 [.d (strsD gone)])] (.d (.bool (hasB gone s))) [(1000, .blk 28 [.d (strsD gone)])] := by
  have hc := sp_Contains gone s hg
  refine CSpec.of Tryd.func120 rfl rfl (Nat.le_of_ble_eq_true rfl) ?_
  show AWp _ _ (endC _ Tryd.f120 _ _) (startC 7 _ _)
  repeat (first | refine AWp.seq ?_ | refine AWp.block ?_)
  apply AWp.reg [] []
  · conv => lhs; simp
  · trivial
  repeat (first | refine AWp.seq ?_ | refine AWp.block ?_)
  apply AWp.reg [] [.p (fun _ => .d (.bool (hasB gone s))) none]
  · conv => lhs; simp
  · exact hc
  refine AWp.ret ?_
  try dsimp only [thenQ, blockQ]
  apply endC.ret
  · rfl
  · conv => lhs; simp [resAV, Tryd.results120]
  · rfl
  · simp [moEnd, memGet]

set_option maxHeartbeats 2000000 in
theorem sp_without (l gone : List ByteArray) (hl : l.length ≤ 8796093022208) (hg : gone.length ≤ 8796093022208) : PSpec Tryd.prog 104 [strsAV l, strsAV gone] (fun _ => strsAV (woN l gone)) none := by
  have hcl := sp_Clone l hl
  have hdf := cs_DeleteFunc l hl (hasB gone) 120 28 (strsD gone) (fun s _ => cs_without1 gone s hg)
  rw [show (fun s => !hasB gone s) = fun s => !hasB gone s from rfl] at hdf
  obtain ⟨n, hn⟩ : ∃ n, n = (l.filter fun s => !hasB gone s).length := ⟨_, rfl⟩
  obtain ⟨R, hR⟩ : ∃ R, R = delRows l (hasB gone) := ⟨_, rfl⟩
  have hRn : R.take n = (woN l gone).map strR := by
    rw [hR, hn, delRows, List.take_append_of_le_length (by simp), List.take_of_length_le (by simp), woN]
  have hRl : l.length ≤ R.length := by
    have := List.length_filter_le (fun s => !hasB gone s) l
    rw [hR, delRows]; simp; omega
  rw [← hn, ← hR] at hdf
  refine PSpec.of Tryd.func104 rfl rfl rfl (Nat.le_of_ble_eq_true rfl) ?_
  show AWp _ _ (endQ _ Tryd.f104 _ _ _) (startAS 9 _)
  repeat (first | refine AWp.seq ?_ | refine AWp.block ?_)
  apply AWp.reg [] []
  · conv => lhs; simp
  · trivial
  repeat (first | refine AWp.seq ?_ | refine AWp.block ?_)
  apply AWp.reg [] [.p (fun d => .arr d 0 l.length) (some (.arr 9 1 (l.map strR))), .c [(1000, 3), (1001, 6)] [.arr 1001 0 l.length, .clo 120 [.ptr 1000 0]] [(1000, .blk 28 [.d (strsD gone)]), (1001, .arr 9 1 (l.map strR))] (.arr 1001 0 n) [(1000, .blk 28 [.d (strsD gone)]), (1001, .arr 9 1 R)]]
  · conv => lhs; simp
  · exact ⟨hcl, hdf, hRl⟩
  refine AWp.ret ?_
  try dsimp only [thenQ, blockQ]
  apply endQ.retF [6]
  · rfl
  · conv => lhs; simp
  · conv => lhs; simp [resAV, Tryd.results104]
  simp [resVal, AV.nilD, hRn]

/-- Names go into a list, each once. -/
def addN (l more : List ByteArray) : List ByteArray := more.foldl (fun l s => if hasB l s then l else l ++ [s]) l
theorem addN_len (more : List ByteArray) : ∀ l, (addN l more).length ≤ l.length + more.length := by
  induction more with
  | nil => intro l; simp [addN]
  | cons s more ih =>
    intro l
    have := ih (if hasB l s then l else l ++ [s])
    simp only [addN, List.foldl_cons, List.length_cons] at this ⊢
    refine Nat.le_trans this ?_
    split
    · omega
    · simp; omega
theorem addN_snoc {l more : List ByteArray} {i : Nat} {x : ByteArray} (hx : more[i]? = some x) : addN l (more.take (i + 1)) = if hasB (addN l (more.take i)) x then addN l (more.take i) else addN l (more.take i) ++ [x] := by
  rw [List.take_add_one, hx]
  simp only [addN, List.foldl_append, Option.toList_some, List.foldl_cons, List.foldl_nil]
  rfl

set_option maxHeartbeats 2000000 in
theorem cs_add (l more : List ByteArray) (hl : l.length + more.length ≤ 1048576) : CSpec Tryd.prog 103 [.arr 500 0 l.length, strsAV more] [(500, .arr 9 1 (l.map strR))] (.arr 500 0 (addN l more).length) [(500, .arr 9 1 ((addN l more).map strR))] := by
  refine CSpec.of Tryd.func103 rfl rfl (Nat.le_of_ble_eq_true rfl) ?_
  show AWp _ _ (endC _ Tryd.f103 _ _) (startC 23 _ _)
  repeat (first | refine AWp.seq ?_ | refine AWp.block ?_)
  apply AWp.reg [] []
  · conv => lhs; simp
  · trivial
  repeat (first | refine AWp.seq ?_ | refine AWp.block ?_)
  apply AWp.reg [] []
  · conv => lhs; simp
  · trivial
  repeat (first | refine AWp.seq ?_ | refine AWp.block ?_)
  refine AWp.loop (σ := fun u : {i : Nat // i ≤ more.length} => ⟨23, [(0, .arr 500 0 (addN l (more.take u.1)).length), (7, strsAV more), (8, .d (.int more.length)), (9, .d (.int u.1))], [(500, some (.arr 9 1 ((addN l (more.take u.1)).map strR)))]⟩)
    (μ := fun u => more.length - u.1) ⟨0, Nat.zero_le _⟩ (Le.sub (by simp [addN]) (by simp [addN])) (fun ⟨i, hi⟩ => ?_)
  dsimp only
  have hN := addN_len (more.take i) l
  have hti : (more.take i).length = i := by simp; omega
  obtain ⟨L, hL⟩ : ∃ L, L = addN l (more.take i) := ⟨_, rfl⟩
  rw [← hL] at hN ⊢
  repeat (first | refine AWp.seq ?_ | refine AWp.block ?_)
  apply AWp.reg [] []
  · conv => lhs; simp
  · trivial
  repeat (first | refine AWp.seq ?_ | refine AWp.block ?_)
  refine AWp.cond rfl (fun h => ?_) (fun h => ?_)
  · have hi1 : i < more.length := by have := of_decide_eq_true h; omega
    have h1 : more[i]? = some more[i] := List.getElem?_eq_getElem hi1
    generalize more[i] = x at h1
    have hs := addN_snoc (l := l) h1
    rw [← hL] at hs
    have hc := cs_Contains 1001 L x (by omega)
    obtain ⟨B, hB⟩ : ∃ B, B = hasB L x := ⟨_, rfl⟩
    rw [← hB] at hs hc
    refine AWp.skip ?_
    repeat (first | refine AWp.seq ?_ | refine AWp.block ?_)
    apply AWp.reg [] []
    · conv => lhs; simp [h1]
    · first | trivial | omega | (simp [inI, maxLen]; done) | (simp [inI, maxLen]; omega)
    repeat (first | refine AWp.seq ?_ | refine AWp.block ?_)
    apply AWp.reg [] [.c [(1001, 500)] [.arr 1001 0 L.length, .d (.str x)] [(1001, .arr 9 1 (L.map strR))] (.d (.bool B)) [(1001, .arr 9 1 (L.map strR))]]
    · conv => lhs; simp
    · exact hc
    cases B with
    | true =>
      repeat (first | refine AWp.seq ?_ | refine AWp.block ?_)
      refine AWp.cond rfl (fun h2 => ?_) (fun h2 => ?_)
      · simp at h2
      refine AWp.skip ?_
      repeat (first | refine AWp.seq ?_ | refine AWp.block ?_)
      apply AWp.reg [] []
      · conv => lhs; simp
      · first | trivial | omega | (simp [inI, maxLen]; done) | (simp [inI, maxLen]; omega)
      refine ⟨⟨i + 1, hi1⟩, by simp; omega, ?_⟩
      dsimp only
      rw [hs, if_pos rfl]
      exact Le.sub (by simp) (by simp)
    | false =>
      repeat (first | refine AWp.seq ?_ | refine AWp.block ?_)
      refine AWp.cond rfl (fun h2 => ?_) (fun h2 => ?_)
      · repeat (first | refine AWp.seq ?_ | refine AWp.block ?_)
        apply AWp.reg [] []
        · conv => lhs; simp
        · first | trivial | omega | (simp [inI, maxLen]; done) | (simp [inI, maxLen]; omega)
        repeat (first | refine AWp.seq ?_ | refine AWp.block ?_)
        apply AWp.reg [] []
        · conv => lhs; simp
        · first | trivial | omega | (simp [inI, maxLen]; done) | (simp [inI, maxLen]; omega)
        refine ⟨⟨i + 1, hi1⟩, by simp; omega, ?_⟩
        dsimp only
        rw [hs, if_neg (by simp)]
        exact Le.sub (by simp) (by simp)
      · simp at h2
  have hi1 : i = more.length := by have := of_decide_eq_false h; omega
  subst hi1
  rw [List.take_length] at hL
  refine AWp.exit ?_
  repeat (first | refine AWp.seq ?_ | refine AWp.block ?_)
  apply AWp.reg [] []
  · conv => lhs; simp
  · trivial
  refine AWp.ret ?_
  try dsimp only [thenQ, blockQ]
  apply endC.ret
  · rfl
  · conv => lhs; simp [resAV, Tryd.results103]
  · rw [hL]; rfl
  · simp [moEnd, memGet, hL]
end Go.Proofs.YtialccgjbanmcaaDoor
