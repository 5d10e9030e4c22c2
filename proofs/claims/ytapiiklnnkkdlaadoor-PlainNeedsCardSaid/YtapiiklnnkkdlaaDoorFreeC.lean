import Derived.Test.YtapiiklnnkkdlaaDoorTermB
/- slices.Clone of names; scope.Own, scope.Fns, by the abstract machine. -/
namespace Go.Proofs.YtapiiklnnkkdlaaDoor
open Go.RowKit
attribute [local simp] runD mkRc ldOf stOf stOk ldArg noAny dstOk guardOk opEff opEff0 effOp pureOp callOp zEff evA constAV scalAV Value.oneCell' frGet memGet startAS frOf isGoCall idIn AS.after nextR opnIds objIds AV.ids idsL AObj.ids frNo memNo opnAny isAny mkVal rdCells wrCells fldAddr idxAddr srcRows litRows toD1 toDs setAt sliceAV optI partAV bldAV fillAV binAV binI AV.cells callEff calleeOf frKill memKill AV.kill AObj.kill AV.has AV.hasL Op.operands Call.operands keepF keepM viewIds cChk renOf moGet moWs moQ cEff moLike moHave AV.ren renL AObj.ren AObj.like kept startC moMem AV.frz frz1 frzL frSub memSub frzs AS.frz frFrz memFrz AObj.frz takeMap takeLen bleF Nat.ble_eq memAny objAny mapOp D.keyOk rowAV valRow extOp wrapOp phO frLow memLow memLow1 objLow memEmpty Low LowL
set_option linter.unusedVariables false
set_option linter.unusedSimpArgs false
theorem endQ.retA {P : Program} {fn : Func} {r : Nat → AV} {o : Nat} {s : AS} {cs : List AV} {y : AObj} (hrn : (r o).nilD = r o) (h : resAV P s fn.results.toList = some cs) (hr : (resVal cs).nilD = (r o).nilD) (hx : memGet s.mem o = some y) (ho : Nat.ble 500 o = false) : endQ P fn r (some y) o .ret s :=
  ⟨.inl rfl, s, Le.refl s, cs, h, hr, hrn, fun z hz => by cases hz; exact ⟨hx, ho⟩⟩
set_option maxHeartbeats 1000000 in
theorem sp_Clone (l : List ByteArray) (hl : l.length ≤ 8796093022208) : PSpec Tryd.prog 57 [strsAV l] (fun d => .arr d 0 l.length) (some (.arr 9 1 (l.map strR))) := by
  refine PSpec.ofArr Tryd.func57 rfl rfl _ 5 (Nat.le_of_ble_eq_true rfl) (fun _ => rfl) (by simp [AV.ids, idsL]) (fun d => by simp [AV.has, AV.hasL]) ?_
  show AWp _ _ (endQ _ Tryd.f57 _ _ _) (startAS 8 _)
  repeat (first | refine AWp.seq ?_ | refine AWp.block ?_)
  apply AWp.reg [] []
  · conv => lhs; simp
  · trivial
  cases l with
  | nil =>
    repeat (first | refine AWp.seq ?_ | refine AWp.block ?_)
    apply AWp.reg [] []
    · conv => lhs; simp [strsAV, strsD]
    · trivial
    repeat (first | refine AWp.seq ?_ | refine AWp.block ?_)
    refine AWp.condU rfl ?_ ?_
    · repeat (first | refine AWp.seq ?_ | refine AWp.block ?_)
      apply AWp.reg [] []
      · conv => lhs; simp
      · trivial
      refine AWp.le (Le.low [5] [] (fr := [(2, .arr 5 0 0)]) (mem := [(5, some (.arr 9 1 []))]) rfl (by simp) (by simp)) ?_
      refine AWp.ret ?_
      try dsimp only [thenQ, blockQ]
      apply endQ.retA
      · rfl
      · conv => lhs; simp [resAV, Tryd.results57]
      · rfl
      · rfl
      · rfl
    · refine AWp.skip ?_
      refine AWp.rg [] [] ?_
      refine AWp.ret ?_
      try dsimp only [thenQ, blockQ]
      apply endQ.retA
      · rfl
      · conv => lhs; simp [resAV, Tryd.results57]
      · rfl
      · rfl
      · rfl
  | cons s l =>
    simp only [List.length_cons] at hl
    repeat (first | refine AWp.seq ?_ | refine AWp.block ?_)
    apply AWp.reg [] []
    · conv => lhs; simp [strsAV, strsD]
    · trivial
    refine AWp.cn ?_
    refine AWp.skip ?_
    repeat (first | refine AWp.seq ?_ | refine AWp.block ?_)
    apply AWp.reg [] []
    · conv => lhs; simp [strsAV, strsD]
    · exact ⟨rows_len (row := strR) (fun _ => rfl) (s :: l), by simp [maxLen]; omega, by omega⟩
    refine AWp.ret ?_
    try dsimp only [thenQ, blockQ]
    apply endQ.retA
    · rfl
    · conv => lhs; simp [resAV, Tryd.results57]
    · rfl
    · rfl
    · rfl
def owMem (k n : Int) (a b : ByteArray) (vs : List ByteArray) (xs : List Tm) (cs : List Cs) : List (Nat × Option AObj) :=
  [(1, some (.blk 34 [.d (.int k), .d (.int n), .d (.str a), .d (.str b), .d (strsD vs), .d (.sl (xs.map Tm.row)), .d (.sl (cs.map Cs.row))])),
   (2, some (.blk 34 [.d (.int 0), .d (.int 0), .d (.str ByteArray.empty), .d (.str ByteArray.empty), .lit (.slice none 0 0), .lit (.slice none 0 0), .lit (.slice none 0 0)]))]
set_option maxRecDepth 20000 in
set_option maxHeartbeats 8000000 in
theorem sp_Own_at : ∀ (N : Nat) (t : Tm), t.sz < N → t.Ok → PSpec Tryd.prog 76 [tmAV t] (fun _ => tmAV t) none := by
  intro N
  induction N with
  | zero => intro s h; omega
  | succ N ih =>
  intro t hN hO
  obtain ⟨k, n, a, b, vs, xs, cs⟩ := t
  obtain ⟨o1, o2, o3, o4, o5⟩ := hO.vars
  have hcl := sp_Clone vs (by omega)
  refine PSpec.of Tryd.func76 rfl rfl rfl (Nat.le_of_ble_eq_true rfl) ?_
  show AWp _ _ (endQ _ Tryd.f76 _ _ _) (startAS 51 _)
  repeat (first | refine AWp.seq ?_ | refine AWp.block ?_)
  apply AWp.reg [] []
  · conv => lhs; simp
  · trivial
  repeat (first | refine AWp.seq ?_ | refine AWp.block ?_)
  apply AWp.reg [2] [.p (fun d => .arr d 0 vs.length) (some (.arr 9 1 (vs.map strR)))]
  · conv => lhs; simp [strsAV]
  · exact hcl
  repeat (first | refine AWp.seq ?_ | refine AWp.block ?_)
  apply AWp.reg [] []
  · conv => lhs; simp
  · trivial
  repeat (first | refine AWp.seq ?_ | refine AWp.block ?_)
  apply AWp.reg [] []
  · conv => lhs; simp
  · trivial
  repeat (first | refine AWp.seq ?_ | refine AWp.block ?_)
  refine AWp.le (Le.low [400] [] (fr := [(1, .ptr 1 0), (2, .ptr 2 0), (3, .arr 400 0 0), (14, .d (.sl (xs.map Tm.row))), (15, .d (.int xs.length)), (16, .d (.int 0))]) (mem := (400, some (.arr 34 7 [])) :: owMem k n a b vs xs cs) rfl (by simp) (by simp [owMem])) ?_
  refine AWp.loop (σ := fun u : {i : Nat // i ≤ xs.length} => ⟨51, [(1, .ptr 1 0), (2, .ptr 2 0), (3, .arr 400 0 u.1), (14, .d (.sl (xs.map Tm.row))), (15, .d (.int xs.length)), (16, .d (.int u.1))], (400, some (.arr 34 7 ((xs.map Tm.row).take u.1))) :: owMem k n a b vs xs cs⟩)
    (μ := fun u => xs.length - u.1) ⟨0, Nat.zero_le _⟩ (Le.refl _) (fun ⟨i, hi⟩ => ?_)
  dsimp only
  repeat (first | refine AWp.seq ?_ | refine AWp.block ?_)
  apply AWp.reg [] []
  · conv => lhs; simp
  · trivial
  repeat (first | refine AWp.seq ?_ | refine AWp.block ?_)
  refine AWp.cond rfl (fun h => ?_) (fun h => ?_)
  · have hi1 : i < xs.length := by have := of_decide_eq_true h; omega
    have h1 : xs[i]? = some xs[i] := List.getElem?_eq_getElem hi1
    have hmem : xs[i] ∈ xs := List.getElem_mem hi1
    generalize xs[i] = x at h1 hmem
    have hp := ih x (by have := Tm.sz_arg (k := k) (n := n) (a := a) (b := b) (vs := vs) (cs := cs) hmem; omega) (hO.arg hmem)
    have ht : (xs.map Tm.row).take (i + 1) = (xs.map Tm.row).take i ++ [x.row] := by rw [List.take_add_one, List.getElem?_map, h1]; rfl
    have hl : ((xs.map Tm.row).take i).length = i := by simp; omega
    refine AWp.skip ?_
    obtain ⟨xk, xn, xa, xb, xv, xx, xc⟩ := x
    refine AWp.rg [] [] ?_ (hr := by conv => lhs; simp [h1, Tm.row, Tm.rows_eq, Cs.rows_eq])
    repeat (first | refine AWp.seq ?_ | refine AWp.block ?_)
    apply AWp.reg [] [.p (fun _ => tmAV (.mk xk xn xa xb xv xx xc)) none]
    · conv => lhs; simp [tmAV]
    · exact ⟨hp, by omega, by simp [maxLen]; omega, by omega⟩
    refine AWp.rg [] [] ?_
    refine ⟨⟨i + 1, hi1⟩, by simp; omega, ?_⟩
    dsimp only
    rw [ht]
    exact Le.sub (by simp [Nat.min_eq_left hi]) (by simp [owMem, Tm.row, Tm.rows_eq, Cs.rows_eq])
  have hi1 : i = xs.length := by have := of_decide_eq_false h; omega
  subst hi1
  refine AWp.exit ?_
  rw [show (xs.map Tm.row).take xs.length = xs.map Tm.row from List.take_of_length_le (by simp)]
  repeat (first | refine AWp.seq ?_ | refine AWp.block ?_)
  apply AWp.reg [] []
  · conv => lhs; simp
  · trivial
  repeat (first | refine AWp.seq ?_ | refine AWp.block ?_)
  apply AWp.reg [] []
  · conv => lhs; simp [owMem]
  · trivial
  repeat (first | refine AWp.seq ?_ | refine AWp.block ?_)
  refine AWp.le (Le.low [401] [] (fr := [(1, .ptr 1 0), (2, .ptr 2 0), (3, .arr 400 0 xs.length), (6, .arr 401 0 0), (27, .d (.sl (cs.map Cs.row))), (28, .d (.int cs.length)), (29, .d (.int 0))]) (mem := (401, some (.arr 40 9 [])) :: (400, some (.arr 34 7 (xs.map Tm.row))) :: owMem k n a b vs xs cs) rfl (by simp) (by simp [owMem])) ?_
  refine AWp.loop (σ := fun u : {i : Nat // i ≤ cs.length} => ⟨51, [(1, .ptr 1 0), (2, .ptr 2 0), (3, .arr 400 0 xs.length), (6, .arr 401 0 u.1), (27, .d (.sl (cs.map Cs.row))), (28, .d (.int cs.length)), (29, .d (.int u.1))], (401, some (.arr 40 9 ((cs.map Cs.row).take u.1))) :: (400, some (.arr 34 7 (xs.map Tm.row))) :: owMem k n a b vs xs cs⟩)
    (μ := fun u => cs.length - u.1) ⟨0, Nat.zero_le _⟩ (Le.refl _) (fun ⟨i, hi⟩ => ?_)
  dsimp only
  clear h
  repeat (first | refine AWp.seq ?_ | refine AWp.block ?_)
  apply AWp.reg [] []
  · conv => lhs; simp
  · trivial
  repeat (first | refine AWp.seq ?_ | refine AWp.block ?_)
  refine AWp.cond rfl (fun h => ?_) (fun h => ?_)
  · have hi1 : i < cs.length := by have := of_decide_eq_true h; omega
    have h1 : cs[i]? = some cs[i] := List.getElem?_eq_getElem hi1
    have hmem : cs[i] ∈ cs := List.getElem_mem hi1
    generalize cs[i] = x at h1 hmem
    have ht : (cs.map Cs.row).take (i + 1) = (cs.map Cs.row).take i ++ [x.row] := by rw [List.take_add_one, List.getElem?_map, h1]; rfl
    have hl : ((cs.map Cs.row).take i).length = i := by simp; omega
    obtain ⟨g, ws, x⟩ := x
    obtain ⟨oc1, oc2⟩ := (hO.case hmem).body
    have hp := ih x (by have := Tm.sz_case (k := k) (n := n) (a := a) (b := b) (vs := vs) (xs := xs) hmem; omega) oc1
    have hcw := sp_Clone ws (by omega)
    obtain ⟨xk, xn, xa, xb, xv, xx, xc⟩ := x
    refine AWp.skip ?_
    refine AWp.rg [] [] ?_ (hr := by conv => lhs; simp [h1, Cs.row, Tm.row, Tm.rows_eq, Cs.rows_eq])
    repeat (first | refine AWp.seq ?_ | refine AWp.block ?_)
    apply AWp.draw [5] [.p (fun d => .arr d 0 ws.length) (some (.arr 9 1 (ws.map strR))), .p (fun _ => tmAV (.mk xk xn xa xb xv xx xc)) none] mixed
    · conv => lhs; simp [strsAV]
    · kernel_rfl
    · exact ⟨hcw, hp, by omega, by simp [maxLen]; omega, by omega⟩
    refine AWp.rg [] [] ?_
    refine ⟨⟨i + 1, hi1⟩, by simp; omega, ?_⟩
    dsimp only
    rw [ht]
    exact Le.sub (by simp [Nat.min_eq_left hi]) (by simp [owMem, Cs.row, Tm.row, Tm.rows_eq, Cs.rows_eq])
  have hi1 : i = cs.length := by have := of_decide_eq_false h; omega
  subst hi1
  refine AWp.exit ?_
  rw [show (cs.map Cs.row).take cs.length = cs.map Cs.row from List.take_of_length_le (by simp)]
  repeat (first | refine AWp.seq ?_ | refine AWp.block ?_)
  apply AWp.reg [] []
  · conv => lhs; simp [owMem]
  · trivial
  repeat (first | refine AWp.seq ?_ | refine AWp.block ?_)
  apply AWp.reg [] []
  · conv => lhs; simp
  · trivial
  refine AWp.ret ?_
  try dsimp only [thenQ, blockQ]
  apply endQ.retF [400, 401]
  · rfl
  · conv => lhs; simp
  · conv => lhs; simp [resAV, Tryd.results76]
  rfl
theorem sp_Own (t : Tm) (h : t.Ok) : PSpec Tryd.prog 76 [tmAV t] (fun _ => tmAV t) none := sp_Own_at _ t (Nat.lt_succ_self _) h
end Go.Proofs.YtapiiklnnkkdlaaDoor

namespace Go.Proofs.YtapiiklnnkkdlaaDoor
open Go.RowKit
attribute [local simp] runD mkRc ldOf stOf stOk ldArg noAny dstOk guardOk opEff opEff0 effOp pureOp callOp zEff evA constAV scalAV Value.oneCell' frGet memGet startAS frOf isGoCall idIn AS.after nextR opnIds objIds AV.ids idsL AObj.ids frNo memNo opnAny isAny mkVal rdCells wrCells fldAddr idxAddr srcRows litRows toD1 toDs setAt sliceAV optI partAV bldAV fillAV binAV binI AV.cells callEff calleeOf frKill memKill AV.kill AObj.kill AV.has AV.hasL Op.operands Call.operands keepF keepM viewIds cChk renOf moGet moWs moQ cEff moLike moHave AV.ren renL AObj.ren AObj.like kept startC moMem AV.frz frz1 frzL frSub memSub frzs AS.frz frFrz memFrz AObj.frz takeMap takeLen bleF Nat.ble_eq memAny objAny mapOp D.keyOk rowAV valRow extOp wrapOp phO
set_option linter.unusedVariables false
set_option linter.unusedSimpArgs false
def hasB (l : List ByteArray) (s : ByteArray) : Bool := l.any fun x => decide (x = s)
theorem hasB_iff {l : List ByteArray} {s : ByteArray} : hasB l s = true ↔ s ∈ l := by
  unfold hasB
  rw [List.any_eq_true]
  constructor
  · rintro ⟨x, h1, h2⟩
    rw [← of_decide_eq_true h2]; exact h1
  · exact fun h => ⟨s, h, decide_eq_true rfl⟩
theorem hasB_not {l : List ByteArray} {s : ByteArray} : hasB l s = false ↔ s ∉ l := by
  rw [← Bool.not_eq_true, hasB_iff]
theorem not_mem_snoc {l : List ByteArray} {i : Nat} {x s : ByteArray} (hx : l[i]? = some x) (h : s ∉ l.take i) (hne : x ≠ s) : s ∉ l.take (i + 1) := by
  rw [List.take_add_one, hx]
  simp only [Option.toList_some, List.mem_append, List.mem_singleton, not_or]
  exact ⟨h, fun e => hne e.symm⟩
set_option maxHeartbeats 1000000 in
theorem sp_Has (l : List ByteArray) (s : ByteArray) (hl : l.length ≤ 8796093022208) : PSpec Tryd.prog 26 [strsAV l, .d (.str s)] (fun _ => .d (.bool (hasB l s))) none := by
  refine PSpec.of Tryd.func26 rfl rfl rfl (Nat.le_of_ble_eq_true rfl) ?_
  show AWp _ _ (endQ _ Tryd.f26 _ _ _) (startAS 17 _)
  repeat (first | refine AWp.seq ?_ | refine AWp.block ?_)
  apply AWp.reg [] []
  · conv => lhs; simp
  · trivial
  repeat (first | refine AWp.seq ?_ | refine AWp.block ?_)
  apply AWp.reg [] []
  · conv => lhs; simp
  · trivial
  repeat (first | refine AWp.seq ?_ | refine AWp.block ?_)
  refine AWp.loop (σ := fun u : {i : Nat // i ≤ l.length ∧ s ∉ l.take i} => ⟨17, [(1, .d (.str s)), (7, strsAV l), (8, .d (.int l.length)), (9, .d (.int u.1))], []⟩)
    (μ := fun u => l.length - u.1) ⟨0, Nat.zero_le _, by simp⟩ (Le.sub (by simp) (by simp)) (fun ⟨i, hi, ht⟩ => ?_)
  dsimp only
  repeat (first | refine AWp.seq ?_ | refine AWp.block ?_)
  apply AWp.reg [] []
  · conv => lhs; simp
  · trivial
  repeat (first | refine AWp.seq ?_ | refine AWp.block ?_)
  refine AWp.cond rfl (fun h => ?_) (fun h => ?_)
  · have hi1 : i < l.length := by have := of_decide_eq_true h; omega
    have h1 : l[i]? = some l[i] := List.getElem?_eq_getElem hi1
    have hmem : l[i] ∈ l := List.getElem_mem hi1
    generalize l[i] = x at h1 hmem
    refine AWp.skip ?_
    refine AWp.rg [] [] ?_ (hr := by conv => lhs; simp [h1])
    by_cases hx : x = s
    · subst hx
      repeat (first | refine AWp.seq ?_ | refine AWp.block ?_)
      apply AWp.reg [] []
      · conv => lhs; simp
      · trivial
      repeat (first | refine AWp.seq ?_ | refine AWp.block ?_)
      refine AWp.cond rfl (fun h2 => ?_) (fun h2 => ?_)
      · repeat (first | refine AWp.seq ?_ | refine AWp.block ?_)
        apply AWp.reg [] []
        · conv => lhs; simp
        · trivial
        refine AWp.ret ?_
        try dsimp only [thenQ, blockQ]
        apply endQ.ret
        · rfl
        · conv => lhs; simp [resAV, Tryd.results26]
        rw [hasB_iff.2 hmem]; rfl
      · simp at h2
    · repeat (first | refine AWp.seq ?_ | refine AWp.block ?_)
      apply AWp.reg [] []
      · conv => lhs; simp [hx]
      · trivial
      repeat (first | refine AWp.seq ?_ | refine AWp.block ?_)
      refine AWp.cond rfl (fun h2 => ?_) (fun h2 => ?_)
      · simp at h2
      refine AWp.skip ?_
      refine AWp.rg [] [] ?_
      refine ⟨⟨i + 1, hi1, not_mem_snoc h1 ht hx⟩, by simp; omega, Le.sub (by simp) (by simp)⟩
  have hi1 : i = l.length := by have := of_decide_eq_false h; omega
  subst hi1
  rw [List.take_length] at ht
  refine AWp.exit ?_
  repeat (first | refine AWp.seq ?_ | refine AWp.block ?_)
  apply AWp.reg [] []
  · conv => lhs; simp
  · trivial
  refine AWp.ret ?_
  try dsimp only [thenQ, blockQ]
  apply endQ.ret
  · rfl
  · conv => lhs; simp [resAV, Tryd.results26]
  rw [hasB_not.2 ht]; rfl
theorem take_all_snoc {l : List ByteArray} {p : ByteArray → Bool} {i : Nat} {x : ByteArray} (hx : l[i]? = some x) (h : ∀ y ∈ l.take i, p y = false) (hp : p x = false) : ∀ y ∈ l.take (i + 1), p y = false := by
  rw [List.take_add_one, hx]
  intro y hy
  rcases List.mem_append.1 hy with hy | hy
  · exact h y hy
  · simp at hy; subst hy; exact hp


theorem PSpec.toC {P : Program} {k : Nat} {args args' : List AV} {d : D} (hS : PSpec P k args' (fun _ => .d d) none) (o : Nat) {e : TypeId} {sz : Nat} {rows : List (List D)} (he : args.map (AV.frz o (.arr e sz rows)) = args') (hd : d.flat) :
    CSpec P k args [(o, .arr e sz rows)] (.d d) [(o, .arr e sz rows)] := by
  subst he
  refine ⟨hS.ent, fun w ok g vals hM hl hv => ?_⟩
  have hx : moGet [(o, AObj.arr e sz rows)] o = some (.arr e sz rows) := by simp [moGet]
  refine (hS.run 0 w (fun b => ok b ∨ g.bl o = some b) vals hM.giw (fun b hb => ?_) (by simpa using hl) (fun i c v hc hvi => ?_)).mono ?_
  · rcases hb with hb | hb
    · exact (hM.okb b hb).1
    · exact (hM.own o _ b hx hb).2.1
  · rw [List.getElem?_map] at hc
    obtain ⟨c', hc', rfl⟩ := Option.map_eq_some_iff.1 hc
    exact ((hv i c' v hc' hvi).frz hM hx).toNo
  · rintro ex w' ⟨v, ok', g', rfl, hb, hok, hokn, hr, -⟩
    refine ⟨v, ok, g, rfl, ⟨fun i y hy => ?_, hM.inj, fun i y b hy hbi => ?_, fun b h => ?_, hM.okk, hb.size, fun b h _ => hb.block b h, fun _ _ => ⟨rfl, rfl⟩, hb.os, hb.tape, hb.output, hM.gi, hM.gb⟩, ?_⟩
    · have hy' : o = i ∧ AObj.arr e sz rows = y := by
        simp only [moGet] at hy
        split at hy
        · rename_i h; exact ⟨by simpa using h, by simpa using hy⟩
        · cases hy
      obtain ⟨rfl, rfl⟩ := hy'
      refine (hM.obj _ _ hy).mono (fun _ => false) trivial (fun b h => hb.block b (hM.own _ _ b hy h).2.1) rfl rfl (fun p h => hb.cell (hM.okb _ h).1) (fun _ h => h) (fun o x' _ h => ⟨x', h, AObj.like_refl _, rfl, rfl⟩)
    · obtain ⟨h1, h2, h3⟩ := hM.own i y b hy hbi
      exact ⟨h1, by have := hb.size; omega, h3⟩
    · obtain ⟨h1, h2⟩ := hM.okb b h
      exact ⟨by have := hb.size; omega, .inl h⟩
    · cases hr with
      | d _ _ hr => exact .d _ _ (hr.flat hd)
theorem cs_Has (o : Nat) (l : List ByteArray) (s : ByteArray) (hl : l.length ≤ 8796093022208) : CSpec Tryd.prog 26 [.arr o 0 l.length, .d (.str s)] [(o, .arr 9 1 (l.map strR))] (.d (.bool (hasB l s))) [(o, .arr 9 1 (l.map strR))] :=
  (sp_Has l s hl).toC o (by simp [AV.frz, frz1, List.take_of_length_le]) trivial
def woN (l gone : List ByteArray) : List ByteArray := l.filter fun s => !hasB gone s
theorem woN_len (l gone : List ByteArray) : (woN l gone).length ≤ l.length := List.length_filter_le _ _
def addN (l more : List ByteArray) : List ByteArray := more.foldl (fun l s => if hasB l s then l else l ++ [s]) l
theorem addN_len (more : List ByteArray) : ∀ l, (addN l more).length ≤ l.length + more.length := by
  induction more with
  | nil => intro l; simp [addN]
  | cons s more ih =>
    intro l
    have := ih (if hasB l s then l else l ++ [s])
    simp only [addN, List.foldl_cons, List.length_cons] at this ⊢
    refine Nat.le_trans this ?_
    split
    · omega
    · simp; omega
end Go.Proofs.YtapiiklnnkkdlaaDoor

namespace Go.Proofs.YtapiiklnnkkdlaaDoor
open Go.RowKit
set_option linter.unusedVariables false
set_option linter.unusedSimpArgs false
def endX (P : Program) (fn : Func) (r : Nat → AV) (x : Option AObj) : Exit → AS → Prop := fun e s => ∃ o, (∀ d, r d = (r o).ren (fun _ => d)) ∧ (∀ i ∈ (r o).ids, i = o) ∧ endQ P fn r x o e s
theorem endX.ret {P : Program} {fn : Func} {n : Nat} (o : Nat) {s : AS} {cs : List AV} {y : AObj} (h : resAV P s fn.results.toList = some cs) (hr : (resVal cs).nilD = .arr o 0 n) (hx : memGet s.mem o = some y) (ho : Nat.ble 500 o = false) : endX P fn (fun d => .arr d 0 n) (some y) .ret s :=
  ⟨o, fun _ => rfl, by simp [AV.ids, idsL], .inl rfl, s, Le.refl s, cs, h, hr, rfl, fun z hz => by cases hz; exact ⟨hx, ho⟩⟩
theorem PSpec.ofArrX {P : Program} {k : Nat} {fn : Func} {c : Code} (hf : P.funcs[k]? = some fn) (hnm : (fn.name == "runtime.NumGoroutine") = false) (hb : fn.body = some c) {args : List AV} (r : Nat → AV) {e : TypeId} {sz : Nat} {rows : List (List D)} (hn : args.length ≤ fn.ntmps)
    (hrcl : ∀ d, (r d).has (fun i => !(d == i)) = false) (h : AWp P c (endX P fn r (some (.arr e sz rows))) (startAS fn.ntmps args)) : PSpec P k args r (some (.arr e sz rows)) := by
  refine ⟨⟨fn, hf, hnm, by rw [hb]; rfl⟩, hrcl, (fun h => by cases h), fun y hy => ⟨e, sz, rows, by cases hy; rfl⟩, fun d w ok vals hgi hok hl hv => ?_⟩
  refine calls_of_wp hf hb ?_
  have hst : St ⟨w, ok, fun _ => False, noG⟩ (startAS fn.ntmps args) { tmps := vals ++ Array.replicate (fn.ntmps - vals.size) undef, defers := [] } w := by
    refine ⟨ok, noG, ⟨(fun o x hx => by cases hx), (fun i j xi xj b hi => by cases hi), (fun i x b hi => by cases hi), fun b hb => ⟨hok b hb, .inl hb⟩, fun b hb => hb, Nat.le_refl _, fun b _ _ => rfl, fun i _ => ⟨rfl, rfl⟩, rfl, rfl, rfl, hgi, fun _ _ h => h⟩, by simp [startAS]; omega, rfl, fun t => ?_⟩
    exact frStart (C := ⟨w, ok, fun _ => False, noG⟩) hl hn hv t
  refine wp_mono (h _ _ w hst) ?_
  rintro ex a' w' ⟨s, ⟨o, hren, hids, he, s', hle, cs, hres, hr, hrn, hx⟩, hs⟩
  obtain ⟨ok', g, hM, h1, h2, h3⟩ := hle _ _ _ hs
  obtain ⟨v, hv1, hv2⟩ := results_ok hM h3 hres
  obtain ⟨hxo, hxs⟩ := hx _ rfl
  have hv2 := hv2.nilD
  rw [hr, hrn] at hv2
  have hfin : a'.defers = [] ∧ ∃ v, (results fn a'.tmps).run P w' = .ok v w' ∧ ∃ v' ok' g', Ending.returned v = .returned v' ∧ Below w.heap.size w w' ∧ (∀ b, ok b → ok' b) ∧ (∀ b, ok' b → ok b ∨ (w.heap.size ≤ b ∧ b < w'.heap.size)) ∧ VR w' ok' g' (oneM d (some (.arr e sz rows))) (r d) v' ∧
      (∀ y, (some (.arr e sz rows) : Option AObj) = some y → OR w' ok' g' (oneM d (some (.arr e sz rows))) d y ∧ ∀ b, g'.bl d = some b → ¬ ok' b ∧ w.heap.size ≤ b ∧ b < w'.heap.size) := by
    refine ⟨h2, v, hv1, v, ok', ⟨fun _ => g.bl o, fun _ => g.cp o⟩, rfl, ⟨hM.os, hM.tape, hM.output, hM.size, fun b hb => hM.heap b hb (fun h => h)⟩, hM.okk, fun b hb => ?_, ?_, fun y hy => ?_⟩
    · obtain ⟨k1, k2⟩ := hM.okb b hb
      rcases k2 with k2 | k2
      · exact .inl k2
      · exact .inr ⟨k2, k1⟩
    · rw [hren d]
      refine VR.reren _ hv2 fun i hi => ?_
      have := hids i hi
      subst this
      exact ⟨_, hxo, by simp [oneM, AObj.ren], rfl, rfl⟩
    · cases hy
      have hO := hM.obj o _ hxo
      refine ⟨hO, fun b hb => ?_⟩
      obtain ⟨k1, k2, k3⟩ := hM.own o _ b hxo hb
      refine ⟨k1, ?_, k2⟩
      rcases k3 with k3 | ⟨k3, _⟩
      · exact k3
      · exact k3.elim
  rcases he with rfl | rfl
  · exact hfin
  · exact hfin
mutual
def Tm.free : Tm → List ByteArray
  | .mk k _ a _ _ xs cs => if k = 1 then [a] else if k = 6 ∧ xs.length = 2 then Tm.freeL a [] xs else Cs.frees (Tm.frees (if 8 ≤ k ∧ k ≤ 11 then [a] else []) xs) cs
def Tm.frees : List ByteArray → List Tm → List ByteArray
  | o, [] => o
  | o, x :: r => Tm.frees (addN o x.free) r
def Tm.freeL (a : ByteArray) : List ByteArray → List Tm → List ByteArray
  | o, [] => o
  | o, x :: r => Tm.freeB a (addN o x.free) r
def Tm.freeB (a : ByteArray) : List ByteArray → List Tm → List ByteArray
  | o, [] => o
  | o, x :: _ => addN o (woN x.free [a])
def Cs.frees : List ByteArray → List Cs → List ByteArray
  | o, [] => o
  | o, c :: r => Cs.frees (addN o c.freeC) r
def Cs.freeC : Cs → List ByteArray
  | .mk _ vs b => woN b.free vs
end
theorem Tm.frees_eq (l : List Tm) : ∀ o, Tm.frees o l = l.foldl (fun o x => addN o x.free) o := by
  induction l with
  | nil => intro o; simp [Tm.frees]
  | cons x r ih => intro o; simp [Tm.frees, ih]
theorem Cs.frees_eq (l : List Cs) : ∀ o, Cs.frees o l = l.foldl (fun o x => addN o x.freeC) o := by
  induction l with
  | nil => intro o; simp [Cs.frees]
  | cons x r ih => intro o; simp [Cs.frees, ih]
mutual
theorem Tm.free_len : ∀ t : Tm, t.free.length ≤ t.sz
  | .mk k n a b vs xs cs => by
    simp only [Tm.free, Tm.sz]
    split
    · simp; omega
    split
    · have := Tm.freeL_len a xs []
      simp at this; omega
    · have h1 := Tm.frees_len xs (if 8 ≤ k ∧ k ≤ 11 then [a] else [])
      have h2 := Cs.frees_len cs (Tm.frees (if 8 ≤ k ∧ k ≤ 11 then [a] else []) xs)
      have h3 : (if 8 ≤ k ∧ k ≤ 11 then [a] else []).length ≤ 1 := by split <;> simp
      omega
theorem Tm.frees_len : ∀ (l : List Tm) (o : List ByteArray), (Tm.frees o l).length ≤ o.length + Tm.szs l
  | [], o => by simp [Tm.frees]
  | x :: r, o => by
    have h1 := Tm.free_len x
    have h2 := Tm.frees_len r (addN o x.free)
    have h3 := addN_len x.free o
    simp only [Tm.frees, Tm.szs]
    omega
theorem Tm.freeL_len (a : ByteArray) : ∀ (l : List Tm) (o : List ByteArray), (Tm.freeL a o l).length ≤ o.length + Tm.szs l
  | [], o => by simp [Tm.freeL]
  | x :: r, o => by
    have h1 := Tm.free_len x
    have h2 := Tm.freeB_len a r (addN o x.free)
    have h3 := addN_len x.free o
    simp only [Tm.freeL, Tm.szs]
    omega
theorem Tm.freeB_len (a : ByteArray) : ∀ (l : List Tm) (o : List ByteArray), (Tm.freeB a o l).length ≤ o.length + Tm.szs l
  | [], o => by simp [Tm.freeB]
  | x :: r, o => by
    have h1 := Tm.free_len x
    have h3 := addN_len (woN x.free [a]) o
    have h4 := woN_len x.free [a]
    simp only [Tm.freeB, Tm.szs]
    omega
theorem Cs.frees_len : ∀ (l : List Cs) (o : List ByteArray), (Cs.frees o l).length ≤ o.length + Cs.szs l
  | [], o => by simp [Cs.frees]
  | x :: r, o => by
    have h1 := Cs.freeC_len x
    have h2 := Cs.frees_len r (addN o x.freeC)
    have h3 := addN_len x.freeC o
    simp only [Cs.frees, Cs.szs]
    omega
theorem Cs.freeC_len : ∀ (c : Cs), c.freeC.length ≤ c.sz
  | .mk t vs b => by
    have h1 := Tm.free_len b
    have h4 := woN_len b.free vs
    simp only [Cs.freeC, Cs.sz]
    omega
end
theorem Tm.szs_take {l : List Tm} {i : Nat} {x : Tm} (hx : l[i]? = some x) : Tm.szs (l.take i) + x.sz ≤ Tm.szs l := by
  induction l generalizing i with
  | nil => simp at hx
  | cons y r ih =>
    cases i with
    | zero => simp at hx; subst hx; simp [Tm.szs]
    | succ i => have := ih (i := i) (by simpa using hx); simp only [List.take_succ_cons, Tm.szs]; omega
theorem Cs.szs_take {l : List Cs} {i : Nat} {x : Cs} (hx : l[i]? = some x) : Cs.szs (l.take i) + x.sz ≤ Cs.szs l := by
  induction l generalizing i with
  | nil => simp at hx
  | cons y r ih =>
    cases i with
    | zero => simp at hx; subst hx; simp [Cs.szs]
    | succ i => have := ih (i := i) (by simpa using hx); simp only [List.take_succ_cons, Cs.szs]; omega
theorem Tm.frees_snoc {o : List ByteArray} {l : List Tm} {i : Nat} {x : Tm} (hx : l[i]? = some x) : Tm.frees o (l.take (i + 1)) = addN (Tm.frees o (l.take i)) x.free := by
  rw [List.take_add_one, hx]
  simp [Tm.frees_eq]
theorem Cs.frees_snoc {o : List ByteArray} {l : List Cs} {i : Nat} {x : Cs} (hx : l[i]? = some x) : Cs.frees o (l.take (i + 1)) = addN (Cs.frees o (l.take i)) x.freeC := by
  rw [List.take_add_one, hx]
  simp [Cs.frees_eq]
end Go.Proofs.YtapiiklnnkkdlaaDoor

namespace Go.Proofs.YtapiiklnnkkdlaaDoor
open Go.RowKit
attribute [local simp] runD mkRc ldOf stOf stOk ldArg noAny dstOk guardOk opEff opEff0 effOp pureOp callOp zEff evA constAV scalAV Value.oneCell' frGet memGet startAS frOf isGoCall idIn AS.after nextR opnIds objIds AV.ids idsL AObj.ids frNo memNo opnAny isAny mkVal rdCells wrCells fldAddr idxAddr srcRows litRows toD1 toDs setAt sliceAV optI partAV bldAV fillAV binAV binI AV.cells callEff calleeOf frKill memKill AV.kill AObj.kill AV.has AV.hasL Op.operands Call.operands keepF keepM viewIds cChk renOf moGet moWs moQ cEff moLike moHave AV.ren renL AObj.ren AObj.like kept startC moMem AV.frz frz1 frzL frSub memSub frzs AS.frz frFrz memFrz AObj.frz takeMap takeLen bleF Nat.ble_eq memAny objAny mapOp D.keyOk rowAV valRow extOp wrapOp phO frLow memLow memLow1 objLow memEmpty Low LowL
set_option linter.unusedVariables false
set_option linter.unusedSimpArgs false
theorem AWp.seqJ {P : Program} {Q : Exit → AS → Prop} {s : AS} {x y : Code} (s0 : AS) (h2 : AWp P y Q s0) (h1 : ∀ W : AS → Prop, (∀ s', Le s' s0 → W s') → AWp P x (thenQ W Q) s) : AWp P (.seq x y) Q s :=
  AWp.seq (h1 _ fun _ hl => AWp.le hl h2)
abbrev tmCells (k n : Int) (a b : ByteArray) (vs : List ByteArray) (xs : List Tm) (cs : List Cs) : List AV :=
  [.d (.int k), .d (.int n), .d (.str a), .d (.str b), .d (strsD vs), .d (.sl (xs.map Tm.row)), .d (.sl (cs.map Cs.row))]
def tmObj (k n : Int) (a b : ByteArray) (vs : List ByteArray) (xs : List Tm) (cs : List Cs) : Option AObj := some (.blk 34 (tmCells k n a b vs xs cs))
structure Tm.Fit (t : Tm) : Prop where
  ok : t.Ok
  sz : t.sz ≤ 1048576
theorem Tm.Fit.arg {k n : Int} {a b : ByteArray} {vs : List ByteArray} {xs : List Tm} {cs : List Cs} (h : (Tm.mk k n a b vs xs cs).Fit) {x : Tm} (hx : x ∈ xs) : x.Fit :=
  ⟨h.ok.arg hx, by have := Tm.sz_arg (k := k) (n := n) (a := a) (b := b) (vs := vs) (cs := cs) hx; have := h.sz; omega⟩
theorem Tm.Fit.case {k n : Int} {a b : ByteArray} {vs : List ByteArray} {xs : List Tm} {cs : List Cs} (h : (Tm.mk k n a b vs xs cs).Fit) {t : Int} {ws : List ByteArray} {x : Tm} (hx : Cs.mk t ws x ∈ cs) : x.Fit ∧ ws.length ≤ 8796093022207 :=
  ⟨⟨(h.ok.case hx).body.1, by have := Tm.sz_case (k := k) (n := n) (a := a) (b := b) (vs := vs) (xs := xs) hx; have := h.sz; omega⟩, (h.ok.case hx).body.2⟩
theorem sz_all {k n : Int} {a b : ByteArray} {vs : List ByteArray} {xs : List Tm} {cs : List Cs} (h : (Tm.mk k n a b vs xs cs).Fit) : 1 + Tm.szs xs + Cs.szs cs ≤ 1048576 := by
  have := h.sz
  simpa only [Tm.sz] using this
end Go.Proofs.YtapiiklnnkkdlaaDoor

namespace Go.Proofs.YtapiiklnnkkdlaaDoor
open Go.RowKit
attribute [local simp] runD mkRc ldOf stOf stOk ldArg noAny dstOk guardOk opEff opEff0 effOp pureOp callOp zEff evA constAV scalAV Value.oneCell' frGet memGet startAS frOf isGoCall idIn AS.after nextR opnIds objIds AV.ids idsL AObj.ids frNo memNo opnAny isAny mkVal rdCells wrCells fldAddr idxAddr srcRows litRows toD1 toDs setAt sliceAV optI partAV bldAV fillAV binAV binI AV.cells callEff calleeOf frKill memKill AV.kill AObj.kill AV.has AV.hasL Op.operands Call.operands keepF keepM viewIds cChk renOf moGet moWs moQ cEff moLike moHave AV.ren renL AObj.ren AObj.like kept startC moMem AV.frz frz1 frzL frSub memSub frzs AS.frz frFrz memFrz AObj.frz takeMap takeLen bleF Nat.ble_eq memAny objAny mapOp D.keyOk rowAV valRow extOp wrapOp phO
set_option linter.unusedVariables false
set_option linter.unusedSimpArgs false
theorem addN_woN (skip : List ByteArray) (l : List ByteArray) {L : List ByteArray} {i : Nat} {x : ByteArray} (hx : l[i]? = some x) :
    addN L (woN (l.take (i + 1)) skip) = if !hasB skip x && !hasB (addN L (woN (l.take i) skip)) x then addN L (woN (l.take i) skip) ++ [x] else addN L (woN (l.take i) skip) := by
  rw [List.take_add_one, hx]
  simp only [woN, List.filter_append, addN, List.foldl_append, Option.toList_some]
  cases h : hasB skip x
  · simp only [List.filter_cons, h, Bool.not_false, if_true, List.filter_nil, List.foldl_cons, List.foldl_nil, Bool.true_and]
    cases hasB (List.foldl (fun l s => if hasB l s = true then l else l ++ [s]) L (List.filter (fun s => !hasB skip s) (List.take i l))) x <;> rfl
  · simp [List.filter_cons, h]
set_option maxRecDepth 20000 in
set_option maxHeartbeats 4000000 in
theorem cs_Free1 (L l skip : List ByteArray) (hl : L.length + l.length ≤ 1048576) (hs : skip.length ≤ 8796093022207) :
    CSpec Tryd.prog 66 [strsAV l, strsAV skip, .ptr 1000 0] [(1000, .blk 30 [.arr 500 0 L.length]), (500, .arr 9 1 (L.map strR))] (resVal [])
      [(1000, .blk 30 [.arr 500 0 (addN L (woN l skip)).length]), (500, .arr 9 1 ((addN L (woN l skip)).map strR))] := by
  refine CSpec.of Tryd.func66 rfl rfl (Nat.le_of_ble_eq_true rfl) ?_
  show AWp _ _ (endC _ Tryd.f66 _ _) (startC 28 _ _)
  repeat (first | refine AWp.seq ?_ | refine AWp.block ?_)
  apply AWp.reg [] []
  · conv => lhs; simp
  · trivial
  repeat (first | refine AWp.seq ?_ | refine AWp.block ?_)
  refine AWp.loop (σ := fun u : {i : Nat // i ≤ l.length} => ⟨28, [(1, strsAV skip), (2, .ptr 1000 0), (7, strsAV l), (8, .d (.int l.length)), (9, .d (.int u.1))], [(1000, some (.blk 30 [.arr 500 0 (addN L (woN (l.take u.1) skip)).length])), (500, some (.arr 9 1 ((addN L (woN (l.take u.1) skip)).map strR)))]⟩)
    (μ := fun u => l.length - u.1) ⟨0, Nat.zero_le _⟩ (Le.sub (by simp [addN, woN]) (by simp [addN, woN])) (fun ⟨i, hi⟩ => ?_)
  dsimp only
  have hN := addN_len (woN (l.take i) skip) L
  have hw := woN_len (l.take i) skip
  have hti : (l.take i).length = i := by simp; omega
  have hS : ∀ x, l[i]? = some x → _ := fun x => addN_woN skip l (L := L) (i := i) (x := x)
  obtain ⟨M, hM⟩ : ∃ M, M = addN L (woN (l.take i) skip) := ⟨_, rfl⟩
  rw [← hM] at hN hS ⊢
  repeat (first | refine AWp.seq ?_ | refine AWp.block ?_)
  apply AWp.reg [] []
  · conv => lhs; simp
  · trivial
  repeat (first | refine AWp.seq ?_ | refine AWp.block ?_)
  refine AWp.cond rfl (fun h => ?_) (fun h => ?_)
  · have hi1 : i < l.length := by have := of_decide_eq_true h; omega
    have h1 : l[i]? = some l[i] := List.getElem?_eq_getElem hi1
    generalize l[i] = x at h1
    have hs1 := hS x h1
    have hp := sp_Has skip x (by omega)
    have hc := cs_Has 1001 M x (by omega)
    obtain ⟨A, hA⟩ : ∃ A, A = hasB skip x := ⟨_, rfl⟩
    obtain ⟨B, hB⟩ : ∃ B, B = hasB M x := ⟨_, rfl⟩
    rw [← hA, ← hB] at hs1
    rw [← hA] at hp
    rw [← hB] at hc
    refine AWp.skip ?_
    refine AWp.rg [] [] ?_ (hr := by conv => lhs; simp [h1])
    cases A with
    | true =>
      repeat (first | refine AWp.seq ?_ | refine AWp.block ?_)
      apply AWp.reg [] [.p (fun _ => .d (.bool true)) none, .c [(1001, 500)] [.arr 1001 0 M.length, .d (.str x)] [(1001, .arr 9 1 (M.map strR))] (.d (.bool B)) [(1001, .arr 9 1 (M.map strR))]]
      · conv => lhs; simp
      · exact hp
      refine AWp.cn ?_
      refine AWp.skip ?_
      refine AWp.rg [] [] ?_
      refine ⟨⟨i + 1, hi1⟩, by simp; omega, ?_⟩
      dsimp only
      rw [hs1]
      exact Le.sub (by simp) (by simp)
    | false =>
      cases B with
      | true =>
        repeat (first | refine AWp.seq ?_ | refine AWp.block ?_)
        apply AWp.reg [] [.p (fun _ => .d (.bool false)) none, .c [(1001, 500)] [.arr 1001 0 M.length, .d (.str x)] [(1001, .arr 9 1 (M.map strR))] (.d (.bool true)) [(1001, .arr 9 1 (M.map strR))]]
        · conv => lhs; simp
        · exact ⟨hp, hc⟩
        refine AWp.cn ?_
        refine AWp.skip ?_
        refine AWp.rg [] [] ?_
        refine ⟨⟨i + 1, hi1⟩, by simp; omega, ?_⟩
        dsimp only
        rw [hs1]
        exact Le.sub (by simp) (by simp)
      | false =>
        repeat (first | refine AWp.seq ?_ | refine AWp.block ?_)
        apply AWp.reg [] [.p (fun _ => .d (.bool false)) none, .c [(1001, 500)] [.arr 1001 0 M.length, .d (.str x)] [(1001, .arr 9 1 (M.map strR))] (.d (.bool false)) [(1001, .arr 9 1 (M.map strR))]]
        · conv => lhs; simp
        · exact ⟨hp, hc⟩
        refine AWp.cy ?_
        refine AWp.rg [] [] ?_
        refine AWp.rg [] [] ?_
        refine ⟨⟨i + 1, hi1⟩, by simp; omega, ?_⟩
        dsimp only
        rw [hs1]
        exact Le.sub (by simp) (by simp)
  have hi1 : i = l.length := by have := of_decide_eq_false h; omega
  subst hi1
  rw [List.take_length] at hM
  refine AWp.exit ?_
  rw [← hM]
  try dsimp only [thenQ, blockQ]
  apply endC.normal
  · rfl
  · conv => lhs; simp [resAV, Tryd.results66]
  · rfl
  · simp [moEnd, memGet]
end Go.Proofs.YtapiiklnnkkdlaaDoor
