/- slices.Clone of names; scope.Own, scope.Fns, by the abstract machine. -/
import Derived.Test.YtialccgjbanmcaaDoorTermB
namespace Go.Proofs.YtialccgjbanmcaaDoor
open Go.RowKit
attribute [local simp] runD mkRc ldOf ldArg noAny dstOk guardOk opEff opEff0 effOp pureOp callOp zEff evA constAV frGet memGet startAS frOf isGoCall idIn AS.after nextR opnIds objIds AV.ids idsL AObj.ids frNo memNo opnAny isAny mkVal rdCells wrCells fldAddr idxAddr srcRows litRows toD1 toDs setAt sliceAV optI partAV bldAV fillAV binAV binI AV.cells callEff calleeOf frKill memKill AV.kill AObj.kill AV.has AV.hasL Op.operands Call.operands keepF keepM viewIds cChk renOf moGet moWs moQ cEff moLike moHave AV.ren renL AObj.ren AObj.like kept startC moMem AV.frz frz1 frzL frSub memSub frzs AS.frz frFrz memFrz AObj.frz takeMap takeLen bleF Nat.ble_eq memAny objAny mapOp D.keyOk rowAV valRow extOp wrapOp phO frLow memLow memLow1 objLow memEmpty Low LowL
set_option linter.unusedVariables false
set_option linter.unusedSimpArgs false

theorem endQ.retA {P : Program} {fn : Func} {r : Nat → AV} {o : Nat} {s : AS} {cs : List AV} {y : AObj} (hrn : (r o).nilD = r o) (h : resAV P s fn.results.toList = some cs) (hr : (resVal cs).nilD = (r o).nilD) (hx : memGet s.mem o = some y) (ho : Nat.ble 500 o = false) : endQ P fn r (some y) o .ret s :=
  ⟨.inl rfl, s, Le.refl s, cs, h, hr, hrn, fun z hz => by cases hz; exact ⟨hx, ho⟩⟩

set_option maxHeartbeats 1000000 in
theorem sp_Clone (l : List ByteArray) (hl : l.length ≤ 8796093022208) : PSpec Tryd.prog 52 [strsAV l] (fun d => .arr d 0 l.length) (some (.arr 9 1 (l.map strR))) := by
  refine PSpec.ofArr Tryd.func52 rfl rfl _ 5 (Nat.le_of_ble_eq_true rfl) (fun _ => rfl) (by simp [AV.ids, idsL]) (fun d => by simp [AV.has, AV.hasL]) ?_
  show AWp _ _ (endQ _ Tryd.f52 _ _ _) (startAS 8 _)
  repeat (first | refine AWp.seq ?_ | refine AWp.block ?_)
  apply AWp.reg [] []
  · conv => lhs; simp
  · trivial
  cases l with
  | nil =>
    repeat (first | refine AWp.seq ?_ | refine AWp.block ?_)
    apply AWp.reg [] []
    · conv => lhs; simp [strsAV, strsD]
    · trivial
    repeat (first | refine AWp.seq ?_ | refine AWp.block ?_)
    refine AWp.condU rfl ?_ ?_
    · repeat (first | refine AWp.seq ?_ | refine AWp.block ?_)
      apply AWp.reg [] []
      · conv => lhs; simp
      · trivial
      refine AWp.le (Le.low [5] [] (fr := [(2, .arr 5 0 0)]) (mem := [(5, some (.arr 9 1 []))]) rfl (by simp) (by simp)) ?_
      refine AWp.ret ?_
      try dsimp only [thenQ, blockQ]
      apply endQ.retA
      · rfl
      · conv => lhs; simp [resAV, Tryd.results52]
      · rfl
      · rfl
      · rfl
    · refine AWp.skip ?_
      repeat (first | refine AWp.seq ?_ | refine AWp.block ?_)
      apply AWp.reg [] []
      · conv => lhs; simp
      · first | trivial | omega | (simp [inI, maxLen]; done) | (simp [inI, maxLen]; omega)
      refine AWp.ret ?_
      try dsimp only [thenQ, blockQ]
      apply endQ.retA
      · rfl
      · conv => lhs; simp [resAV, Tryd.results52]
      · rfl
      · rfl
      · rfl
  | cons s l =>
    simp only [List.length_cons] at hl
    repeat (first | refine AWp.seq ?_ | refine AWp.block ?_)
    apply AWp.reg [] []
    · conv => lhs; simp [strsAV, strsD]
    · trivial
    repeat (first | refine AWp.seq ?_ | refine AWp.block ?_)
    refine AWp.cond rfl (fun h => ?_) (fun h => ?_)
    · cases h
    refine AWp.skip ?_
    repeat (first | refine AWp.seq ?_ | refine AWp.block ?_)
    apply AWp.reg [] []
    · conv => lhs; simp [strsAV, strsD]
    · exact ⟨rows_len (row := strR) (fun _ => rfl) (s :: l), by simp [maxLen]; omega, by omega⟩
    refine AWp.ret ?_
    try dsimp only [thenQ, blockQ]
    apply endQ.retA
    · rfl
    · conv => lhs; simp [resAV, Tryd.results52]
    · rfl
    · rfl
    · rfl

def owMem (k n : Int) (a b : ByteArray) (vs : List ByteArray) (xs : List Tm) (cs : List Cs) : List (Nat × Option AObj) :=
  [(1, some (.blk 32 [.d (.int k), .d (.int n), .d (.str a), .d (.str b), .d (strsD vs), .d (.sl (xs.map Tm.row)), .d (.sl (cs.map Cs.row))])),
   (2, some (.blk 32 [.d (.int 0), .d (.int 0), .d (.str ByteArray.empty), .d (.str ByteArray.empty), .lit (.slice none 0 0), .lit (.slice none 0 0), .lit (.slice none 0 0)]))]

set_option maxRecDepth 20000 in
set_option maxHeartbeats 8000000 in
theorem sp_Own_at : ∀ (N : Nat) (t : Tm), t.sz < N → t.Ok → PSpec Tryd.prog 54 [tmAV t] (fun _ => tmAV t) none := by
  intro N
  induction N with
  | zero => intro s h; omega
  | succ N ih =>
  intro t hN hO
  obtain ⟨k, n, a, b, vs, xs, cs⟩ := t
  obtain ⟨o1, o2, o3, o4, o5⟩ := hO.vars
  have hcl := sp_Clone vs (by omega)
  refine PSpec.of Tryd.func54 rfl rfl rfl (Nat.le_of_ble_eq_true rfl) ?_
  show AWp _ _ (endQ _ Tryd.f54 _ _ _) (startAS 51 _)
  repeat (first | refine AWp.seq ?_ | refine AWp.block ?_)
  apply AWp.reg [] []
  · conv => lhs; simp
  · trivial
  repeat (first | refine AWp.seq ?_ | refine AWp.block ?_)
  apply AWp.reg [2] [.p (fun d => .arr d 0 vs.length) (some (.arr 9 1 (vs.map strR)))]
  · conv => lhs; simp [strsAV]
  · exact hcl
  repeat (first | refine AWp.seq ?_ | refine AWp.block ?_)
  apply AWp.reg [] []
  · conv => lhs; simp
  · trivial
  repeat (first | refine AWp.seq ?_ | refine AWp.block ?_)
  apply AWp.reg [] []
  · conv => lhs; simp
  · trivial
  repeat (first | refine AWp.seq ?_ | refine AWp.block ?_)
  refine AWp.le (Le.low [400] [] (fr := [(1, .ptr 1 0), (2, .ptr 2 0), (3, .arr 400 0 0), (14, .d (.sl (xs.map Tm.row))), (15, .d (.int xs.length)), (16, .d (.int 0))]) (mem := (400, some (.arr 32 7 [])) :: owMem k n a b vs xs cs) rfl (by simp) (by simp [owMem])) ?_
  refine AWp.loop (σ := fun u : {i : Nat // i ≤ xs.length} => ⟨51, [(1, .ptr 1 0), (2, .ptr 2 0), (3, .arr 400 0 u.1), (14, .d (.sl (xs.map Tm.row))), (15, .d (.int xs.length)), (16, .d (.int u.1))], (400, some (.arr 32 7 ((xs.map Tm.row).take u.1))) :: owMem k n a b vs xs cs⟩)
    (μ := fun u => xs.length - u.1) ⟨0, Nat.zero_le _⟩ (Le.refl _) (fun ⟨i, hi⟩ => ?_)
  dsimp only
  repeat (first | refine AWp.seq ?_ | refine AWp.block ?_)
  apply AWp.reg [] []
  · conv => lhs; simp
  · trivial
  repeat (first | refine AWp.seq ?_ | refine AWp.block ?_)
  refine AWp.cond rfl (fun h => ?_) (fun h => ?_)
  · have hi1 : i < xs.length := by have := of_decide_eq_true h; omega
    have h1 : xs[i]? = some xs[i] := List.getElem?_eq_getElem hi1
    have hmem : xs[i] ∈ xs := List.getElem_mem hi1
    generalize xs[i] = x at h1 hmem
    have hp := ih x (by have := Tm.sz_arg (k := k) (n := n) (a := a) (b := b) (vs := vs) (cs := cs) hmem; omega) (hO.arg hmem)
    have ht : (xs.map Tm.row).take (i + 1) = (xs.map Tm.row).take i ++ [x.row] := by rw [List.take_add_one, List.getElem?_map, h1]; rfl
    have hl : ((xs.map Tm.row).take i).length = i := by simp; omega
    refine AWp.skip ?_
    obtain ⟨xk, xn, xa, xb, xv, xx, xc⟩ := x
    repeat (first | refine AWp.seq ?_ | refine AWp.block ?_)
    apply AWp.reg [] []
    · conv => lhs; simp [h1, Tm.row, Tm.rows_eq, Cs.rows_eq]
    · first | trivial | omega | (simp [inI, maxLen]; done) | (simp [inI, maxLen]; omega)
    repeat (first | refine AWp.seq ?_ | refine AWp.block ?_)
    apply AWp.reg [] [.p (fun _ => tmAV (.mk xk xn xa xb xv xx xc)) none]
    · conv => lhs; simp [tmAV]
    · exact ⟨hp, by omega, by simp [maxLen]; omega, by omega⟩
    repeat (first | refine AWp.seq ?_ | refine AWp.block ?_)
    apply AWp.reg [] []
    · conv => lhs; simp
    · first | trivial | omega | (simp [inI, maxLen]; done) | (simp [inI, maxLen]; omega)
    refine ⟨⟨i + 1, hi1⟩, by simp; omega, ?_⟩
    dsimp only
    rw [ht]
    exact Le.sub (by simp [Nat.min_eq_left hi]) (by simp [owMem, Tm.row, Tm.rows_eq, Cs.rows_eq])
  have hi1 : i = xs.length := by have := of_decide_eq_false h; omega
  subst hi1
  refine AWp.exit ?_
  rw [show (xs.map Tm.row).take xs.length = xs.map Tm.row from List.take_of_length_le (by simp)]
  repeat (first | refine AWp.seq ?_ | refine AWp.block ?_)
  apply AWp.reg [] []
  · conv => lhs; simp
  · trivial
  repeat (first | refine AWp.seq ?_ | refine AWp.block ?_)
  apply AWp.reg [] []
  · conv => lhs; simp [owMem]
  · trivial
  repeat (first | refine AWp.seq ?_ | refine AWp.block ?_)
  refine AWp.le (Le.low [401] [] (fr := [(1, .ptr 1 0), (2, .ptr 2 0), (3, .arr 400 0 xs.length), (6, .arr 401 0 0), (27, .d (.sl (cs.map Cs.row))), (28, .d (.int cs.length)), (29, .d (.int 0))]) (mem := (401, some (.arr 50 9 [])) :: (400, some (.arr 32 7 (xs.map Tm.row))) :: owMem k n a b vs xs cs) rfl (by simp) (by simp [owMem])) ?_
  refine AWp.loop (σ := fun u : {i : Nat // i ≤ cs.length} => ⟨51, [(1, .ptr 1 0), (2, .ptr 2 0), (3, .arr 400 0 xs.length), (6, .arr 401 0 u.1), (27, .d (.sl (cs.map Cs.row))), (28, .d (.int cs.length)), (29, .d (.int u.1))], (401, some (.arr 50 9 ((cs.map Cs.row).take u.1))) :: (400, some (.arr 32 7 (xs.map Tm.row))) :: owMem k n a b vs xs cs⟩)
    (μ := fun u => cs.length - u.1) ⟨0, Nat.zero_le _⟩ (Le.refl _) (fun ⟨i, hi⟩ => ?_)
  dsimp only
  clear h
  repeat (first | refine AWp.seq ?_ | refine AWp.block ?_)
  apply AWp.reg [] []
  · conv => lhs; simp
  · trivial
  repeat (first | refine AWp.seq ?_ | refine AWp.block ?_)
  refine AWp.cond rfl (fun h => ?_) (fun h => ?_)
  · have hi1 : i < cs.length := by have := of_decide_eq_true h; omega
    have h1 : cs[i]? = some cs[i] := List.getElem?_eq_getElem hi1
    have hmem : cs[i] ∈ cs := List.getElem_mem hi1
    generalize cs[i] = x at h1 hmem
    have ht : (cs.map Cs.row).take (i + 1) = (cs.map Cs.row).take i ++ [x.row] := by rw [List.take_add_one, List.getElem?_map, h1]; rfl
    have hl : ((cs.map Cs.row).take i).length = i := by simp; omega
    obtain ⟨g, ws, x⟩ := x
    obtain ⟨oc1, oc2⟩ := (hO.case hmem).body
    have hp := ih x (by have := Tm.sz_case (k := k) (n := n) (a := a) (b := b) (vs := vs) (xs := xs) hmem; omega) oc1
    have hcw := sp_Clone ws (by omega)
    obtain ⟨xk, xn, xa, xb, xv, xx, xc⟩ := x
    refine AWp.skip ?_
    repeat (first | refine AWp.seq ?_ | refine AWp.block ?_)
    apply AWp.reg [] []
    · conv => lhs; simp [h1, Cs.row, Tm.row, Tm.rows_eq, Cs.rows_eq]
    · first | trivial | omega | (simp [inI, maxLen]; done) | (simp [inI, maxLen]; omega)
    repeat (first | refine AWp.seq ?_ | refine AWp.block ?_)
    apply AWp.draw [5] [.p (fun d => .arr d 0 ws.length) (some (.arr 9 1 (ws.map strR))), .p (fun _ => tmAV (.mk xk xn xa xb xv xx xc)) none] mixed
    · conv => lhs; simp [strsAV]
    · kernel_rfl
    · exact ⟨hcw, hp, by omega, by simp [maxLen]; omega, by omega⟩
    repeat (first | refine AWp.seq ?_ | refine AWp.block ?_)
    apply AWp.reg [] []
    · conv => lhs; simp
    · first | trivial | omega | (simp [inI, maxLen]; done) | (simp [inI, maxLen]; omega)
    refine ⟨⟨i + 1, hi1⟩, by simp; omega, ?_⟩
    dsimp only
    rw [ht]
    exact Le.sub (by simp [Nat.min_eq_left hi]) (by simp [owMem, Cs.row, Tm.row, Tm.rows_eq, Cs.rows_eq])
  have hi1 : i = cs.length := by have := of_decide_eq_false h; omega
  subst hi1
  refine AWp.exit ?_
  rw [show (cs.map Cs.row).take cs.length = cs.map Cs.row from List.take_of_length_le (by simp)]
  repeat (first | refine AWp.seq ?_ | refine AWp.block ?_)
  apply AWp.reg [] []
  · conv => lhs; simp [owMem]
  · trivial
  repeat (first | refine AWp.seq ?_ | refine AWp.block ?_)
  apply AWp.reg [] []
  · conv => lhs; simp
  · trivial
  refine AWp.ret ?_
  try dsimp only [thenQ, blockQ]
  apply endQ.retF [400, 401]
  · rfl
  · conv => lhs; simp
  · conv => lhs; simp [resAV, Tryd.results54]
  rfl

theorem sp_Own (t : Tm) (h : t.Ok) : PSpec Tryd.prog 54 [tmAV t] (fun _ => tmAV t) none := sp_Own_at _ t (Nat.lt_succ_self _) h

end Go.Proofs.YtialccgjbanmcaaDoor
