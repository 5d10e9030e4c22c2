import Derived.Test.YtapiiklnnkkdlaaDoorNameE
import Derived.Test.YtapiiklnnkkdlaaDoorFreeD
import Derived.Test.YtapiiklnnkkdlaaDoorNameB
import Derived.RangeFuncNested
import Derived.RangeFuncWrites
import Derived.RangeFuncBound
import Derived.RangeFuncCalls
import Derived.RangeFuncLeaves
import Derived.RangeFuncBox
import Derived.Shelf.Abstract
import Derived.WalkKit
import Derived.OwnWalkIn
import Derived.TacticsInMore
import Derived.LoopNIn
import Derived.LoopIn
/- names.Fn. Printed by a small program. -/
namespace Go.Proofs.YtapiiklnnkkdlaaDoor
open Go.RowKit
attribute [local simp] runD mkRc ldOf stOf stOk ldArg noAny dstOk guardOk opEff opEff0 effOp pureOp callOp zEff evA constAV scalAV Value.oneCell' frGet memGet startAS frOf isGoCall idIn AS.after nextR opnIds objIds AV.ids idsL AObj.ids frNo memNo opnAny isAny mkVal rdCells wrCells fldAddr idxAddr srcRows litRows toD1 toDs setAt sliceAV optI partAV bldAV fillAV binAV binI AV.cells callEff calleeOf frKill memKill AV.kill AObj.kill AV.has AV.hasL Op.operands Call.operands keepF keepM viewIds cChk renOf moGet moWs moQ cEff moLike moHave AV.ren renL AObj.ren AObj.like kept startC moMem AV.frz frz1 frzL frSub memSub frzs AS.frz frFrz memFrz AObj.frz takeMap takeLen bleF Nat.ble_eq memAny objAny mapOp D.keyOk rowAV valRow extOp wrapOp phO frLow memLow memLow1 objLow memEmpty Low LowL
set_option linter.unusedVariables false
set_option linter.unusedSimpArgs false
set_option maxRecDepth 20000 in
set_option maxHeartbeats 16000000 in
theorem cs_fn1 (ps : Ps) (c c2 : Int) (us fps : List ByteArray) (fg : ByteArray) (fk fn zk zn : Int) (fa fb za zb : ByteArray) (fvs zvs : List ByteArray) (fxs zxs : List Tm) (fcs zcs : List Cs)
    (hx : CSpec Tryd.prog 106 [.ptr 1000 0, tmAV (.mk fk fn fa fb fvs fxs fcs)] [(1000, chO ps.length c), (500, frO ps), (501, toO ps)] (tmAV (.mk zk zn za zb zvs zxs zcs)) [(1000, chO ps.length c2), (500, frO ps), (501, toO ps)]) :
    CSpec Tryd.prog 105 [strsAV us, .ptr 1001 0, .ptr 1002 0, .ptr 1003 0] [(1000, .blk 113 [.arr 500 0 ps.length, .arr 501 0 ps.length, .d (.int c)]), (500, .arr 9 1 (ps.map frR)), (501, .arr 9 1 (ps.map toR)), (1001, .blk 36 [.d (.str fg), .lit (.slice none 0 0), .d (.int 0), .d (.int 0), .d (.str ByteArray.empty), .d (.str ByteArray.empty), .lit (.slice none 0 0), .lit (.slice none 0 0), .lit (.slice none 0 0)]), (1002, .blk 111 [.ptr 1000 0]), (1003, .blk 36 [.d (.str fg), .d (strsD fps), .d (.int fk), .d (.int fn), .d (.str fa), .d (.str fb), .d (strsD fvs), .d (.sl (fxs.map Tm.row)), .d (.sl (fcs.map Cs.row))])] (.tuple []) [(1000, .blk 113 [.arr 500 0 ps.length, .arr 501 0 ps.length, .d (.int c2)]), (500, .arr 9 1 (ps.map frR)), (501, .arr 9 1 (ps.map toR)), (1001, .blk 36 [.d (.str fg), .d (strsD us), .d (.int zk), .d (.int zn), .d (.str za), .d (.str zb), .d (strsD zvs), .d (.sl (zxs.map Tm.row)), .d (.sl (zcs.map Cs.row))]), (1002, .blk 111 [.ptr 1000 0]), (1003, .blk 36 [.d (.str fg), .d (strsD fps), .d (.int fk), .d (.int fn), .d (.str fa), .d (.str fb), .d (strsD fvs), .d (.sl (fxs.map Tm.row)), .d (.sl (fcs.map Cs.row))])] := by
  refine CSpec.of Tryd.func105 rfl rfl (Nat.le_of_ble_eq_true rfl) ?_
  show AWp _ _ (endC _ Tryd.f105 _ _) (startC 12 _ _)
  refine AWp.rg [] [] ?_ (hr := by conv => lhs; simp [Tm.row, Tm.rows_eq, Cs.rows_eq])
  refine AWp.rg [] [.c [] [.ptr 1000 0, .agg [.d (.int fk), .d (.int fn), .d (.str fa), .d (.str fb), .d (strsD fvs), .d (.sl (fxs.map Tm.row)), .d (.sl (fcs.map Cs.row))]] [(1000, .blk 113 [.arr 500 0 ps.length, .arr 501 0 ps.length, .d (.int c)]), (500, .arr 9 1 (ps.map frR)), (501, .arr 9 1 (ps.map toR))] (.agg [.d (.int zk), .d (.int zn), .d (.str za), .d (.str zb), .d (strsD zvs), .d (.sl (zxs.map Tm.row)), .d (.sl (zcs.map Cs.row))]) [(1000, .blk 113 [.arr 500 0 ps.length, .arr 501 0 ps.length, .d (.int c2)]), (500, .arr 9 1 (ps.map frR)), (501, .arr 9 1 (ps.map toR))]] ?_ (hr := by conv => lhs; simp [Tm.row, Tm.rows_eq, Cs.rows_eq])
  try dsimp only [thenQ, blockQ]
  apply endC.normal
  · rfl
  · conv => lhs; simp [resAV, Tryd.results105]
  · rfl
  · simp [moEnd, memGet]
set_option maxRecDepth 20000 in
set_option maxHeartbeats 16000000 in
theorem sp_NFn (f : Fn) (hb : f.body.Ok) (hr : f.body.Rt 25) (hp : f.params.length ≤ 6) : PSpec Tryd.prog 60 [fnAV f] (fun _ => fnAV f.rn) none := by
  have hx := term_all 25 f.body (f.params.zip (freshL f.params 0)) (freshC f.params 0) hr hb (by rw [List.length_zip]; omega)
  unfold Fn.rn
  obtain ⟨fg, fps, fy⟩ := f
  dsimp only at *
  obtain ⟨us, hus⟩ : ∃ us, us = freshL fps 0 := ⟨_, rfl⟩
  obtain ⟨e, he⟩ : ∃ e, e = freshC fps 0 := ⟨_, rfl⟩
  rw [← hus, ← he] at hx ⊢
  obtain ⟨qs, hqs⟩ : ∃ qs, qs = fps.zip us := ⟨_, rfl⟩
  rw [← hqs] at hx ⊢
  generalize fy.rn qs e = o at hx ⊢
  obtain ⟨z, c2⟩ := o
  dsimp only at *
  obtain ⟨fk, fn, fa, fb, fvs, fxs, fcs⟩ := fy
  obtain ⟨zk, zn, za, zb, zvs, zxs, zcs⟩ := z
  have hbd := cs_bind0 [] qs fps 0 c2 fg fps us fk fn zk zn fa fb za zb fvs zvs fxs zxs fcs zcs hp (by simp; omega) (by rw [hqs, hus]; rfl) (by
    rw [← hus, ← he]
    exact cs_fn1 qs e c2 us fps fg fk fn zk zn fa fb za zb fvs zvs fxs zxs fcs zcs hx)
  simp only [List.length_nil, List.map_nil] at hbd
  refine PSpec.of Tryd.func60 rfl rfl rfl (Nat.le_of_ble_eq_true rfl) ?_
  show AWp _ _ (endQ _ Tryd.f60 _ _ _) (startAS 16 _)
  refine AWp.rg [] [] ?_ (hr := by conv => lhs; simp [fnAV, Tm.row, Tm.rows_eq, Cs.rows_eq])
  refine AWp.rg [] [] ?_ (hr := by conv => lhs; simp [fnAV, Tm.row, Tm.rows_eq, Cs.rows_eq])
  refine AWp.rg [] [] ?_ (hr := by conv => lhs; simp [fnAV, Tm.row, Tm.rows_eq, Cs.rows_eq])
  repeat (first | refine AWp.seq ?_ | refine AWp.block ?_)
  refine AWp.le (Le.low [400, 401] [] (fr := [(1, .ptr 1 0), (2, .ptr 2 0), (3, .ptr 3 0), (4, .ptr 4 0)]) (mem := [(1, some (.blk 36 [.d (.str fg), .d (strsD fps), .d (.int fk), .d (.int fn), .d (.str fa), .d (.str fb), .d (strsD fvs), .d (.sl (fxs.map Tm.row)), .d (.sl (fcs.map Cs.row))])), (2, some (.blk 36 [.d (.str ByteArray.empty), .lit (.slice none 0 0), .d (.int 0), .d (.int 0), .d (.str ByteArray.empty), .d (.str ByteArray.empty), .lit (.slice none 0 0), .lit (.slice none 0 0), .lit (.slice none 0 0)])), (3, some (.blk 111 [.ptr 6 0])), (4, some (.blk 36 [.d (.str fg), .lit (.slice none 0 0), .d (.int 0), .d (.int 0), .d (.str ByteArray.empty), .d (.str ByteArray.empty), .lit (.slice none 0 0), .lit (.slice none 0 0), .lit (.slice none 0 0)])), (6, some (.blk 113 [.arr 400 0 0, .arr 401 0 0, .d (.int 0)])), (400, some (.arr 9 1 [])), (401, some (.arr 9 1 []))]) rfl (by simp) (by simp)) ?_
  refine AWp.rg [] [.c [(1000, 6), (500, 400), (501, 401), (1001, 4), (1002, 3), (1003, 1)] [.ptr 1000 0, .d (strsD fps), .clo 105 [.ptr 1001 0, .ptr 1002 0, .ptr 1003 0]] [(1000, .blk 113 [.arr 500 0 0, .arr 501 0 0, .d (.int 0)]), (500, .arr 9 1 ([])), (501, .arr 9 1 ([])), (1001, .blk 36 [.d (.str fg), .lit (.slice none 0 0), .d (.int 0), .d (.int 0), .d (.str ByteArray.empty), .d (.str ByteArray.empty), .lit (.slice none 0 0), .lit (.slice none 0 0), .lit (.slice none 0 0)]), (1002, .blk 111 [.ptr 1000 0]), (1003, .blk 36 [.d (.str fg), .d (strsD fps), .d (.int fk), .d (.int fn), .d (.str fa), .d (.str fb), .d (strsD fvs), .d (.sl (fxs.map Tm.row)), .d (.sl (fcs.map Cs.row))])] (.tuple []) [(1000, .blk 113 [.arr 500 0 0, .arr 501 0 0, .d (.int c2)]), (500, .arr 9 1 ([])), (501, .arr 9 1 ([])), (1001, .blk 36 [.d (.str fg), .d (strsD us), .d (.int zk), .d (.int zn), .d (.str za), .d (.str zb), .d (strsD zvs), .d (.sl (zxs.map Tm.row)), .d (.sl (zcs.map Cs.row))]), (1002, .blk 111 [.ptr 1000 0]), (1003, .blk 36 [.d (.str fg), .d (strsD fps), .d (.int fk), .d (.int fn), .d (.str fa), .d (.str fb), .d (strsD fvs), .d (.sl (fxs.map Tm.row)), .d (.sl (fcs.map Cs.row))])]] ?_ (hr := by conv => lhs; simp [fnAV, Tm.row, Tm.rows_eq, Cs.rows_eq])
  refine AWp.rg [] [] ?_ (hr := by conv => lhs; simp [fnAV, Tm.row, Tm.rows_eq, Cs.rows_eq])
  refine AWp.ret ?_
  try dsimp only [thenQ, blockQ]
  apply endQ.ret
  · rfl
  · conv => lhs; simp [resAV, Tryd.results60]
  rfl

set_option maxRecDepth 20000 in
set_option maxHeartbeats 16000000 in
theorem sp_All (l : List Fn) (hl : l.length ≤ 879609302220) (hall : ∀ f ∈ l, f.body.Ok ∧ f.body.Rt 25 ∧ f.params.length ≤ 6) : PSpec Tryd.prog 21 [fnsAV l] (fun _ => fnsAV (l.map Fn.rn)) none := by
  obtain ⟨G, hG⟩ : ∃ G, G = l.map Fn.rn := ⟨_, rfl⟩
  rw [← hG]
  refine PSpec.of Tryd.func21 rfl rfl rfl (Nat.le_of_ble_eq_true rfl) ?_
  show AWp _ _ (endQ _ Tryd.f21 _ _ _) (startAS 19 _)
  refine AWp.rg [] [] ?_ (hr := by conv => lhs; simp [Fn.row, Tm.row, Tm.rows_eq, Cs.rows_eq])
  refine AWp.rg [] [] ?_ (hr := by conv => lhs; simp [Fn.row, Tm.row, Tm.rows_eq, Cs.rows_eq])
  refine AWp.rg [] [] ?_ (hr := by conv => lhs; simp [Fn.row, Tm.row, Tm.rows_eq, Cs.rows_eq])
  repeat (first | refine AWp.seq ?_ | refine AWp.block ?_)
  refine AWp.le (Le.low [400] [] (fr := [(3, .arr 400 0 ([] : List Fn).length), (6, .d (.sl (l.map Fn.row))), (7, .d (.int (l.length : Int))), (8, .d (.int (0 : Int)))]) (mem := [(400, some (.arr 36 9 (([] : List Fn).map Fn.row)))]) rfl (by simp) (by simp)) ?_
  refine AWp.loop (σ := fun u : {u : Nat × List Fn // u.1 ≤ l.length ∧ u.2 = (l.take u.1).map Fn.rn} => ⟨19, [(3, .arr 400 0 u.1.2.length), (6, .d (.sl (l.map Fn.row))), (7, .d (.int (l.length : Int))), (8, .d (.int (u.1.1 : Int)))], [(400, some (.arr 36 9 (u.1.2.map Fn.row)))]⟩)
    (μ := fun u => l.length - u.1.1) ⟨(0, []), ⟨Nat.zero_le _, by simp⟩⟩ (Le.sub (by simp) (by simp)) (fun ⟨(i, gs), ⟨hi3, hw⟩⟩ => ?_)
  dsimp only at hi3 hw ⊢
  refine AWp.rg [] [] ?_ (hr := by conv => lhs; simp [Fn.row, Tm.row, Tm.rows_eq, Cs.rows_eq])
  repeat (first | refine AWp.seq ?_ | refine AWp.block ?_)
  refine AWp.cond rfl (fun hc => ?_) (fun hc => ?_)
  · have hi1 : i < l.length := by have := of_decide_eq_true hc; omega
    clear hc
    have h1f : l[i]? = some l[i] := List.getElem?_eq_getElem hi1
    have hmf : l[i] ∈ l := List.getElem_mem hi1
    have hdf : l.drop i = l[i] :: l.drop (i + 1) := List.drop_eq_getElem_cons hi1
    generalize l[i] = f at h1f hmf hdf
    have hgl : gs.length = i := by rw [hw, List.length_map, List.length_take]; omega
    obtain ⟨k1, k2, k3⟩ := hall f hmf
    have hx := sp_NFn f k1 k2 k3
    generalize hz : f.rn = z at hx
    obtain ⟨fg, fps, ⟨fk, fn, fa, fb, fvs, fxs, fcs⟩⟩ := f
    obtain ⟨zg, zps, ⟨zk, zn, za, zb, zvs, zxs, zcs⟩⟩ := z
    dsimp only [fnAV] at hx
    refine AWp.skip ?_
    refine AWp.rg [] [] ?_ (hr := by conv => lhs; simp [Fn.row, Tm.row, Tm.rows_eq, Cs.rows_eq, h1f])
    refine AWp.rg [] [.p (fun _ => .agg [.d (.str zg), .d (strsD zps), .d (.int zk), .d (.int zn), .d (.str za), .d (.str zb), .d (strsD zvs), .d (.sl (zxs.map Tm.row)), .d (.sl (zcs.map Cs.row))]) none] ?_ (hr := by conv => lhs; simp [Fn.row, Tm.row, Tm.rows_eq, Cs.rows_eq, h1f])
    refine AWp.rg [] [] ?_ (hr := by conv => lhs; simp [Fn.row, Tm.row, Tm.rows_eq, Cs.rows_eq, h1f])
    refine ⟨⟨(i + 1, gs ++ [⟨zg, zps, .mk zk zn za zb zvs zxs zcs⟩]), hi1, by rw [hw, List.take_add_one, h1f, List.map_append, ← hz]; rfl⟩, by simp; omega, ?_⟩
    dsimp only
    exact Le.sub (by simp [Fn.row, Tm.row, Tm.rows_eq, Cs.rows_eq, hgl]) (by simp [Fn.row, Tm.row, Tm.rows_eq, Cs.rows_eq, hgl])
  have hi1 : i = l.length := by have := of_decide_eq_false hc; omega
  subst hi1
  clear hc
  rw [List.take_length] at hw
  obtain rfl : gs = G := by rw [hw, hG]
  refine AWp.exit ?_
  refine AWp.rg [] [] ?_ (hr := by conv => lhs; simp [Fn.row, Tm.row, Tm.rows_eq, Cs.rows_eq])
  refine AWp.ret ?_
  try dsimp only [thenQ, blockQ]
  apply endQ.retF [400]
  · rfl
  · conv => lhs; simp
  · conv => lhs; simp [resAV, Tryd.results21]
  rfl
end Go.Proofs.YtapiiklnnkkdlaaDoor

namespace Go.Proofs.YtapiiklnnkkdlaaDoor
open Go.RowKit
attribute [local simp] runD mkRc ldOf stOf stOk ldArg noAny dstOk guardOk opEff opEff0 effOp pureOp callOp zEff evA constAV scalAV Value.oneCell' frGet memGet startAS frOf isGoCall idIn AS.after nextR opnIds objIds AV.ids idsL AObj.ids frNo memNo opnAny isAny mkVal rdCells wrCells fldAddr idxAddr srcRows litRows toD1 toDs setAt sliceAV optI partAV bldAV fillAV binAV binI AV.cells callEff calleeOf frKill memKill AV.kill AObj.kill AV.has AV.hasL Op.operands Call.operands keepF keepM viewIds cChk renOf moGet moWs moQ cEff moLike moHave AV.ren renL AObj.ren AObj.like kept startC moMem AV.frz frz1 frzL frSub memSub frzs AS.frz frFrz memFrz AObj.frz takeMap takeLen bleF Nat.ble_eq memAny objAny mapOp D.keyOk rowAV valRow extOp wrapOp phO
set_option linter.unusedVariables false
set_option linter.unusedSimpArgs false
abbrev csAV : Cs → AV
  | .mk g ws (.mk k n a b vs xs cs) => .agg [.d (.int g), .d (strsD ws), .d (.int k), .d (.int n), .d (.str a), .d (.str b), .d (strsD vs), .d (.sl (xs.map Tm.row)), .d (.sl (cs.map Cs.row))]
abbrev cssAV (l : List Cs) : AV := .d (.sl (l.map Cs.row))
set_option maxHeartbeats 1000000 in
theorem sp_Equal (a b : List ByteArray) (ha : a.length ≤ 9223372036854775806) : PSpec Tryd.prog 107 [strsAV a, strsAV b] (fun _ => .d (.bool (eqB a b))) none := by
  refine PSpec.of Tryd.func107 rfl rfl rfl (Nat.le_of_ble_eq_true rfl) ?_
  show AWp _ _ (endQ _ Tryd.f107 _ _ _) (startAS 26 _)
  repeat (first | refine AWp.seq ?_ | refine AWp.block ?_)
  apply AWp.reg [] []
  · conv => lhs; simp
  · trivial
  by_cases hl : a.length = b.length
  · repeat (first | refine AWp.seq ?_ | refine AWp.block ?_)
    apply AWp.reg [] []
    · conv => lhs; simp [hl]
    · trivial
    refine AWp.cn ?_
    refine AWp.skip ?_
    repeat (first | refine AWp.seq ?_ | refine AWp.block ?_)
    apply AWp.reg [] []
    · conv => lhs; simp
    · trivial
    repeat (first | refine AWp.seq ?_ | refine AWp.block ?_)
    refine AWp.loop (σ := fun u : {i : Nat // i ≤ a.length ∧ a.take i = b.take i} => ⟨26, [(0, strsAV a), (1, strsAV b), (12, .d (.int a.length)), (13, .d (.int u.1))], []⟩)
      (μ := fun u => a.length - u.1) ⟨0, Nat.zero_le _, rfl⟩ (Le.sub (by simp [hl]) (by simp)) (fun ⟨i, hi, ht⟩ => ?_)
    dsimp only
    repeat (first | refine AWp.seq ?_ | refine AWp.block ?_)
    apply AWp.reg [] []
    · conv => lhs; simp
    · trivial
    repeat (first | refine AWp.seq ?_ | refine AWp.block ?_)
    refine AWp.cond rfl (fun h => ?_) (fun h => ?_)
    · have hi1 : i < a.length := by have := of_decide_eq_true h; omega
      have hx : a[i]? = some a[i] := List.getElem?_eq_getElem hi1
      have hy : b[i]? = some (b[i]'(by omega)) := List.getElem?_eq_getElem (by omega)
      generalize a[i] = x at hx
      generalize b[i]'(by omega) = y at hy
      have hte := take_eq hx hy ht
      refine AWp.skip ?_
      repeat (first | refine AWp.seq ?_ | refine AWp.block ?_)
      apply AWp.reg [] []
      · conv => lhs; simp
      · trivial
      by_cases hxy : x = y
      · subst hxy
        refine AWp.dw [] [] mixed ?_ (hr := by conv => lhs; simp [hx, hy])
        refine AWp.cn ?_
        refine AWp.skip ?_
        refine AWp.rg [] [] ?_
        refine ⟨⟨i + 1, hi1, hte.2 rfl⟩, by simp; omega, Le.sub (by simp) (by simp)⟩
      · refine AWp.dw [] [] mixed ?_ (hr := by conv => lhs; simp [hx, hy, hxy])
        repeat (first | refine AWp.seq ?_ | refine AWp.block ?_)
        refine AWp.cond rfl (fun h2 => ?_) (fun h2 => ?_)
        · repeat (first | refine AWp.seq ?_ | refine AWp.block ?_)
          apply AWp.reg [] []
          · conv => lhs; simp
          · trivial
          refine AWp.ret ?_
          try dsimp only [thenQ, blockQ]
          apply endQ.ret
          · rfl
          · conv => lhs; simp [resAV, Tryd.results107]
          rw [eqB_ne (take_ne hx hy hxy)]; rfl
        · cases h2
    · have hi1 : i = a.length := by have := of_decide_eq_false h; omega
      subst hi1
      rw [List.take_length, hl, List.take_length] at ht
      refine AWp.exit ?_
      repeat (first | refine AWp.seq ?_ | refine AWp.block ?_)
      apply AWp.reg [] []
      · conv => lhs; simp
      · trivial
      refine AWp.ret ?_
      try dsimp only [thenQ, blockQ]
      apply endQ.ret
      · rfl
      · conv => lhs; simp [resAV, Tryd.results107]
      rw [ht, eqB_self]; rfl
  · have hl' : ¬ ((a.length : Int) = b.length) := by omega
    repeat (first | refine AWp.seq ?_ | refine AWp.block ?_)
    apply AWp.reg [] []
    · conv => lhs; simp [hl, hl']
    · trivial
    repeat (first | refine AWp.seq ?_ | refine AWp.block ?_)
    refine AWp.cond rfl (fun h => ?_) (fun h => ?_)
    · repeat (first | refine AWp.seq ?_ | refine AWp.block ?_)
      apply AWp.reg [] []
      · conv => lhs; simp
      · trivial
      refine AWp.ret ?_
      try dsimp only [thenQ, blockQ]
      apply endQ.ret
      · rfl
      · conv => lhs; simp [resAV, Tryd.results107]
      rw [eqB_ne (fun e => hl (by rw [e]))]; rfl
    · cases h
set_option maxRecDepth 20000 in
set_option maxHeartbeats 4000000 in
theorem sp_EqualFuncTm (K : Nat) (a b : List Tm) (hla : a.length ≤ 8796093022207) (hk : ∀ x ∈ a, ∀ y, PSpec Tryd.prog K [tmAV x, tmAV y] (fun _ => .d (.bool (eqB x y))) none) : PSpec Tryd.prog 153 [tmsAV a, tmsAV b, .d (.fn K)] (fun _ => .d (.bool (eqB a b))) none := by
  refine PSpec.of Tryd.func153 rfl rfl rfl (Nat.le_of_ble_eq_true rfl) ?_
  show AWp _ _ (endQ _ Tryd.f153 _ _ _) (startAS 32 _)
  repeat (first | refine AWp.seq ?_ | refine AWp.block ?_)
  apply AWp.reg [] []
  · conv => lhs; simp
  · trivial
  by_cases hl : a.length = b.length
  rotate_left
  · have hl' : ¬ ((a.length : Int) = b.length) := by omega
    repeat (first | refine AWp.seq ?_ | refine AWp.block ?_)
    apply AWp.reg [] []
    · conv => lhs; simp [hl, hl']
    · trivial
    repeat (first | refine AWp.seq ?_ | refine AWp.block ?_)
    refine AWp.cond rfl (fun h => ?_) (fun h => ?_)
    · repeat (first | refine AWp.seq ?_ | refine AWp.block ?_)
      apply AWp.reg [] []
      · conv => lhs; simp
      · trivial
      refine AWp.ret ?_
      try dsimp only [thenQ, blockQ]
      apply endQ.ret
      · rfl
      · conv => lhs; simp [resAV, Tryd.results153]
      rw [eqB_ne (fun e => hl (by rw [e]))]; rfl
    · cases h
  repeat (first | refine AWp.seq ?_ | refine AWp.block ?_)
  apply AWp.reg [] []
  · conv => lhs; simp [hl]
  · trivial
  refine AWp.cn ?_
  refine AWp.skip ?_
  repeat (first | refine AWp.seq ?_ | refine AWp.block ?_)
  apply AWp.reg [] []
  · conv => lhs; simp
  · trivial
  repeat (first | refine AWp.seq ?_ | refine AWp.block ?_)
  refine AWp.loop (σ := fun u : {i : Nat // i ≤ a.length ∧ a.take i = b.take i} => ⟨32, [(1, tmsAV b), (2, .d (.fn K)), (15, tmsAV a), (16, .d (.int a.length)), (17, .d (.int u.1))], []⟩)
    (μ := fun u => a.length - u.1) ⟨0, Nat.zero_le _, rfl⟩ (Le.sub (by simp [hl]) (by simp)) (fun ⟨i, hi, ht⟩ => ?_)
  dsimp only
  repeat (first | refine AWp.seq ?_ | refine AWp.block ?_)
  apply AWp.reg [] []
  · conv => lhs; simp
  · trivial
  repeat (first | refine AWp.seq ?_ | refine AWp.block ?_)
  refine AWp.cond rfl (fun h => ?_) (fun h => ?_)
  · have hi1 : i < a.length := by have := of_decide_eq_true h; omega
    have h1 : a[i]? = some a[i] := List.getElem?_eq_getElem hi1
    have h2 : b[i]? = some (b[i]'(by omega)) := List.getElem?_eq_getElem (by omega)
    have hmem : a[i] ∈ a := List.getElem_mem hi1
    generalize a[i] = x at h1 hmem
    generalize b[i]'(by omega) = y at h2
    have hte := take_eq h1 h2 ht
    have hp := hk x hmem y
    have hbad : x ≠ y → eqB a b = false := fun h => eqB_ne (take_ne h1 h2 h)
    obtain ⟨B, hB⟩ : ∃ B, B = eqB x y := ⟨_, rfl⟩
    rw [← hB] at hp
    have hBf : B = false → x ≠ y := fun e q => by rw [hB, q, eqB_self] at e; cases e
    have hBt : B = true → x = y := fun e => eqB_iff.1 (by rw [← hB]; exact e)
    obtain ⟨_, _, _, _, _, _, _⟩ := x
    obtain ⟨_, _, _, _, _, _, _⟩ := y
    refine AWp.skip ?_
    refine AWp.rg [] [] ?_ (hr := by conv => lhs; simp [h1, Tm.row, Tm.row, Tm.rows_eq, Cs.rows_eq])
    refine AWp.rg [] [] ?_ (hr := by conv => lhs; simp [h2, Tm.row, Tm.row, Tm.rows_eq, Cs.rows_eq])
    cases B with
    | true =>
      have hxy := hBt rfl
      repeat (first | refine AWp.seq ?_ | refine AWp.block ?_)
      apply AWp.reg [] [.p (fun _ => .d (.bool true)) none]
      · conv => lhs; simp
      · exact hp
      repeat (first | refine AWp.seq ?_ | refine AWp.block ?_)
      refine AWp.cond rfl (fun h3 => ?_) (fun h3 => ?_)
      · simp at h3
      refine AWp.skip ?_
      refine AWp.rg [] [] ?_
      refine ⟨⟨i + 1, hi1, hte.2 hxy⟩, by simp; omega, Le.sub (by simp) (by simp)⟩
    | false =>
      have hxy := hBf rfl
      repeat (first | refine AWp.seq ?_ | refine AWp.block ?_)
      apply AWp.reg [] [.p (fun _ => .d (.bool false)) none]
      · conv => lhs; simp
      · exact hp
      repeat (first | refine AWp.seq ?_ | refine AWp.block ?_)
      refine AWp.cond rfl (fun h3 => ?_) (fun h3 => ?_)
      · repeat (first | refine AWp.seq ?_ | refine AWp.block ?_)
        apply AWp.reg [] []
        · conv => lhs; simp
        · trivial
        refine AWp.ret ?_
        try dsimp only [thenQ, blockQ]
        apply endQ.ret
        · rfl
        · conv => lhs; simp [resAV, Tryd.results153]
        rw [hbad hxy]; rfl
      · simp at h3
  · have hi1 : i = a.length := by have := of_decide_eq_false h; omega
    subst hi1
    rw [List.take_length, hl, List.take_length] at ht
    subst ht
    refine AWp.exit ?_
    repeat (first | refine AWp.seq ?_ | refine AWp.block ?_)
    apply AWp.reg [] []
    · conv => lhs; simp
    · trivial
    refine AWp.ret ?_
    try dsimp only [thenQ, blockQ]
    apply endQ.ret
    · rfl
    · conv => lhs; simp [resAV, Tryd.results153]
    rw [eqB_self]; rfl
set_option maxRecDepth 20000 in
set_option maxHeartbeats 4000000 in
theorem sp_EqualFuncCs (K : Nat) (a b : List Cs) (hla : a.length ≤ 8796093022207) (hk : ∀ x ∈ a, ∀ y, PSpec Tryd.prog K [csAV x, csAV y] (fun _ => .d (.bool (eqB x y))) none) : PSpec Tryd.prog 154 [cssAV a, cssAV b, .d (.fn K)] (fun _ => .d (.bool (eqB a b))) none := by
  refine PSpec.of Tryd.func154 rfl rfl rfl (Nat.le_of_ble_eq_true rfl) ?_
  show AWp _ _ (endQ _ Tryd.f154 _ _ _) (startAS 32 _)
  repeat (first | refine AWp.seq ?_ | refine AWp.block ?_)
  apply AWp.reg [] []
  · conv => lhs; simp
  · trivial
  by_cases hl : a.length = b.length
  rotate_left
  · have hl' : ¬ ((a.length : Int) = b.length) := by omega
    repeat (first | refine AWp.seq ?_ | refine AWp.block ?_)
    apply AWp.reg [] []
    · conv => lhs; simp [hl, hl']
    · trivial
    repeat (first | refine AWp.seq ?_ | refine AWp.block ?_)
    refine AWp.cond rfl (fun h => ?_) (fun h => ?_)
    · repeat (first | refine AWp.seq ?_ | refine AWp.block ?_)
      apply AWp.reg [] []
      · conv => lhs; simp
      · trivial
      refine AWp.ret ?_
      try dsimp only [thenQ, blockQ]
      apply endQ.ret
      · rfl
      · conv => lhs; simp [resAV, Tryd.results154]
      rw [eqB_ne (fun e => hl (by rw [e]))]; rfl
    · cases h
  repeat (first | refine AWp.seq ?_ | refine AWp.block ?_)
  apply AWp.reg [] []
  · conv => lhs; simp [hl]
  · trivial
  refine AWp.cn ?_
  refine AWp.skip ?_
  repeat (first | refine AWp.seq ?_ | refine AWp.block ?_)
  apply AWp.reg [] []
  · conv => lhs; simp
  · trivial
  repeat (first | refine AWp.seq ?_ | refine AWp.block ?_)
  refine AWp.loop (σ := fun u : {i : Nat // i ≤ a.length ∧ a.take i = b.take i} => ⟨32, [(1, cssAV b), (2, .d (.fn K)), (15, cssAV a), (16, .d (.int a.length)), (17, .d (.int u.1))], []⟩)
    (μ := fun u => a.length - u.1) ⟨0, Nat.zero_le _, rfl⟩ (Le.sub (by simp [hl]) (by simp)) (fun ⟨i, hi, ht⟩ => ?_)
  dsimp only
  repeat (first | refine AWp.seq ?_ | refine AWp.block ?_)
  apply AWp.reg [] []
  · conv => lhs; simp
  · trivial
  repeat (first | refine AWp.seq ?_ | refine AWp.block ?_)
  refine AWp.cond rfl (fun h => ?_) (fun h => ?_)
  · have hi1 : i < a.length := by have := of_decide_eq_true h; omega
    have h1 : a[i]? = some a[i] := List.getElem?_eq_getElem hi1
    have h2 : b[i]? = some (b[i]'(by omega)) := List.getElem?_eq_getElem (by omega)
    have hmem : a[i] ∈ a := List.getElem_mem hi1
    generalize a[i] = x at h1 hmem
    generalize b[i]'(by omega) = y at h2
    have hte := take_eq h1 h2 ht
    have hp := hk x hmem y
    have hbad : x ≠ y → eqB a b = false := fun h => eqB_ne (take_ne h1 h2 h)
    obtain ⟨B, hB⟩ : ∃ B, B = eqB x y := ⟨_, rfl⟩
    rw [← hB] at hp
    have hBf : B = false → x ≠ y := fun e q => by rw [hB, q, eqB_self] at e; cases e
    have hBt : B = true → x = y := fun e => eqB_iff.1 (by rw [← hB]; exact e)
    obtain ⟨_, _, ⟨_, _, _, _, _, _, _⟩⟩ := x
    obtain ⟨_, _, ⟨_, _, _, _, _, _, _⟩⟩ := y
    refine AWp.skip ?_
    refine AWp.rg [] [] ?_ (hr := by conv => lhs; simp [h1, Cs.row, Tm.row, Tm.rows_eq, Cs.rows_eq])
    refine AWp.rg [] [] ?_ (hr := by conv => lhs; simp [h2, Cs.row, Tm.row, Tm.rows_eq, Cs.rows_eq])
    cases B with
    | true =>
      have hxy := hBt rfl
      repeat (first | refine AWp.seq ?_ | refine AWp.block ?_)
      apply AWp.reg [] [.p (fun _ => .d (.bool true)) none]
      · conv => lhs; simp
      · exact hp
      repeat (first | refine AWp.seq ?_ | refine AWp.block ?_)
      refine AWp.cond rfl (fun h3 => ?_) (fun h3 => ?_)
      · simp at h3
      refine AWp.skip ?_
      refine AWp.rg [] [] ?_
      refine ⟨⟨i + 1, hi1, hte.2 hxy⟩, by simp; omega, Le.sub (by simp) (by simp)⟩
    | false =>
      have hxy := hBf rfl
      repeat (first | refine AWp.seq ?_ | refine AWp.block ?_)
      apply AWp.reg [] [.p (fun _ => .d (.bool false)) none]
      · conv => lhs; simp
      · exact hp
      repeat (first | refine AWp.seq ?_ | refine AWp.block ?_)
      refine AWp.cond rfl (fun h3 => ?_) (fun h3 => ?_)
      · repeat (first | refine AWp.seq ?_ | refine AWp.block ?_)
        apply AWp.reg [] []
        · conv => lhs; simp
        · trivial
        refine AWp.ret ?_
        try dsimp only [thenQ, blockQ]
        apply endQ.ret
        · rfl
        · conv => lhs; simp [resAV, Tryd.results154]
        rw [hbad hxy]; rfl
      · simp at h3
  · have hi1 : i = a.length := by have := of_decide_eq_false h; omega
    subst hi1
    rw [List.take_length, hl, List.take_length] at ht
    subst ht
    refine AWp.exit ?_
    repeat (first | refine AWp.seq ?_ | refine AWp.block ?_)
    apply AWp.reg [] []
    · conv => lhs; simp
    · trivial
    refine AWp.ret ?_
    try dsimp only [thenQ, blockQ]
    apply endQ.ret
    · rfl
    · conv => lhs; simp [resAV, Tryd.results154]
    rw [eqB_self]; rfl
set_option maxRecDepth 20000 in
set_option maxHeartbeats 4000000 in
theorem sp_Same1 (c d : Cs) (hO : c.Ok) (hS : PSpec Tryd.prog 108 [tmAV c.body, tmAV d.body] (fun _ => .d (.bool (eqB c.body d.body))) none) : PSpec Tryd.prog 155 [csAV c, csAV d] (fun _ => .d (.bool (eqB c d))) none := by
  obtain ⟨g, ws, x⟩ := c
  obtain ⟨g', ws', y⟩ := d
  have hws := sp_Equal ws ws' (by have := hO.body.2; omega)
  simp only [Cs.body] at hS
  have hbad : (g ≠ g' ∨ ws ≠ ws' ∨ x ≠ y) → eqB (Cs.mk g ws x) (Cs.mk g' ws' y) = false := fun h => eqB_ne (by
      intro e
      cases e
      simp at h)
  have hgood : g = g' → ws = ws' → eqB (Cs.mk g ws x) (Cs.mk g' ws' y) = eqB x y := by
    rintro rfl rfl
    by_cases h : x = y
    · rw [h, eqB_self, eqB_self]
    · rw [eqB_ne h, hbad (.inr (.inr h))]
  generalize eqB (Cs.mk g ws x) (Cs.mk g' ws' y) = R at hbad hgood ⊢
  generalize eqB x y = B at hS hgood
  obtain ⟨_, _, _, _, _, _, _⟩ := x
  obtain ⟨_, _, _, _, _, _, _⟩ := y
  refine PSpec.of Tryd.func155 rfl rfl rfl (Nat.le_of_ble_eq_true rfl) ?_
  show AWp _ _ (endQ _ Tryd.f155 _ _ _) (startAS 24 _)
  repeat (first | refine AWp.seq ?_ | refine AWp.block ?_)
  apply AWp.reg [] []
  · conv => lhs; simp
  · trivial
  by_cases e8 : g = g'
  rotate_left
  · repeat (first | refine AWp.seq ?_ | refine AWp.block ?_)
    apply AWp.reg [] []
    · conv => lhs; simp [e8]
    · trivial
    refine AWp.ret ?_
    try dsimp only [thenQ, blockQ]
    apply endQ.ret
    · rfl
    · conv => lhs; simp [resAV, Tryd.results155]
    rw [hbad (.inl e8)]; rfl
  by_cases e9 : ws = ws'
  rotate_left
  · rw [eqB_ne e9] at hws
    repeat (first | refine AWp.seq ?_ | refine AWp.block ?_)
    apply AWp.reg [] [.p (fun _ => .d (.bool false)) none]
    · conv => lhs; simp [e8]
    · exact hws
    refine AWp.ret ?_
    try dsimp only [thenQ, blockQ]
    apply endQ.ret
    · rfl
    · conv => lhs; simp [resAV, Tryd.results155]
    rw [hbad (.inr (.inl e9))]; rfl
  rw [e9, eqB_self] at hws
  repeat (first | refine AWp.seq ?_ | refine AWp.block ?_)
  apply AWp.reg [] [.p (fun _ => .d (.bool true)) none, .p (fun _ => .d (.bool B)) none]
  · conv => lhs; simp [e8, e9]
  · exact ⟨hws, hS⟩
  refine AWp.ret ?_
  try dsimp only [thenQ, blockQ]
  apply endQ.ret
  · rfl
  · conv => lhs; simp [resAV, Tryd.results155]
  rw [hgood e8 e9]; rfl
set_option maxRecDepth 20000 in
set_option maxHeartbeats 8000000 in
theorem sp_scSame_at : ∀ (N : Nat) (s t : Tm), s.sz < N → s.Ok → PSpec Tryd.prog 108 [tmAV s, tmAV t] (fun _ => .d (.bool (eqB s t))) none := by
  intro N
  induction N with
  | zero => intro s t h; omega
  | succ N ih =>
  intro s t hN hO
  obtain ⟨k, n, a, b, vs, xs, cs⟩ := s
  obtain ⟨k', n', a', b', vs', xs', cs'⟩ := t
  obtain ⟨o1, o2, o3, o4, o5⟩ := hO.vars
  have hneq : (k ≠ k' ∨ n ≠ n' ∨ a ≠ a' ∨ b ≠ b' ∨ vs ≠ vs' ∨ xs ≠ xs' ∨ cs ≠ cs') → eqB (Tm.mk k n a b vs xs cs) (Tm.mk k' n' a' b' vs' xs' cs') = false := fun h => eqB_ne (by
    intro e
    cases e
    simp at h)
  have hvs := sp_Equal vs vs' (by omega)
  have hx := sp_EqualFuncTm 108 xs xs' (by omega) fun x hm y => ih x y (by have := Tm.sz_arg (k := k) (n := n) (a := a) (b := b) (vs := vs) (cs := cs) hm; omega) (hO.arg hm)
  have hc := sp_EqualFuncCs 155 cs cs' (by omega) fun x hm y => by
    obtain ⟨g, ws, x⟩ := x
    exact sp_Same1 _ y (hO.case hm) (ih x y.body (by have := Tm.sz_case (k := k) (n := n) (a := a) (b := b) (vs := vs) (xs := xs) hm; omega) (hO.case hm).body.1)
  refine PSpec.of Tryd.func108 rfl rfl rfl (Nat.le_of_ble_eq_true rfl) ?_
  show AWp _ _ (endQ _ Tryd.f108 _ _ _) (startAS 51 _)
  repeat (first | refine AWp.seq ?_ | refine AWp.block ?_)
  apply AWp.reg [] []
  · conv => lhs; simp
  · trivial
  by_cases e1 : k = k'
  rotate_left
  · repeat (first | refine AWp.seq ?_ | refine AWp.block ?_)
    apply AWp.reg [] []
    · conv => lhs; simp [e1]
    · trivial
    repeat (first | refine AWp.seq ?_ | refine AWp.block ?_)
    refine AWp.cond rfl (fun h => ?_) (fun h => ?_)
    · repeat (first | refine AWp.seq ?_ | refine AWp.block ?_)
      apply AWp.reg [] []
      · conv => lhs; simp
      · trivial
      refine AWp.ret ?_
      try dsimp only [thenQ, blockQ]
      apply endQ.ret
      · rfl
      · conv => lhs; simp [resAV, Tryd.results108]
      rw [hneq (.inl e1)]; rfl
    · simp at h
  subst e1
  by_cases e2 : n = n'
  rotate_left
  · repeat (first | refine AWp.seq ?_ | refine AWp.block ?_)
    apply AWp.reg [] []
    · conv => lhs; simp [e2]
    · trivial
    repeat (first | refine AWp.seq ?_ | refine AWp.block ?_)
    refine AWp.cond rfl (fun h => ?_) (fun h => ?_)
    · repeat (first | refine AWp.seq ?_ | refine AWp.block ?_)
      apply AWp.reg [] []
      · conv => lhs; simp
      · trivial
      refine AWp.ret ?_
      try dsimp only [thenQ, blockQ]
      apply endQ.ret
      · rfl
      · conv => lhs; simp [resAV, Tryd.results108]
      rw [hneq (.inr (.inl e2))]; rfl
    · simp at h
  subst e2
  by_cases e3 : a = a'
  rotate_left
  · repeat (first | refine AWp.seq ?_ | refine AWp.block ?_)
    apply AWp.reg [] []
    · conv => lhs; simp [e3]
    · trivial
    repeat (first | refine AWp.seq ?_ | refine AWp.block ?_)
    refine AWp.cond rfl (fun h => ?_) (fun h => ?_)
    · repeat (first | refine AWp.seq ?_ | refine AWp.block ?_)
      apply AWp.reg [] []
      · conv => lhs; simp
      · trivial
      refine AWp.ret ?_
      try dsimp only [thenQ, blockQ]
      apply endQ.ret
      · rfl
      · conv => lhs; simp [resAV, Tryd.results108]
      rw [hneq (.inr (.inr (.inl e3)))]; rfl
    · simp at h
  subst e3
  by_cases e4 : b = b'
  rotate_left
  · repeat (first | refine AWp.seq ?_ | refine AWp.block ?_)
    apply AWp.reg [] []
    · conv => lhs; simp [e4]
    · trivial
    repeat (first | refine AWp.seq ?_ | refine AWp.block ?_)
    refine AWp.cond rfl (fun h => ?_) (fun h => ?_)
    · repeat (first | refine AWp.seq ?_ | refine AWp.block ?_)
      apply AWp.reg [] []
      · conv => lhs; simp
      · trivial
      refine AWp.ret ?_
      try dsimp only [thenQ, blockQ]
      apply endQ.ret
      · rfl
      · conv => lhs; simp [resAV, Tryd.results108]
      rw [hneq (.inr (.inr (.inr (.inl e4))))]; rfl
    · simp at h
  subst e4
  by_cases e5 : vs = vs'
  rotate_left
  · repeat (first | refine AWp.seq ?_ | refine AWp.block ?_)
    apply AWp.reg [] [.p (fun _ => .d (.bool false)) none]
    · conv => lhs; simp [e5]
    · rw [eqB_ne e5] at hvs; exact hvs
    repeat (first | refine AWp.seq ?_ | refine AWp.block ?_)
    refine AWp.cond rfl (fun h => ?_) (fun h => ?_)
    · repeat (first | refine AWp.seq ?_ | refine AWp.block ?_)
      apply AWp.reg [] []
      · conv => lhs; simp
      · trivial
      refine AWp.ret ?_
      try dsimp only [thenQ, blockQ]
      apply endQ.ret
      · rfl
      · conv => lhs; simp [resAV, Tryd.results108]
      rw [hneq (.inr (.inr (.inr (.inr (.inl e5)))))]; rfl
    · simp at h
  subst e5
  rw [eqB_self] at hvs
  repeat (first | refine AWp.seq ?_ | refine AWp.block ?_)
  apply AWp.reg [] [.p (fun _ => .d (.bool true)) none]
  · conv => lhs; simp
  · exact hvs
  repeat (first | refine AWp.seq ?_ | refine AWp.block ?_)
  refine AWp.cond rfl (fun h => ?_) (fun h => ?_)
  · simp at h
  refine AWp.skip ?_
  by_cases e6 : xs = xs'
  rotate_left
  · rw [eqB_ne e6] at hx
    repeat (first | refine AWp.seq ?_ | refine AWp.block ?_)
    apply AWp.reg [] [.p (fun _ => .d (.bool false)) none]
    · conv => lhs; simp
    · exact hx
    refine AWp.ret ?_
    try dsimp only [thenQ, blockQ]
    apply endQ.ret
    · rfl
    · conv => lhs; simp [resAV, Tryd.results108]
    rw [hneq (.inr (.inr (.inr (.inr (.inr (.inl e6))))))]; rfl
  subst e6
  rw [eqB_self] at hx
  by_cases e7 : cs = cs'
  rotate_left
  · rw [eqB_ne e7] at hc
    repeat (first | refine AWp.seq ?_ | refine AWp.block ?_)
    apply AWp.reg [] [.p (fun _ => .d (.bool true)) none, .p (fun _ => .d (.bool false)) none]
    · conv => lhs; simp
    · exact ⟨hx, hc⟩
    refine AWp.ret ?_
    try dsimp only [thenQ, blockQ]
    apply endQ.ret
    · rfl
    · conv => lhs; simp [resAV, Tryd.results108]
    rw [hneq (.inr (.inr (.inr (.inr (.inr (.inr e7))))))]; rfl
  subst e7
  rw [eqB_self] at hc
  repeat (first | refine AWp.seq ?_ | refine AWp.block ?_)
  apply AWp.reg [] [.p (fun _ => .d (.bool true)) none, .p (fun _ => .d (.bool true)) none]
  · conv => lhs; simp
  · exact ⟨hx, hc⟩
  refine AWp.ret ?_
  try dsimp only [thenQ, blockQ]
  apply endQ.ret
  · rfl
  · conv => lhs; simp [resAV, Tryd.results108]
  rw [eqB_self]; rfl
theorem sp_scSame (s t : Tm) (h : s.Ok) : PSpec Tryd.prog 108 [tmAV s, tmAV t] (fun _ => .d (.bool (eqB s t))) none := sp_scSame_at _ s t (Nat.lt_succ_self _) h

set_option maxRecDepth 20000 in
set_option maxHeartbeats 16000000 in
theorem sp_Alike (f g : Fn) (hf : f.body.Ok ∧ f.body.Rt 25 ∧ f.params.length ≤ 6) (hg : g.body.Ok ∧ g.body.Rt 25 ∧ g.params.length ≤ 6) (hO : f.rn.body.Ok) : PSpec Tryd.prog 62 [fnAV f, fnAV g] (fun _ => .d (.bool (eqB f.rn g.rn))) none := by
  have hx := sp_NFn f hf.1 hf.2.1 hf.2.2
  have hy := sp_NFn g hg.1 hg.2.1 hg.2.2
  have hpl : f.rn.params.length ≤ 6 := by unfold Fn.rn; dsimp only; rw [freshL_len]; exact hf.2.2
  generalize hp : f.rn = p at hx hO hpl ⊢
  generalize hq : g.rn = q at hy ⊢
  obtain ⟨B, hB⟩ : ∃ B, B = eqB p q := ⟨_, rfl⟩
  rw [← hB]
  obtain ⟨pg, pps, py⟩ := p
  obtain ⟨qg, qps, qy⟩ := q
  dsimp only at hO hpl
  have he := sp_Equal pps qps (by omega)
  have hs := sp_scSame py qy hO
  obtain ⟨E1, hE1⟩ : ∃ E, E = eqB pps qps := ⟨_, rfl⟩
  obtain ⟨E2, hE2⟩ : ∃ E, E = eqB py qy := ⟨_, rfl⟩
  rw [← hE1] at he
  rw [← hE2] at hs
  obtain ⟨ag, aps, ⟨ak, an, aa, ab, avs, axs, acs⟩⟩ := f
  obtain ⟨bg, bps, ⟨bk, bn, ba, bb, bvs, bxs, bcs⟩⟩ := g
  obtain ⟨pk, pn, pa, pb, pvs, pxs, pcs⟩ := py
  obtain ⟨qk, qn, qa, qb, qvs, qxs, qcs⟩ := qy
  dsimp only [fnAV] at hx hy
  refine PSpec.of Tryd.func62 rfl rfl rfl (Nat.le_of_ble_eq_true rfl) ?_
  show AWp _ _ (endQ _ Tryd.f62 _ _ _) (startAS 30 _)
  refine AWp.rg [] [] ?_ (hr := by conv => lhs; simp [fnAV, Tm.row, Tm.rows_eq, Cs.rows_eq])
  refine AWp.dw [] [.p (fun _ => .agg [.d (.str pg), .d (strsD pps), .d (.int pk), .d (.int pn), .d (.str pa), .d (.str pb), .d (strsD pvs), .d (.sl (pxs.map Tm.row)), .d (.sl (pcs.map Cs.row))]) none, .p (fun _ => .agg [.d (.str qg), .d (strsD qps), .d (.int qk), .d (.int qn), .d (.str qa), .d (.str qb), .d (strsD qvs), .d (.sl (qxs.map Tm.row)), .d (.sl (qcs.map Cs.row))]) none] mixed ?_ (hr := by conv => lhs; simp [fnAV, Tm.row, Tm.rows_eq, Cs.rows_eq])
  by_cases q1 : pg = qg
  · cases E1 with
    | true =>
      refine AWp.rg [] [.p (fun _ => .d (.bool true)) none, .p (fun _ => .d (.bool E2)) none] ?_ (hr := by conv => lhs; simp [fnAV, Tm.row, Tm.rows_eq, Cs.rows_eq, q1])
      refine AWp.ret ?_
      have h1 := eqB_iff.1 hE1.symm
      obtain rfl : B = E2 := by
        rw [hB, hE2, Bool.eq_iff_iff, eqB_iff, eqB_iff, q1, h1]
        constructor
        · intro h; injection h
        · intro h; rw [h]
      try dsimp only [thenQ, blockQ]
      apply endQ.ret
      · rfl
      · conv => lhs; simp [resAV, Tryd.results62]
      rfl
    | false =>
      refine AWp.rg [] [.p (fun _ => .d (.bool false)) none] ?_ (hr := by conv => lhs; simp [fnAV, Tm.row, Tm.rows_eq, Cs.rows_eq, q1])
      refine AWp.ret ?_
      obtain rfl : B = false := by
        rw [hB]
        refine eqB_ne fun h => ?_
        have h2 : pps = qps := by injection h
        rw [eqB_iff.2 h2] at hE1
        cases hE1
      try dsimp only [thenQ, blockQ]
      apply endQ.ret
      · rfl
      · conv => lhs; simp [resAV, Tryd.results62]
      rfl
  refine AWp.rg [] [] ?_ (hr := by conv => lhs; simp [fnAV, Tm.row, Tm.rows_eq, Cs.rows_eq, q1])
  refine AWp.ret ?_
  obtain rfl : B = false := by rw [hB]; exact eqB_ne fun h => q1 (by injection h)
  try dsimp only [thenQ, blockQ]
  apply endQ.ret
  · rfl
  · conv => lhs; simp [resAV, Tryd.results62]
  rfl
end Go.Proofs.YtapiiklnnkkdlaaDoor

namespace Go.Proofs.YtapiiklnnkkdlaaDoor
open Go.RowKit
set_option linter.unusedVariables false
set_option linter.unusedSimpArgs false
theorem vNm_le (c : Int) : (vNm (wr c)).size ≤ 140737488355328 := by
  have := vsz (wr c) (wr_in c)
  omega
theorem nowP_le : ∀ (ps : Ps) (s : ByteArray), s.size ≤ 140737488355328 → (∀ p ∈ ps, p.2.size ≤ 140737488355328) → (nowP ps s).size ≤ 140737488355328 := by
  intro ps s hs hp
  unfold nowP
  have : ∀ (ps : Ps) (o : ByteArray), o.size ≤ 140737488355328 → (∀ p ∈ ps, p.2.size ≤ 140737488355328) → (ps.foldl (fun o p => if p.1 = s then p.2 else o) o).size ≤ 140737488355328 := by
    intro ps
    induction ps with
    | nil => intro o ho _; exact ho
    | cons p r ih =>
      intro o ho h
      simp only [List.foldl_cons]
      refine ih _ ?_ fun q hq => h q (List.mem_cons_of_mem _ hq)
      split
      · exact h p (List.mem_cons_self ..)
      · exact ho
  exact this ps s hs hp
theorem freshL_le : ∀ (l : List ByteArray) (c : Int), ∀ s ∈ freshL l c, s.size ≤ 140737488355328
  | [], _, s, h => by cases h
  | _ :: r, c, s, h => by
    rw [freshL] at h
    rcases List.mem_cons.1 h with rfl | h
    · exact vNm_le _
    · exact freshL_le r _ s h
theorem rn_ok : ∀ (d : Nat) (t : Tm) (ps : Ps) (c : Int), t.Rt d → t.Ok → (∀ p ∈ ps, p.2.size ≤ 140737488355328) → (t.rn ps c).1.Ok := by
  intro d
  induction d with
  | zero => intro t _ _ h; exact h.elim
  | succ d ih =>
  intro t ps c hR hO hps
  obtain ⟨k, n, a, b, vs, xs, cs⟩ := t
  obtain ⟨_, _, _, hx, hc⟩ := hR
  obtain ⟨⟨o1, o2, o3⟩, ⟨o4, o5, o6⟩, o7, o8⟩ := hO
  rw [Tm.Oks_iff] at o7
  rw [Cs.Oks_iff] at o8
  have hL : ∀ (ys : List Tm) (i : Nat) (nm : ByteArray) (c : Int), (∀ y ∈ ys, y ∈ xs) → nm.size ≤ 140737488355328 → Tm.Oks (Tm.rns k a ps i ys nm c).1 ∧ (Tm.rns k a ps i ys nm c).2.1.size ≤ 140737488355328 ∧ (Tm.rns k a ps i ys nm c).1.length = ys.length := by
    intro ys
    induction ys with
    | nil => intro i nm c _ h; exact ⟨trivial, h, rfl⟩
    | cons y r ih2 =>
      intro i nm c hm hn
      have hy := hm y (List.mem_cons_self ..)
      rw [Tm.rns]
      split
      · have h1 := ih y (ps ++ [(a, vNm (wr (c + 1)))]) (wr (c + 1)) (hx y hy) (o7 y hy) (fun p hp => (List.mem_append.1 hp).elim (hps p) fun hp => by rw [List.mem_singleton.1 hp]; exact vNm_le _)
        obtain ⟨h2, h3, h4⟩ := ih2 (i + 1) (vNm (wr (c + 1))) (y.rn (ps ++ [(a, vNm (wr (c + 1)))]) (wr (c + 1))).2 (fun z hz => hm z (List.mem_cons_of_mem _ hz)) (vNm_le _)
        exact ⟨⟨h1, h2⟩, h3, by simp [h4]⟩
      · have h1 := ih y ps c (hx y hy) (o7 y hy) hps
        obtain ⟨h2, h3, h4⟩ := ih2 (i + 1) nm (y.rn ps c).2 (fun z hz => hm z (List.mem_cons_of_mem _ hz)) hn
        exact ⟨⟨h1, h2⟩, h3, by simp [h4]⟩
  have hC : ∀ (ys : List Cs) (c : Int), (∀ y ∈ ys, y ∈ cs) → Cs.Oks (Cs.rnL ys ps c).1 ∧ (Cs.rnL ys ps c).1.length = ys.length := by
    intro ys
    induction ys with
    | nil => intro c _; exact ⟨trivial, rfl⟩
    | cons y r ih2 =>
      intro c hm
      have hy := hm y (List.mem_cons_self ..)
      obtain ⟨t, ws, y⟩ := y
      obtain ⟨hw, hyR⟩ := hc _ hy
      obtain ⟨p1, p2, p3⟩ := o8 _ hy
      rw [Cs.rnL, Cs.rn]
      have h1 := ih y (ps ++ ws.zip (freshL ws c)) (freshC ws c) hyR p3 (fun p hp => (List.mem_append.1 hp).elim (hps p) fun hp => freshL_le ws c _ (List.of_mem_zip hp).2)
      obtain ⟨h2, h4⟩ := ih2 (y.rn (ps ++ ws.zip (freshL ws c)) (freshC ws c)).2 fun z hz => hm z (List.mem_cons_of_mem _ hz)
      exact ⟨⟨⟨freshL_le ws c, by rw [freshL_len]; exact p2, h1⟩, h2⟩, by simp [h4]⟩
  rw [Tm.rn]
  split
  · exact ⟨⟨nowP_le ps a o1 hps, o2, o3⟩, ⟨o4, by simp, by simp⟩, trivial, trivial⟩
  · obtain ⟨h1, h2, h3⟩ := hL xs 0 a c (fun y hy => hy) o1
    obtain ⟨h4, h5⟩ := hC cs (Tm.rns k a ps 0 xs a c).2.2 fun y hy => hy
    exact ⟨⟨h2, o2, o3⟩, ⟨o4, by rw [h3]; exact o5, by rw [h5]; exact o6⟩, h1, h4⟩
theorem Fn.rn_ok (f : Fn) (hb : f.body.Ok) (hr : f.body.Rt 25) : f.rn.body.Ok :=
  Go.Proofs.YtapiiklnnkkdlaaDoor.rn_ok 25 f.body _ _ hr hb fun p hp => freshL_le _ _ _ (List.of_mem_zip hp).2
theorem right_all {l : List Fn} (hl : FnsOk l) (h : checkE l = 0) : ∀ f ∈ l, f.body.Ok ∧ f.body.Rt 25 ∧ f.params.length ≤ 6 := fun f hf => by
  have hr := (check_zero h).2.2.2 f hf
  exact ⟨(hl.all f hf).body, wrong_rt _ 25 _ _ 0 (by omega) hr.wrong, hr.params⟩

def IdP (ps : Ps) : Prop := ∀ p ∈ ps, p.1 = p.2
theorem nowP_id {ps : Ps} (h : IdP ps) (s : ByteArray) : nowP ps s = s := by
  unfold nowP
  induction ps with
  | nil => rfl
  | cons p r ih =>
    have h1 := h p (List.mem_cons_self ..)
    simp only [List.foldl_cons]
    have h2 : (if p.1 = s then p.2 else s) = s := by
      split
      · rename_i e; rw [← h1, e]
      · rfl
    rw [h2]
    exact ih fun q hq => h q (List.mem_cons_of_mem _ hq)
theorem IdP.append {ps qs : Ps} (h : IdP ps) (h2 : IdP qs) : IdP (ps ++ qs) := fun p hp => (List.mem_append.1 hp).elim (h p) (h2 p)
theorem IdP.zip (l : List ByteArray) : IdP (l.zip l) := by
  induction l with
  | nil => intro p hp; cases hp
  | cons x r ih =>
    intro p hp
    rw [List.zip_cons_cons] at hp
    rcases List.mem_cons.1 hp with rfl | hp
    · rfl
    · exact ih p hp
theorem freshL_twice : ∀ (l : List ByteArray) (c e : Int), freshL (freshL l e) c = freshL l c
  | [], _, _ => rfl
  | _ :: r, c, e => by simp only [freshL, freshL_twice r]
theorem freshC_twice : ∀ (l : List ByteArray) (c e : Int), freshC (freshL l e) c = freshC l c
  | [], _, _ => rfl
  | _ :: r, c, e => by simp only [freshL, freshC, freshC_twice r]
theorem rt_let {d : Nat} {k n : Int} {a b : ByteArray} {vs : List ByteArray} {xs : List Tm} {cs : List Cs} (h : (Tm.mk k n a b vs xs cs).Rt (d + 1)) (hk : k = 6) : ∃ x y, xs = [x, y] ∧ cs = [] := by
  obtain ⟨_, hm, _⟩ := h
  subst hk
  unfold manyB at hm
  simp at hm
  obtain ⟨h2, rfl⟩ := hm
  rcases xs with _ | ⟨x, _ | ⟨y, _ | ⟨z, l⟩⟩⟩
  · cases h2
  · cases h2
  · exact ⟨x, y, rfl, rfl⟩
  · simp at h2
theorem rns_no {k : Int} (hk : k ≠ 6) (a : ByteArray) (ps : Ps) : ∀ (l : List Tm) (i : Nat) (nm : ByteArray) (c : Int), (Tm.rns k a ps i l nm c).2.1 = nm
  | [], _, _, _ => rfl
  | x :: r, i, nm, c => by
    rw [Tm.rns, if_neg fun h => hk h.1]
    exact rns_no hk a ps r _ _ _
theorem rn_rn : ∀ (d : Nat) (t : Tm) (ps qs : Ps) (c : Int), t.Rt d → IdP qs → (t.rn ps c).1.rn qs c = ((t.rn ps c).1, (t.rn ps c).2) := by
  intro d
  induction d with
  | zero => intro t _ _ _ h; exact h.elim
  | succ d ih =>
  intro t ps qs c hR hq
  obtain ⟨k, n, a, b, vs, xs, cs⟩ := t
  have hR' := hR
  obtain ⟨_, _, _, hx, hc⟩ := hR'
  rw [Tm.rn]
  by_cases hk1 : k = 1
  · rw [if_pos hk1]
    dsimp only
    rw [Tm.rn, if_pos hk1, nowP_id hq]
  rw [if_neg hk1]
  dsimp only
  rw [Tm.rn, if_neg hk1]
  by_cases hk6 : k = 6
  · obtain ⟨x, y, rfl, rfl⟩ := rt_let hR hk6
    subst hk6
    have h1 := ih x ps qs c (hx x (by simp)) hq
    have h2 := ih y (ps ++ [(a, vNm (wr ((x.rn ps c).2 + 1)))]) (qs ++ [(vNm (wr ((x.rn ps c).2 + 1)), vNm (wr ((x.rn ps c).2 + 1)))]) (wr ((x.rn ps c).2 + 1)) (hx y (by simp)) (hq.append fun p hp => by rw [List.mem_singleton.1 hp])
    simp [Tm.rns, Cs.rnL, h1, h2]
  · have hL : ∀ (ys : List Tm) (i : Nat) (nm nm' a' : ByteArray) (c : Int), (∀ y ∈ ys, y ∈ xs) → Tm.rns k a' qs i (Tm.rns k a ps i ys nm c).1 nm' c = ((Tm.rns k a ps i ys nm c).1, nm', (Tm.rns k a ps i ys nm c).2.2) := by
      intro ys
      induction ys with
      | nil => intro i nm nm' a' c _; rfl
      | cons y r ih2 =>
        intro i nm nm' a' c hm
        have h1 := ih y ps qs c (hx y (hm y (List.mem_cons_self ..))) hq
        have h2 := ih2 (i + 1) nm nm' a' (y.rn ps c).2 fun z hz => hm z (List.mem_cons_of_mem _ hz)
        rw [Tm.rns, if_neg fun h => hk6 h.1]
        dsimp only
        rw [Tm.rns, if_neg fun h => hk6 h.1, h1]
        dsimp only
        rw [h2]
    have hC : ∀ (ys : List Cs) (c : Int), (∀ y ∈ ys, y ∈ cs) → Cs.rnL (Cs.rnL ys ps c).1 qs c = ((Cs.rnL ys ps c).1, (Cs.rnL ys ps c).2) := by
      intro ys
      induction ys with
      | nil => intro c _; rfl
      | cons y r ih2 =>
        intro c hm
        have hy := hm y (List.mem_cons_self ..)
        obtain ⟨t, ws, y⟩ := y
        have h1 := ih y (ps ++ ws.zip (freshL ws c)) (qs ++ (freshL ws c).zip (freshL ws c)) (freshC ws c) (hc _ hy).2 (hq.append (IdP.zip _))
        have h2 := ih2 (y.rn (ps ++ ws.zip (freshL ws c)) (freshC ws c)).2 fun z hz => hm z (List.mem_cons_of_mem _ hz)
        rw [Cs.rnL, Cs.rn]
        dsimp only
        rw [Cs.rnL, Cs.rn, freshL_twice, freshC_twice, h1]
        dsimp only
        rw [h2]
    rw [hL xs 0 a _ _ c fun y hy => hy]
    dsimp only
    rw [hC cs _ fun y hy => hy]
theorem Fn.rn_rn (f : Fn) (hr : f.body.Rt 25) : f.rn.rn = f.rn := by
  have h := Go.Proofs.YtapiiklnnkkdlaaDoor.rn_rn 25 f.body (f.params.zip (freshL f.params 0)) ((freshL f.params 0).zip (freshL f.params 0)) (freshC f.params 0) hr (IdP.zip _)
  unfold Fn.rn
  dsimp only
  rw [freshL_twice, freshC_twice, h]
mutual
def Tm.bd : Tm → List ByteArray
  | .mk k _ a _ _ xs cs => (if k = 6 then [a] else []) ++ (Tm.bdL xs ++ Cs.bdL cs)
def Tm.bdL : List Tm → List ByteArray
  | [] => []
  | x :: r => x.bd ++ Tm.bdL r
def Cs.bdL : List Cs → List ByteArray
  | [] => []
  | c :: r => c.bd ++ Cs.bdL r
def Cs.bd : Cs → List ByteArray
  | .mk _ ws y => ws ++ y.bd
end
def seqV (c : Int) (n : Nat) : List ByteArray := (List.range n).map fun (i : Nat) => vNm (c + 1 + (i : Int))
theorem seqV_add (c : Int) (m n : Nat) : seqV c (m + n) = seqV c m ++ seqV (c + m) n := by
  unfold seqV
  rw [List.range_add, List.map_append, List.map_map]
  congr 1
  refine List.map_congr_left fun i _ => ?_
  show vNm _ = vNm _
  congr 1
  push_cast
  omega
theorem seqV_one (c : Int) : seqV c 1 = [vNm (c + 1)] := by simp [seqV]
theorem wr_of {c : Int} (h : 0 ≤ c) (h2 : c < 9223372036854775807) : wr c = c := wr_id ⟨by omega, by omega⟩
theorem freshL_seq : ∀ (l : List ByteArray) (c : Int), 0 ≤ c → c + l.length < 9223372036854775807 → freshL l c = seqV c l.length ∧ freshC l c = c + l.length
  | [], c, _, _ => ⟨rfl, by simp [freshC]⟩
  | x :: r, c, h, h2 => by
    rw [List.length_cons] at h2
    have hw : wr (c + 1) = c + 1 := wr_of (by omega) (by omega)
    obtain ⟨h3, h4⟩ := freshL_seq r (c + 1) (by omega) (by omega)
    refine ⟨?_, ?_⟩
    · rw [freshL, hw, h3, List.length_cons, Nat.add_comm r.length 1, seqV_add, seqV_one]
      rfl
    · rw [freshC, hw, h4, List.length_cons]; omega
theorem bd_rn : ∀ (d : Nat) (t : Tm) (ps : Ps) (c : Int), t.Rt d → 0 ≤ c → c + t.bd.length < 9223372036854775807 → (t.rn ps c).1.bd.Perm (seqV c t.bd.length) ∧ (t.rn ps c).2 = c + t.bd.length := by
  intro d
  induction d with
  | zero => intro t _ _ h; exact h.elim
  | succ d ih =>
  intro t ps c hR h0 hb
  obtain ⟨k, n, a, b, vs, xs, cs⟩ := t
  have hR' := hR
  obtain ⟨hk, hmany, _, hx, hc⟩ := hR'
  rw [Tm.rn]
  by_cases hk1 : k = 1
  · subst hk1
    unfold manyB at hmany
    simp at hmany
    obtain ⟨rfl, rfl⟩ := hmany
    rw [if_pos rfl]
    exact ⟨by simp [Tm.bd, Tm.bdL, Cs.bdL, seqV], by simp [Tm.bd, Tm.bdL, Cs.bdL]⟩
  rw [if_neg hk1]
  by_cases hk6 : k = 6
  · obtain ⟨x, y, rfl, rfl⟩ := rt_let hR hk6
    subst hk6
    have hl : (Tm.mk 6 n a b vs [x, y] []).bd.length = x.bd.length + (1 + y.bd.length) := by simp [Tm.bd, Tm.bdL, Cs.bdL]; omega
    rw [hl] at hb ⊢
    obtain ⟨h1, h2⟩ := ih x ps c (hx x (by simp)) h0 (by push_cast at hb ⊢; omega)
    have hw : wr (c + x.bd.length + 1) = c + x.bd.length + 1 := wr_of (by omega) (by push_cast at hb; omega)
    obtain ⟨h3, h4⟩ := ih y (ps ++ [(a, vNm (c + x.bd.length + 1))]) (c + x.bd.length + 1) (hx y (by simp)) (by omega) (by push_cast at hb ⊢; omega)
    refine ⟨?_, ?_⟩
    · simp [Tm.rns, Cs.rnL, Tm.bd, Tm.bdL, Cs.bdL, h2, hw]
      rw [seqV_add, seqV_add, seqV_one, show c + (x.bd.length : Int) + ((1 : Nat) : Int) = c + x.bd.length + 1 from by omega]
      refine List.Perm.trans ?_ ((List.perm_middle (a := vNm (c + x.bd.length + 1)) (l₁ := seqV c x.bd.length) (l₂ := seqV (c + x.bd.length + 1) y.bd.length)).symm)
      exact List.Perm.cons _ (h1.append h3)
    · simp [Tm.rns, Cs.rnL, h2, hw, h4]; omega
  · have hL : ∀ (ys : List Tm) (i : Nat) (nm : ByteArray) (c : Int), (∀ y ∈ ys, y ∈ xs) → 0 ≤ c → c + (Tm.bdL ys).length < 9223372036854775807 → (Tm.bdL (Tm.rns k a ps i ys nm c).1).Perm (seqV c (Tm.bdL ys).length) ∧ (Tm.rns k a ps i ys nm c).2.2 = c + (Tm.bdL ys).length := by
      intro ys
      induction ys with
      | nil => intro i nm c _ _ _; exact ⟨by simp [Tm.rns, Tm.bdL, seqV], by simp [Tm.rns, Tm.bdL]⟩
      | cons y r ih2 =>
        intro i nm c hm h0 hb
        rw [Tm.bdL, List.length_append] at hb ⊢
        obtain ⟨h1, h2⟩ := ih y ps c (hx y (hm y (List.mem_cons_self ..))) h0 (by push_cast at hb; omega)
        obtain ⟨h3, h4⟩ := ih2 (i + 1) nm (c + y.bd.length) (fun z hz => hm z (List.mem_cons_of_mem _ hz)) (by omega) (by push_cast at hb; omega)
        rw [Tm.rns, if_neg fun h => hk6 h.1, h2]
        dsimp only
        rw [Tm.bdL, seqV_add]
        exact ⟨h1.append h3, by rw [h4]; push_cast; omega⟩
    have hC : ∀ (ys : List Cs) (c : Int), (∀ y ∈ ys, y ∈ cs) → 0 ≤ c → c + (Cs.bdL ys).length < 9223372036854775807 → (Cs.bdL (Cs.rnL ys ps c).1).Perm (seqV c (Cs.bdL ys).length) ∧ (Cs.rnL ys ps c).2 = c + (Cs.bdL ys).length := by
      intro ys
      induction ys with
      | nil => intro c _ _ _; exact ⟨by simp [Cs.rnL, Cs.bdL, seqV], by simp [Cs.rnL, Cs.bdL]⟩
      | cons y r ih2 =>
        intro c hm h0 hb
        have hy := hm y (List.mem_cons_self ..)
        obtain ⟨t, ws, y⟩ := y
        rw [Cs.bdL, Cs.bd, List.length_append, List.length_append] at hb ⊢
        obtain ⟨e1, e2⟩ := freshL_seq ws c h0 (by push_cast at hb; omega)
        obtain ⟨h1, h2⟩ := ih y (ps ++ ws.zip (freshL ws c)) (c + ws.length) (hc _ hy).2 (by omega) (by push_cast at hb; omega)
        obtain ⟨h3, h4⟩ := ih2 (c + ws.length + y.bd.length) (fun z hz => hm z (List.mem_cons_of_mem _ hz)) (by omega) (by push_cast at hb; omega)
        rw [Cs.rnL, Cs.rn, e2, h2]
        dsimp only
        rw [Cs.bdL, Cs.bd, seqV_add, seqV_add, show c + ((ws.length + y.bd.length : Nat) : Int) = c + ws.length + y.bd.length from by push_cast; omega, e1]
        exact ⟨((List.Perm.refl _).append (by rw [← e1]; exact h1)).append h3, by rw [h4]; push_cast; omega⟩
    have hl : (Tm.mk k n a b vs xs cs).bd.length = (Tm.bdL xs).length + (Cs.bdL cs).length := by simp [Tm.bd, hk6]
    rw [hl] at hb ⊢
    obtain ⟨h1, h2⟩ := hL xs 0 a c (fun _ h => h) h0 (by push_cast at hb; omega)
    obtain ⟨h3, h4⟩ := hC cs (c + (Tm.bdL xs).length) (fun _ h => h) (by omega) (by push_cast at hb; omega)
    rw [h2]
    dsimp only
    rw [Tm.bd, if_neg hk6, List.nil_append, seqV_add]
    exact ⟨h1.append h3, by rw [h4]; push_cast; omega⟩
def decVal (l : List UInt8) : Nat := l.foldl (fun a c => a * 10 + (c.toNat - 48)) 0
theorem decVal_digits (u : Nat) : decVal (Lib.decDigits u) = u := by
  induction u using Nat.strongRecOn with
  | _ u ih =>
    by_cases h : u < 10
    · rw [Lib.decDigits, dif_pos h]
      have h1 : (UInt8.ofNat (48 + u)).toNat = 48 + u := by rw [UInt8.toNat_ofNat']; omega
      simp only [decVal, List.foldl_cons, List.foldl_nil, h1]
      omega
    · rw [Lib.decDigits, dif_neg h]
      have h1 : (UInt8.ofNat (48 + u % 10)).toNat = 48 + u % 10 := by rw [UInt8.toNat_ofNat']; omega
      have h2 := ih (u / 10) (by omega)
      unfold decVal at h2 ⊢
      rw [List.foldl_append, h2, List.foldl_cons, List.foldl_nil, h1]
      omega
theorem itoaB_inj {a b : Int} (ha : 0 ≤ a) (hb : 0 ≤ b) (h : itoaB a = itoaB b) : a = b := by
  unfold itoaB Lib.itoa at h
  rw [if_neg (by omega), if_neg (by omega)] at h
  injection h with h
  have h1 : Lib.decDigits a.toNat = Lib.decDigits b.toNat := by
    have := congrArg Array.toList h
    simpa using this
  have h2 := congrArg decVal h1
  rw [decVal_digits, decVal_digits] at h2
  omega
theorem append_left_inj {p a b : ByteArray} (h : p ++ a = p ++ b) : a = b := by
  have h1 := congrArg (fun x : ByteArray => x.data.toList) h
  simp only [ByteArray.data_append, Array.toList_append] at h1
  have h2 := List.append_cancel_left h1
  obtain ⟨a⟩ := a
  obtain ⟨b⟩ := b
  congr 1
  exact Array.toList_inj.1 h2
theorem vNm_inj {a b : Int} (ha : 0 ≤ a) (hb : 0 ≤ b) (h : vNm a = vNm b) : a = b := itoaB_inj ha hb (append_left_inj h)
theorem seqV_nodup {c : Int} (hc : 0 ≤ c) (n : Nat) : (seqV c n).Nodup := by
  unfold seqV
  rw [List.nodup_iff_pairwise_ne, List.pairwise_map]
  refine List.Pairwise.imp ?_ List.nodup_range
  intro a b hab e
  have := vNm_inj (by omega) (by omega) e
  omega
def Fn.bd (f : Fn) : List ByteArray := f.params ++ f.body.bd
end Go.Proofs.YtapiiklnnkkdlaaDoor

namespace Go.Proofs.YtapiiklnnkkdlaaDoor
open Go.RowKit Go.Shelf
set_option linter.unusedVariables false
set_option linter.unusedSimpArgs false
attribute [local go_sem] Oper.semAt_some
def KpB (n₀ Bs : Nat) (A B : World) : Prop := Below n₀ A B ∧ B.cell? ⟨Bs, 0, none⟩ = A.cell? ⟨Bs, 0, none⟩
theorem KpB.refl (n₀ Bs : Nat) (A : World) : KpB n₀ Bs A A := ⟨Below.refl _ _, rfl⟩
theorem KpB.trans {n₀ Bs : Nat} {A B C : World} (h : KpB n₀ Bs A B) (k : KpB n₀ Bs B C) : KpB n₀ Bs A C := ⟨h.1.trans k.1, k.2.trans h.2⟩
end Go.Proofs.YtapiiklnnkkdlaaDoor
