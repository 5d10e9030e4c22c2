/- names.changer: term's functions. Printed by a small program. -/
import Derived.Test.YtialccgjbanmcaaDoorNameC
namespace Go.Proofs.YtialccgjbanmcaaDoor
open Go.RowKit
attribute [local simp] runD mkRc ldOf ldArg noAny dstOk guardOk opEff opEff0 effOp pureOp callOp zEff evA constAV frGet memGet startAS frOf isGoCall idIn AS.after nextR opnIds objIds AV.ids idsL AObj.ids frNo memNo opnAny isAny mkVal rdCells wrCells fldAddr idxAddr srcRows litRows toD1 toDs setAt sliceAV optI partAV bldAV fillAV binAV binI AV.cells callEff calleeOf frKill memKill AV.kill AObj.kill AV.has AV.hasL Op.operands Call.operands keepF keepM viewIds cChk renOf moGet moWs moQ cEff moLike moHave AV.ren renL AObj.ren AObj.like kept startC moMem AV.frz frz1 frzL frSub memSub frzs AS.frz frFrz memFrz AObj.frz takeMap takeLen bleF Nat.ble_eq memAny objAny mapOp D.keyOk rowAV valRow extOp wrapOp phO
set_option linter.unusedVariables false
set_option linter.unusedSimpArgs false

def TermN (N : Nat) : Prop := ∀ (t : Tm) (ps : Ps) (c : Int), t.Rt N → t.Ok → ps.length + 6 * N ≤ 1000 →
  CSpec Tryd.prog 64 [.ptr 1000 0, tmAV t] [(1000, chO ps.length c), (500, frO ps), (501, toO ps)] (tmAV (t.rn ps c).1) [(1000, chO ps.length (t.rn ps c).2), (500, frO ps), (501, toO ps)]
set_option maxRecDepth 20000 in
set_option maxHeartbeats 16000000 in
theorem cs_term1 (ps : Ps) (c c2 : Int) (v : ByteArray) (tk tn : Int) (ta tb : ByteArray) (tvs : List ByteArray) (tcs : List Cs) (r0 : List D) (yk yn zk zn : Int) (ya yb za zb : ByteArray) (yvs zvs : List ByteArray) (yxs zxs : List Tm) (ycs zcs : List Cs)
    (hx : CSpec Tryd.prog 64 [.ptr 1000 0, tmAV (.mk yk yn ya yb yvs yxs ycs)] [(1000, chO ps.length c), (500, frO ps), (501, toO ps)] (tmAV (.mk zk zn za zb zvs zxs zcs)) [(1000, chO ps.length c2), (500, frO ps), (501, toO ps)]) :
    CSpec Tryd.prog 92 [.d (.sl [[.str v]]), .ptr 1001 0, .ptr 1002 0] [(1000, .blk 76 [.arr 500 0 ps.length, .arr 501 0 ps.length, .d (.int c)]), (500, .arr 9 1 (ps.map frR)), (501, .arr 9 1 (ps.map toR)), (1001, .blk 32 [.d (.int tk), .d (.int tn), .d (.str ta), .d (.str tb), .d (strsD tvs), .arr 1003 0 2, .arr 1004 0 tcs.length]), (1002, .blk 74 [.ptr 1000 0]), (1003, .arr 32 7 ([r0, Tm.row (.mk yk yn ya yb yvs yxs ycs)])), (1004, .arr 50 9 (tcs.map Cs.row))] (.tuple []) [(1000, .blk 76 [.arr 500 0 ps.length, .arr 501 0 ps.length, .d (.int c2)]), (500, .arr 9 1 (ps.map frR)), (501, .arr 9 1 (ps.map toR)), (1001, .blk 32 [.d (.int tk), .d (.int tn), .d (.str v), .d (.str tb), .d (strsD tvs), .arr 1003 0 2, .arr 1004 0 tcs.length]), (1002, .blk 74 [.ptr 1000 0]), (1003, .arr 32 7 ([r0, Tm.row (.mk zk zn za zb zvs zxs zcs)])), (1004, .arr 50 9 (tcs.map Cs.row))] := by
  refine CSpec.of Tryd.func92 rfl rfl (Nat.le_of_ble_eq_true rfl) ?_
  show AWp _ _ (endC _ Tryd.f92 _ _) (startC 17 _ _)
  repeat (first | refine AWp.seq ?_ | refine AWp.block ?_)
  apply AWp.reg [] []
  · conv => lhs; simp [Tm.row, Tm.rows_eq, Cs.rows_eq]
  · (repeat' apply And.intro) <;> first | omega | assumption | trivial | (intros; subst_vars; rfl) | (intro i r h; rcases i with _ | i <;> simp at h; subst h; rfl) | (simp [inI, maxLen]; done) | (simp [inI, maxLen]; omega)
  repeat (first | refine AWp.seq ?_ | refine AWp.block ?_)
  apply AWp.draw [] [.c [] [.ptr 1000 0, .agg [.d (.int yk), .d (.int yn), .d (.str ya), .d (.str yb), .d (strsD yvs), .d (.sl (yxs.map Tm.row)), .d (.sl (ycs.map Cs.row))]] [(1000, .blk 76 [.arr 500 0 ps.length, .arr 501 0 ps.length, .d (.int c)]), (500, .arr 9 1 (ps.map frR)), (501, .arr 9 1 (ps.map toR))] (.agg [.d (.int zk), .d (.int zn), .d (.str za), .d (.str zb), .d (strsD zvs), .d (.sl (zxs.map Tm.row)), .d (.sl (zcs.map Cs.row))]) [(1000, .blk 76 [.arr 500 0 ps.length, .arr 501 0 ps.length, .d (.int c2)]), (500, .arr 9 1 (ps.map frR)), (501, .arr 9 1 (ps.map toR))]] mixed
  · conv => lhs; simp [Tm.row, Tm.rows_eq, Cs.rows_eq]
  · kernel_rfl
  · (repeat' apply And.intro) <;> first | omega | assumption | trivial | (intros; subst_vars; rfl) | (intro i r h; rcases i with _ | i <;> simp at h; subst h; rfl) | (simp [inI, maxLen]; done) | (simp [inI, maxLen]; omega)
  try dsimp only [thenQ, blockQ]
  apply endC.normal
  · rfl
  · conv => lhs; simp [resAV, Tryd.results92]
  · rfl
  · simp [moEnd, memGet, Tm.row, Tm.rows_eq, Cs.rows_eq]

set_option maxRecDepth 20000 in
set_option maxHeartbeats 16000000 in
theorem cs_term2 (ps : Ps) (c c2 : Int) (us dws : List ByteArray) (dt : Int) (j : Nat) (R R1 R2 : List (List D)) (yk yn zk zn : Int) (ya yb za zb : ByteArray) (yvs zvs : List ByteArray) (yxs zxs : List Tm) (ycs zcs : List Cs)
    (hR0 : R[j]? = some [.int dt, strsD dws, .int yk, .int yn, .str ya, .str yb, strsD yvs, .sl (yxs.map Tm.row), .sl (ycs.map Cs.row)]) (hR1 : R.set j [.int dt, strsD us, .int yk, .int yn, .str ya, .str yb, strsD yvs, .sl (yxs.map Tm.row), .sl (ycs.map Cs.row)] = R1) (hR1g : R1[j]? = some [.int dt, strsD us, .int yk, .int yn, .str ya, .str yb, strsD yvs, .sl (yxs.map Tm.row), .sl (ycs.map Cs.row)]) (hR2 : R1.set j [.int dt, strsD us, .int zk, .int zn, .str za, .str zb, strsD zvs, .sl (zxs.map Tm.row), .sl (zcs.map Cs.row)] = R2)
    (hx : CSpec Tryd.prog 64 [.ptr 1000 0, tmAV (.mk yk yn ya yb yvs yxs ycs)] [(1000, chO ps.length c), (500, frO ps), (501, toO ps)] (tmAV (.mk zk zn za zb zvs zxs zcs)) [(1000, chO ps.length c2), (500, frO ps), (501, toO ps)]) :
    CSpec Tryd.prog 93 [strsAV us, .ptr 1001 0, .ptr 1002 0] [(1000, .blk 76 [.arr 500 0 ps.length, .arr 501 0 ps.length, .d (.int c)]), (500, .arr 9 1 (ps.map frR)), (501, .arr 9 1 (ps.map toR)), (1001, .blk 104 [.eptr 1003 j 0]), (1002, .blk 74 [.ptr 1000 0]), (1003, .arr 50 9 R)] (.tuple []) [(1000, .blk 76 [.arr 500 0 ps.length, .arr 501 0 ps.length, .d (.int c2)]), (500, .arr 9 1 (ps.map frR)), (501, .arr 9 1 (ps.map toR)), (1001, .blk 104 [.eptr 1003 j 0]), (1002, .blk 74 [.ptr 1000 0]), (1003, .arr 50 9 R2)] := by
  refine CSpec.of Tryd.func93 rfl rfl (Nat.le_of_ble_eq_true rfl) ?_
  show AWp _ _ (endC _ Tryd.f93 _ _) (startC 17 _ _)
  repeat (first | refine AWp.seq ?_ | refine AWp.block ?_)
  apply AWp.reg [] []
  · conv => lhs; simp [Tm.row, Tm.rows_eq, Cs.rows_eq, hR0, hR1]
  · (repeat' apply And.intro) <;> first | omega | assumption | trivial | (intros; subst_vars; rfl) | (intro i r h; rcases i with _ | i <;> simp at h; subst h; rfl) | (simp [inI, maxLen]; done) | (simp [inI, maxLen]; omega)
  repeat (first | refine AWp.seq ?_ | refine AWp.block ?_)
  apply AWp.draw [] [.c [] [.ptr 1000 0, .agg [.d (.int yk), .d (.int yn), .d (.str ya), .d (.str yb), .d (strsD yvs), .d (.sl (yxs.map Tm.row)), .d (.sl (ycs.map Cs.row))]] [(1000, .blk 76 [.arr 500 0 ps.length, .arr 501 0 ps.length, .d (.int c)]), (500, .arr 9 1 (ps.map frR)), (501, .arr 9 1 (ps.map toR))] (.agg [.d (.int zk), .d (.int zn), .d (.str za), .d (.str zb), .d (strsD zvs), .d (.sl (zxs.map Tm.row)), .d (.sl (zcs.map Cs.row))]) [(1000, .blk 76 [.arr 500 0 ps.length, .arr 501 0 ps.length, .d (.int c2)]), (500, .arr 9 1 (ps.map frR)), (501, .arr 9 1 (ps.map toR))]] mixed
  · conv => lhs; simp [Tm.row, Tm.rows_eq, Cs.rows_eq, hR1g, hR2]
  · kernel_rfl
  · (repeat' apply And.intro) <;> first | omega | assumption | trivial | (intros; subst_vars; rfl) | (intro i r h; rcases i with _ | i <;> simp at h; subst h; rfl) | (simp [inI, maxLen]; done) | (simp [inI, maxLen]; omega)
  try dsimp only [thenQ, blockQ]
  apply endC.normal
  · rfl
  · conv => lhs; simp [resAV, Tryd.results93]
  · rfl
  · simp [moEnd, memGet]

end Go.Proofs.YtialccgjbanmcaaDoor
