/- plain.maker: fresh, simple, all and their functions. Printed by a small program. -/
import Derived.Test.YtialccgjbanmcaaDoorPlainP
import Derived.Test.YtialccgjbanmcaaDoorNameB
namespace Go.Proofs.YtialccgjbanmcaaDoor
open Go.RowKit
attribute [local simp] runD mkRc ldOf ldArg noAny dstOk guardOk opEff opEff0 effOp pureOp callOp zEff evA constAV frGet memGet startAS frOf isGoCall idIn AS.after nextR opnIds objIds AV.ids idsL AObj.ids frNo memNo opnAny isAny mkVal rdCells wrCells fldAddr idxAddr srcRows litRows toD1 toDs setAt sliceAV optI partAV bldAV fillAV binAV binI AV.cells callEff calleeOf frKill memKill AV.kill AObj.kill AV.has AV.hasL Op.operands Call.operands keepF keepM viewIds cChk renOf moGet moWs moQ cEff moLike moHave AV.ren renL AObj.ren AObj.like kept startC moMem AV.frz frz1 frzL frSub memSub frzs AS.frz frFrz memFrz AObj.frz takeMap takeLen bleF Nat.ble_eq memAny objAny mapOp D.keyOk rowAV valRow extOp wrapOp phO frLow memLow memLow1 objLow memEmpty Low LowL
set_option linter.unusedVariables false
set_option linter.unusedSimpArgs false

abbrev mkO (c : Int) : AObj := .blk 83 [.d (.int c)]
theorem tmrl (a : Tm) : a.row.length = 7 := by cases a; simp [Tm.row]
set_option maxRecDepth 20000 in
set_option maxHeartbeats 16000000 in
theorem cs_mkFresh (c : Int) : CSpec Tryd.prog 119 [.ptr 1000 0] [(1000, mkO c)] (.d (.str (wNm (wr (c + 1))))) [(1000, mkO (wr (c + 1)))] := by
  obtain ⟨e, he⟩ : ∃ e : Int, wr (c + 1) = e := ⟨_, rfl⟩
  rw [he]
  have heI : inI e := by rw [← he]; exact wr_in _
  have hit := sp_Itoa e heI
  have hsz := itoaB_size heI
  have h1s : (⟨#[119]⟩ : ByteArray).size = 1 := rfl
  rw [wNm]
  refine CSpec.of Tryd.func119 rfl rfl (Nat.le_of_ble_eq_true rfl) ?_
  show AWp _ _ (endC _ Tryd.f119 _ _) (startC 16 _ _)
  repeat (first | refine AWp.seq ?_ | refine AWp.block ?_)
  apply AWp.reg [] []
  · conv => lhs; simp [lit119]
  · (repeat' apply And.intro) <;> first | omega | assumption | trivial | (intros; subst_vars; rfl) | (intro i r h; rcases i with _ | i <;> simp at h; subst h; rfl) | (simp [inI, maxLen]; done) | (simp [inI, maxLen]; omega)
  repeat (first | refine AWp.seq ?_ | refine AWp.block ?_)
  apply AWp.reg [4] []
  · conv => lhs; simp [lit119, he]
  · (repeat' apply And.intro) <;> first | omega | assumption | trivial | (intros; subst_vars; rfl) | (intro i r h; rcases i with _ | i <;> simp at h; subst h; rfl) | (simp [inI, maxLen]; done) | (simp [inI, maxLen]; omega)
  repeat (first | refine AWp.seq ?_ | refine AWp.block ?_)
  apply AWp.reg [] [.p (fun _ => .d (.str (itoaB e))) none]
  · conv => lhs; simp [lit119, he]
  · (repeat' apply And.intro) <;> first | omega | assumption | trivial | (intros; subst_vars; rfl) | (intro i r h; rcases i with _ | i <;> simp at h; subst h; rfl) | (simp [inI, maxLen]; done) | (simp [inI, maxLen]; omega)
  refine AWp.ret ?_
  try dsimp only [thenQ, blockQ]
  apply endC.ret
  · rfl
  · conv => lhs; simp [resAV, Tryd.results119]
  · rfl
  · simp [moEnd, memGet, wNm]

set_option maxRecDepth 20000 in
set_option maxHeartbeats 16000000 in
theorem cs_simpleA1 (c c1 c2 e : Int) (s : ByteArray) (l done : List Tm) (tk tn : Int) (ta tb : ByteArray) (tvs : List ByteArray) (txs : List Tm) (tcs : List Cs) (xk xn : Int) (xa xb : ByteArray) (xvs : List ByteArray) (xxs : List Tm) (xcs : List Cs) (yk yn : Int) (ya yb : ByteArray) (yvs : List ByteArray) (yxs : List Tm) (ycs : List Cs) (zk zn : Int) (za zb : ByteArray) (zvs : List ByteArray) (zxs : List Tm) (zcs : List Cs) 
    (hcl : CSpec Tryd.prog 118 [tmAV (.mk 1 xn xa xb xvs xxs xcs), .ptr 1001 0, .ptr 1002 0, .ptr 1003 0, .ptr 1004 0] [(1000, .blk 83 [.d (.int c)]), (1001, .blk 81 [.ptr 1000 0]), (1002, .blk 29 [.d (.sl (l.map Tm.row))]), (1003, .blk 29 [.d (.sl (done.map Tm.row))]), (1004, .blk 113 [.clo 100 [.ptr 1005 0]]), (1005, .blk 32 [.d (.int tk), .d (.int tn), .d (.str ta), .d (.str tb), .d (strsD tvs), .d (.sl (txs.map Tm.row)), .d (.sl (tcs.map Cs.row))])] (tmAV (.mk zk zn za zb zvs zxs zcs)) [(1000, .blk 83 [.d (.int c2)]), (1001, .blk 81 [.ptr 1000 0]), (1002, .blk 29 [.d (.sl (l.map Tm.row))]), (1003, .blk 29 [.d (.sl (done.map Tm.row))]), (1004, .blk 113 [.clo 100 [.ptr 1005 0]]), (1005, .blk 32 [.d (.int tk), .d (.int tn), .d (.str ta), .d (.str tb), .d (strsD tvs), .d (.sl (txs.map Tm.row)), .d (.sl (tcs.map Cs.row))])]) :
    CSpec Tryd.prog 101 [.ptr 1000 0, tmAV (.mk 1 xn xa xb xvs xxs xcs), .clo 118 [.ptr 1001 0, .ptr 1002 0, .ptr 1003 0, .ptr 1004 0]] [(1000, .blk 83 [.d (.int c)]), (1001, .blk 81 [.ptr 1000 0]), (1002, .blk 29 [.d (.sl (l.map Tm.row))]), (1003, .blk 29 [.d (.sl (done.map Tm.row))]), (1004, .blk 113 [.clo 100 [.ptr 1005 0]]), (1005, .blk 32 [.d (.int tk), .d (.int tn), .d (.str ta), .d (.str tb), .d (strsD tvs), .d (.sl (txs.map Tm.row)), .d (.sl (tcs.map Cs.row))])] (tmAV (.mk zk zn za zb zvs zxs zcs)) [(1000, .blk 83 [.d (.int c2)]), (1001, .blk 81 [.ptr 1000 0]), (1002, .blk 29 [.d (.sl (l.map Tm.row))]), (1003, .blk 29 [.d (.sl (done.map Tm.row))]), (1004, .blk 113 [.clo 100 [.ptr 1005 0]]), (1005, .blk 32 [.d (.int tk), .d (.int tn), .d (.str ta), .d (.str tb), .d (strsD tvs), .d (.sl (txs.map Tm.row)), .d (.sl (tcs.map Cs.row))])] := by
  refine CSpec.of Tryd.func101 rfl rfl (Nat.le_of_ble_eq_true rfl) ?_
  show AWp _ _ (endC _ Tryd.f101 _ _) (startC 28 _ _)
  repeat (first | refine AWp.seq ?_ | refine AWp.block ?_)
  apply AWp.reg [] []
  · conv => lhs; simp [Tm.row, Tm.rows_eq, Cs.rows_eq]
  · (repeat' apply And.intro) <;> first | omega | assumption | trivial | (intros; subst_vars; rfl) | (intro i r h; rcases i with _ | i <;> simp at h; subst h; rfl) | (simp [inI, maxLen]; done) | (simp [inI, maxLen]; omega)
  repeat (first | refine AWp.seq ?_ | refine AWp.block ?_)
  apply AWp.reg [] []
  · conv => lhs; simp [Tm.row, Tm.rows_eq, Cs.rows_eq]
  · (repeat' apply And.intro) <;> first | omega | assumption | trivial | (intros; subst_vars; rfl) | (intro i r h; rcases i with _ | i <;> simp at h; subst h; rfl) | (simp [inI, maxLen]; done) | (simp [inI, maxLen]; omega)
  repeat (first | refine AWp.seq ?_ | refine AWp.block ?_)
  refine AWp.cond rfl (fun hc => ?_) (fun hc => ?_)
  rotate_left
  · cases hc
  repeat (first | refine AWp.seq ?_ | refine AWp.block ?_)
  apply AWp.reg [] [.c [] [.agg [.d (.int 1), .d (.int xn), .d (.str xa), .d (.str xb), .d (strsD xvs), .d (.sl (xxs.map Tm.row)), .d (.sl (xcs.map Cs.row))], .ptr 1001 0, .ptr 1002 0, .ptr 1003 0, .ptr 1004 0] [(1000, .blk 83 [.d (.int c)]), (1001, .blk 81 [.ptr 1000 0]), (1002, .blk 29 [.d (.sl (l.map Tm.row))]), (1003, .blk 29 [.d (.sl (done.map Tm.row))]), (1004, .blk 113 [.clo 100 [.ptr 1005 0]]), (1005, .blk 32 [.d (.int tk), .d (.int tn), .d (.str ta), .d (.str tb), .d (strsD tvs), .d (.sl (txs.map Tm.row)), .d (.sl (tcs.map Cs.row))])] (.agg [.d (.int zk), .d (.int zn), .d (.str za), .d (.str zb), .d (strsD zvs), .d (.sl (zxs.map Tm.row)), .d (.sl (zcs.map Cs.row))]) [(1000, .blk 83 [.d (.int c2)]), (1001, .blk 81 [.ptr 1000 0]), (1002, .blk 29 [.d (.sl (l.map Tm.row))]), (1003, .blk 29 [.d (.sl (done.map Tm.row))]), (1004, .blk 113 [.clo 100 [.ptr 1005 0]]), (1005, .blk 32 [.d (.int tk), .d (.int tn), .d (.str ta), .d (.str tb), .d (strsD tvs), .d (.sl (txs.map Tm.row)), .d (.sl (tcs.map Cs.row))])]]
  · conv => lhs; simp [Tm.row, Tm.rows_eq, Cs.rows_eq]
  · (repeat' apply And.intro) <;> first | omega | assumption | trivial | (intros; subst_vars; rfl) | (intro i r h; rcases i with _ | i <;> simp at h; subst h; rfl) | (simp [inI, maxLen]; done) | (simp [inI, maxLen]; omega)
  refine AWp.ret ?_
  try dsimp only [thenQ, blockQ]
  apply endC.ret
  · rfl
  · conv => lhs; simp [resAV, Tryd.results101]
  · first | rfl | simp [resVal, tmAV, Tm.row, Tm.rows_eq, Cs.rows_eq, AV.nilD, nilDL, strsD]
  · simp [moEnd, memGet]

set_option maxRecDepth 20000 in
set_option maxHeartbeats 16000000 in
theorem cs_simpleA2 (c c1 c2 e : Int) (s : ByteArray) (l done : List Tm) (tk tn : Int) (ta tb : ByteArray) (tvs : List ByteArray) (txs : List Tm) (tcs : List Cs) (xk xn : Int) (xa xb : ByteArray) (xvs : List ByteArray) (xxs : List Tm) (xcs : List Cs) (yk yn : Int) (ya yb : ByteArray) (yvs : List ByteArray) (yxs : List Tm) (ycs : List Cs) (zk zn : Int) (za zb : ByteArray) (zvs : List ByteArray) (zxs : List Tm) (zcs : List Cs) (hk1 : ¬ xk = 1)
    (hfr : CSpec Tryd.prog 119 [.ptr 1000 0] [(1000, mkO c)] (.d (.str s)) [(1000, mkO e)])
    (hx : CSpec Tryd.prog 68 [.ptr 1000 0, tmAV (.mk xk xn xa xb xvs xxs xcs)] [(1000, mkO e)] (tmAV (.mk yk yn ya yb yvs yxs ycs)) [(1000, mkO c1)])
    (hcl : CSpec Tryd.prog 118 [.agg [.d (.int 1), .d (.int 0), .d (.str s), .d (.str .empty), .d (.sl []), .d (.sl []), .d (.sl [])], .ptr 1001 0, .ptr 1002 0, .ptr 1003 0, .ptr 1004 0] [(1000, .blk 83 [.d (.int c1)]), (1001, .blk 81 [.ptr 1000 0]), (1002, .blk 29 [.d (.sl (l.map Tm.row))]), (1003, .blk 29 [.d (.sl (done.map Tm.row))]), (1004, .blk 113 [.clo 100 [.ptr 1005 0]]), (1005, .blk 32 [.d (.int tk), .d (.int tn), .d (.str ta), .d (.str tb), .d (strsD tvs), .d (.sl (txs.map Tm.row)), .d (.sl (tcs.map Cs.row))])] (tmAV (.mk zk zn za zb zvs zxs zcs)) [(1000, .blk 83 [.d (.int c2)]), (1001, .blk 81 [.ptr 1000 0]), (1002, .blk 29 [.d (.sl (l.map Tm.row))]), (1003, .blk 29 [.d (.sl (done.map Tm.row))]), (1004, .blk 113 [.clo 100 [.ptr 1005 0]]), (1005, .blk 32 [.d (.int tk), .d (.int tn), .d (.str ta), .d (.str tb), .d (strsD tvs), .d (.sl (txs.map Tm.row)), .d (.sl (tcs.map Cs.row))])]) :
    CSpec Tryd.prog 101 [.ptr 1000 0, tmAV (.mk xk xn xa xb xvs xxs xcs), .clo 118 [.ptr 1001 0, .ptr 1002 0, .ptr 1003 0, .ptr 1004 0]] [(1000, .blk 83 [.d (.int c)]), (1001, .blk 81 [.ptr 1000 0]), (1002, .blk 29 [.d (.sl (l.map Tm.row))]), (1003, .blk 29 [.d (.sl (done.map Tm.row))]), (1004, .blk 113 [.clo 100 [.ptr 1005 0]]), (1005, .blk 32 [.d (.int tk), .d (.int tn), .d (.str ta), .d (.str tb), .d (strsD tvs), .d (.sl (txs.map Tm.row)), .d (.sl (tcs.map Cs.row))])] (tmAV (.mk 6 0 s .empty [] [.mk yk yn ya yb yvs yxs ycs, .mk zk zn za zb zvs zxs zcs] [])) [(1000, .blk 83 [.d (.int c2)]), (1001, .blk 81 [.ptr 1000 0]), (1002, .blk 29 [.d (.sl (l.map Tm.row))]), (1003, .blk 29 [.d (.sl (done.map Tm.row))]), (1004, .blk 113 [.clo 100 [.ptr 1005 0]]), (1005, .blk 32 [.d (.int tk), .d (.int tn), .d (.str ta), .d (.str tb), .d (strsD tvs), .d (.sl (txs.map Tm.row)), .d (.sl (tcs.map Cs.row))])] := by
  refine CSpec.of Tryd.func101 rfl rfl (Nat.le_of_ble_eq_true rfl) ?_
  show AWp _ _ (endC _ Tryd.f101 _ _) (startC 28 _ _)
  repeat (first | refine AWp.seq ?_ | refine AWp.block ?_)
  apply AWp.reg [] []
  · conv => lhs; simp [Tm.row, Tm.rows_eq, Cs.rows_eq, hk1]
  · (repeat' apply And.intro) <;> first | omega | assumption | trivial | (intros; subst_vars; rfl) | (intro i r h; rcases i with _ | i <;> simp at h; subst h; rfl) | (simp [inI, maxLen]; done) | (simp [inI, maxLen]; omega)
  repeat (first | refine AWp.seq ?_ | refine AWp.block ?_)
  apply AWp.reg [] []
  · conv => lhs; simp [Tm.row, Tm.rows_eq, Cs.rows_eq, hk1]
  · (repeat' apply And.intro) <;> first | omega | assumption | trivial | (intros; subst_vars; rfl) | (intro i r h; rcases i with _ | i <;> simp at h; subst h; rfl) | (simp [inI, maxLen]; done) | (simp [inI, maxLen]; omega)
  repeat (first | refine AWp.seq ?_ | refine AWp.block ?_)
  refine AWp.cond rfl (fun hc => ?_) (fun hc => ?_)
  · cases hc
  refine AWp.skip ?_
  repeat (first | refine AWp.seq ?_ | refine AWp.block ?_)
  apply AWp.reg [] [.c [] [.ptr 1000 0] [(1000, .blk 83 [.d (.int c)])] (.d (.str s)) [(1000, .blk 83 [.d (.int e)])]]
  · conv => lhs; simp [Tm.row, Tm.rows_eq, Cs.rows_eq, hk1]
  · (repeat' apply And.intro) <;> first | omega | assumption | trivial | (intros; subst_vars; rfl) | (intro i r h; rcases i with _ | i <;> simp at h; subst h; rfl) | (simp [inI, maxLen]; done) | (simp [inI, maxLen]; omega)
  repeat (first | refine AWp.seq ?_ | refine AWp.block ?_)
  apply AWp.reg [] []
  · conv => lhs; simp [Tm.row, Tm.rows_eq, Cs.rows_eq, hk1]
  · (repeat' apply And.intro) <;> first | omega | assumption | trivial | (intros; subst_vars; rfl) | (intro i r h; rcases i with _ | i <;> simp at h; subst h; rfl) | (simp [inI, maxLen]; done) | (simp [inI, maxLen]; omega)
  repeat (first | refine AWp.seq ?_ | refine AWp.block ?_)
  refine AWp.le (Le.low [] [] (fr := [(0, .ptr 1000 0), (2, .clo 118 [.ptr 1001 0, .ptr 1002 0, .ptr 1003 0, .ptr 1004 0]), (4, .ptr 4 0), (6, .ptr 6 0), (7, .d (.str s)), (8, .ptr 8 0)]) (mem := [(4, some (.blk 32 [.d (.int xk), .d (.int xn), .d (.str xa), .d (.str xb), .d (strsD xvs), .d (.sl (xxs.map Tm.row)), .d (.sl (xcs.map Cs.row))])), (6, some (.blk 32 [.d (.int 0), .d (.int 0), .d (.str ByteArray.empty), .d (.str ByteArray.empty), .lit (.slice none 0 0), .lit (.slice none 0 0), .lit (.slice none 0 0)])), (8, some (.blk 32 [.d (.int 1), .d (.int 0), .d (.str s), .d (.str ByteArray.empty), .d (.sl []), .d (.sl []), .d (.sl [])])), (1000, some (.blk 83 [.d (.int e)])), (1001, some (.blk 81 [.ptr 1000 0])), (1002, some (.blk 29 [.d (.sl (l.map Tm.row))])), (1003, some (.blk 29 [.d (.sl (done.map Tm.row))])), (1004, some (.blk 113 [.clo 100 [.ptr 1005 0]])), (1005, some (.blk 32 [.d (.int tk), .d (.int tn), .d (.str ta), .d (.str tb), .d (strsD tvs), .d (.sl (txs.map Tm.row)), .d (.sl (tcs.map Cs.row))]))]) rfl (by simp) (by simp)) ?_
  repeat (first | refine AWp.seq ?_ | refine AWp.block ?_)
  apply AWp.draw [7] [.c [] [.ptr 1000 0, .agg [.d (.int xk), .d (.int xn), .d (.str xa), .d (.str xb), .d (strsD xvs), .d (.sl (xxs.map Tm.row)), .d (.sl (xcs.map Cs.row))]] [(1000, .blk 83 [.d (.int e)])] (.agg [.d (.int yk), .d (.int yn), .d (.str ya), .d (.str yb), .d (strsD yvs), .d (.sl (yxs.map Tm.row)), .d (.sl (ycs.map Cs.row))]) [(1000, .blk 83 [.d (.int c1)])], .c [] [.agg [.d (.int 1), .d (.int 0), .d (.str s), .d (.str ByteArray.empty), .d (.sl []), .d (.sl []), .d (.sl [])], .ptr 1001 0, .ptr 1002 0, .ptr 1003 0, .ptr 1004 0] [(1000, .blk 83 [.d (.int c1)]), (1001, .blk 81 [.ptr 1000 0]), (1002, .blk 29 [.d (.sl (l.map Tm.row))]), (1003, .blk 29 [.d (.sl (done.map Tm.row))]), (1004, .blk 113 [.clo 100 [.ptr 1005 0]]), (1005, .blk 32 [.d (.int tk), .d (.int tn), .d (.str ta), .d (.str tb), .d (strsD tvs), .d (.sl (txs.map Tm.row)), .d (.sl (tcs.map Cs.row))])] (.agg [.d (.int zk), .d (.int zn), .d (.str za), .d (.str zb), .d (strsD zvs), .d (.sl (zxs.map Tm.row)), .d (.sl (zcs.map Cs.row))]) [(1000, .blk 83 [.d (.int c2)]), (1001, .blk 81 [.ptr 1000 0]), (1002, .blk 29 [.d (.sl (l.map Tm.row))]), (1003, .blk 29 [.d (.sl (done.map Tm.row))]), (1004, .blk 113 [.clo 100 [.ptr 1005 0]]), (1005, .blk 32 [.d (.int tk), .d (.int tn), .d (.str ta), .d (.str tb), .d (strsD tvs), .d (.sl (txs.map Tm.row)), .d (.sl (tcs.map Cs.row))])]] mixed
  · conv => lhs; simp [Tm.row, Tm.rows_eq, Cs.rows_eq, hk1]
  · kernel_rfl
  · (repeat' apply And.intro) <;> first | omega | assumption | trivial | (intros; subst_vars; rfl) | (intro i r h; rcases i with _ | i <;> simp at h; subst h; rfl) | (simp [inI, maxLen]; done) | (simp [inI, maxLen]; omega)
  refine AWp.ret ?_
  try dsimp only [thenQ, blockQ]
  apply endC.ret
  · rfl
  · conv => lhs; simp [resAV, Tryd.results101]
  · first | rfl | simp [resVal, tmAV, Tm.row, Tm.rows_eq, Cs.rows_eq, AV.nilD, nilDL, strsD]
  · simp [moEnd, memGet]

set_option maxRecDepth 20000 in
set_option maxHeartbeats 16000000 in
theorem cs_simpleB1 (c c1 c2 e : Int) (s : ByteArray)  (tk tn : Int) (ta tb : ByteArray) (tvs : List ByteArray) (txs : List Tm) (tcs : List Cs) (xk xn : Int) (xa xb : ByteArray) (xvs : List ByteArray) (xxs : List Tm) (xcs : List Cs) (yk yn : Int) (ya yb : ByteArray) (yvs : List ByteArray) (yxs : List Tm) (ycs : List Cs) (zk zn : Int) (za zb : ByteArray) (zvs : List ByteArray) (zxs : List Tm) (zcs : List Cs) 
    (hcl : CSpec Tryd.prog 102 [tmAV (.mk 1 xn xa xb xvs xxs xcs), .ptr 1001 0, .ptr 1002 0] [(1000, .blk 83 [.d (.int c)]), (1001, .blk 32 [.d (.int tk), .d (.int tn), .d (.str ta), .d (.str tb), .d (strsD tvs), .d (.sl (txs.map Tm.row)), .d (.sl (tcs.map Cs.row))]), (1002, .blk 81 [.ptr 1000 0])] (tmAV (.mk zk zn za zb zvs zxs zcs)) [(1000, .blk 83 [.d (.int c2)]), (1001, .blk 32 [.d (.int tk), .d (.int tn), .d (.str ta), .d (.str tb), .d (strsD tvs), .d (.sl (txs.map Tm.row)), .d (.sl (tcs.map Cs.row))]), (1002, .blk 81 [.ptr 1000 0])]) :
    CSpec Tryd.prog 101 [.ptr 1000 0, tmAV (.mk 1 xn xa xb xvs xxs xcs), .clo 102 [.ptr 1001 0, .ptr 1002 0]] [(1000, .blk 83 [.d (.int c)]), (1001, .blk 32 [.d (.int tk), .d (.int tn), .d (.str ta), .d (.str tb), .d (strsD tvs), .d (.sl (txs.map Tm.row)), .d (.sl (tcs.map Cs.row))]), (1002, .blk 81 [.ptr 1000 0])] (tmAV (.mk zk zn za zb zvs zxs zcs)) [(1000, .blk 83 [.d (.int c2)]), (1001, .blk 32 [.d (.int tk), .d (.int tn), .d (.str ta), .d (.str tb), .d (strsD tvs), .d (.sl (txs.map Tm.row)), .d (.sl (tcs.map Cs.row))]), (1002, .blk 81 [.ptr 1000 0])] := by
  refine CSpec.of Tryd.func101 rfl rfl (Nat.le_of_ble_eq_true rfl) ?_
  show AWp _ _ (endC _ Tryd.f101 _ _) (startC 28 _ _)
  repeat (first | refine AWp.seq ?_ | refine AWp.block ?_)
  apply AWp.reg [] []
  · conv => lhs; simp [Tm.row, Tm.rows_eq, Cs.rows_eq]
  · (repeat' apply And.intro) <;> first | omega | assumption | trivial | (intros; subst_vars; rfl) | (intro i r h; rcases i with _ | i <;> simp at h; subst h; rfl) | (simp [inI, maxLen]; done) | (simp [inI, maxLen]; omega)
  repeat (first | refine AWp.seq ?_ | refine AWp.block ?_)
  apply AWp.reg [] []
  · conv => lhs; simp [Tm.row, Tm.rows_eq, Cs.rows_eq]
  · (repeat' apply And.intro) <;> first | omega | assumption | trivial | (intros; subst_vars; rfl) | (intro i r h; rcases i with _ | i <;> simp at h; subst h; rfl) | (simp [inI, maxLen]; done) | (simp [inI, maxLen]; omega)
  repeat (first | refine AWp.seq ?_ | refine AWp.block ?_)
  refine AWp.cond rfl (fun hc => ?_) (fun hc => ?_)
  rotate_left
  · cases hc
  repeat (first | refine AWp.seq ?_ | refine AWp.block ?_)
  apply AWp.reg [] [.c [] [.agg [.d (.int 1), .d (.int xn), .d (.str xa), .d (.str xb), .d (strsD xvs), .d (.sl (xxs.map Tm.row)), .d (.sl (xcs.map Cs.row))], .ptr 1001 0, .ptr 1002 0] [(1000, .blk 83 [.d (.int c)]), (1001, .blk 32 [.d (.int tk), .d (.int tn), .d (.str ta), .d (.str tb), .d (strsD tvs), .d (.sl (txs.map Tm.row)), .d (.sl (tcs.map Cs.row))]), (1002, .blk 81 [.ptr 1000 0])] (.agg [.d (.int zk), .d (.int zn), .d (.str za), .d (.str zb), .d (strsD zvs), .d (.sl (zxs.map Tm.row)), .d (.sl (zcs.map Cs.row))]) [(1000, .blk 83 [.d (.int c2)]), (1001, .blk 32 [.d (.int tk), .d (.int tn), .d (.str ta), .d (.str tb), .d (strsD tvs), .d (.sl (txs.map Tm.row)), .d (.sl (tcs.map Cs.row))]), (1002, .blk 81 [.ptr 1000 0])]]
  · conv => lhs; simp [Tm.row, Tm.rows_eq, Cs.rows_eq]
  · (repeat' apply And.intro) <;> first | omega | assumption | trivial | (intros; subst_vars; rfl) | (intro i r h; rcases i with _ | i <;> simp at h; subst h; rfl) | (simp [inI, maxLen]; done) | (simp [inI, maxLen]; omega)
  refine AWp.ret ?_
  try dsimp only [thenQ, blockQ]
  apply endC.ret
  · rfl
  · conv => lhs; simp [resAV, Tryd.results101]
  · first | rfl | simp [resVal, tmAV, Tm.row, Tm.rows_eq, Cs.rows_eq, AV.nilD, nilDL, strsD]
  · simp [moEnd, memGet]

set_option maxRecDepth 20000 in
set_option maxHeartbeats 16000000 in
theorem cs_simpleB2 (c c1 c2 e : Int) (s : ByteArray)  (tk tn : Int) (ta tb : ByteArray) (tvs : List ByteArray) (txs : List Tm) (tcs : List Cs) (xk xn : Int) (xa xb : ByteArray) (xvs : List ByteArray) (xxs : List Tm) (xcs : List Cs) (yk yn : Int) (ya yb : ByteArray) (yvs : List ByteArray) (yxs : List Tm) (ycs : List Cs) (zk zn : Int) (za zb : ByteArray) (zvs : List ByteArray) (zxs : List Tm) (zcs : List Cs) (hk1 : ¬ xk = 1)
    (hfr : CSpec Tryd.prog 119 [.ptr 1000 0] [(1000, mkO c)] (.d (.str s)) [(1000, mkO e)])
    (hx : CSpec Tryd.prog 68 [.ptr 1000 0, tmAV (.mk xk xn xa xb xvs xxs xcs)] [(1000, mkO e)] (tmAV (.mk yk yn ya yb yvs yxs ycs)) [(1000, mkO c1)])
    (hcl : CSpec Tryd.prog 102 [.agg [.d (.int 1), .d (.int 0), .d (.str s), .d (.str .empty), .d (.sl []), .d (.sl []), .d (.sl [])], .ptr 1001 0, .ptr 1002 0] [(1000, .blk 83 [.d (.int c1)]), (1001, .blk 32 [.d (.int tk), .d (.int tn), .d (.str ta), .d (.str tb), .d (strsD tvs), .d (.sl (txs.map Tm.row)), .d (.sl (tcs.map Cs.row))]), (1002, .blk 81 [.ptr 1000 0])] (tmAV (.mk zk zn za zb zvs zxs zcs)) [(1000, .blk 83 [.d (.int c2)]), (1001, .blk 32 [.d (.int tk), .d (.int tn), .d (.str ta), .d (.str tb), .d (strsD tvs), .d (.sl (txs.map Tm.row)), .d (.sl (tcs.map Cs.row))]), (1002, .blk 81 [.ptr 1000 0])]) :
    CSpec Tryd.prog 101 [.ptr 1000 0, tmAV (.mk xk xn xa xb xvs xxs xcs), .clo 102 [.ptr 1001 0, .ptr 1002 0]] [(1000, .blk 83 [.d (.int c)]), (1001, .blk 32 [.d (.int tk), .d (.int tn), .d (.str ta), .d (.str tb), .d (strsD tvs), .d (.sl (txs.map Tm.row)), .d (.sl (tcs.map Cs.row))]), (1002, .blk 81 [.ptr 1000 0])] (tmAV (.mk 6 0 s .empty [] [.mk yk yn ya yb yvs yxs ycs, .mk zk zn za zb zvs zxs zcs] [])) [(1000, .blk 83 [.d (.int c2)]), (1001, .blk 32 [.d (.int tk), .d (.int tn), .d (.str ta), .d (.str tb), .d (strsD tvs), .d (.sl (txs.map Tm.row)), .d (.sl (tcs.map Cs.row))]), (1002, .blk 81 [.ptr 1000 0])] := by
  refine CSpec.of Tryd.func101 rfl rfl (Nat.le_of_ble_eq_true rfl) ?_
  show AWp _ _ (endC _ Tryd.f101 _ _) (startC 28 _ _)
  repeat (first | refine AWp.seq ?_ | refine AWp.block ?_)
  apply AWp.reg [] []
  · conv => lhs; simp [Tm.row, Tm.rows_eq, Cs.rows_eq, hk1]
  · (repeat' apply And.intro) <;> first | omega | assumption | trivial | (intros; subst_vars; rfl) | (intro i r h; rcases i with _ | i <;> simp at h; subst h; rfl) | (simp [inI, maxLen]; done) | (simp [inI, maxLen]; omega)
  repeat (first | refine AWp.seq ?_ | refine AWp.block ?_)
  apply AWp.reg [] []
  · conv => lhs; simp [Tm.row, Tm.rows_eq, Cs.rows_eq, hk1]
  · (repeat' apply And.intro) <;> first | omega | assumption | trivial | (intros; subst_vars; rfl) | (intro i r h; rcases i with _ | i <;> simp at h; subst h; rfl) | (simp [inI, maxLen]; done) | (simp [inI, maxLen]; omega)
  repeat (first | refine AWp.seq ?_ | refine AWp.block ?_)
  refine AWp.cond rfl (fun hc => ?_) (fun hc => ?_)
  · cases hc
  refine AWp.skip ?_
  repeat (first | refine AWp.seq ?_ | refine AWp.block ?_)
  apply AWp.reg [] [.c [] [.ptr 1000 0] [(1000, .blk 83 [.d (.int c)])] (.d (.str s)) [(1000, .blk 83 [.d (.int e)])]]
  · conv => lhs; simp [Tm.row, Tm.rows_eq, Cs.rows_eq, hk1]
  · (repeat' apply And.intro) <;> first | omega | assumption | trivial | (intros; subst_vars; rfl) | (intro i r h; rcases i with _ | i <;> simp at h; subst h; rfl) | (simp [inI, maxLen]; done) | (simp [inI, maxLen]; omega)
  repeat (first | refine AWp.seq ?_ | refine AWp.block ?_)
  apply AWp.reg [] []
  · conv => lhs; simp [Tm.row, Tm.rows_eq, Cs.rows_eq, hk1]
  · (repeat' apply And.intro) <;> first | omega | assumption | trivial | (intros; subst_vars; rfl) | (intro i r h; rcases i with _ | i <;> simp at h; subst h; rfl) | (simp [inI, maxLen]; done) | (simp [inI, maxLen]; omega)
  repeat (first | refine AWp.seq ?_ | refine AWp.block ?_)
  refine AWp.le (Le.low [] [] (fr := [(0, .ptr 1000 0), (2, .clo 102 [.ptr 1001 0, .ptr 1002 0]), (4, .ptr 4 0), (6, .ptr 6 0), (7, .d (.str s)), (8, .ptr 8 0)]) (mem := [(4, some (.blk 32 [.d (.int xk), .d (.int xn), .d (.str xa), .d (.str xb), .d (strsD xvs), .d (.sl (xxs.map Tm.row)), .d (.sl (xcs.map Cs.row))])), (6, some (.blk 32 [.d (.int 0), .d (.int 0), .d (.str ByteArray.empty), .d (.str ByteArray.empty), .lit (.slice none 0 0), .lit (.slice none 0 0), .lit (.slice none 0 0)])), (8, some (.blk 32 [.d (.int 1), .d (.int 0), .d (.str s), .d (.str ByteArray.empty), .d (.sl []), .d (.sl []), .d (.sl [])])), (1000, some (.blk 83 [.d (.int e)])), (1001, some (.blk 32 [.d (.int tk), .d (.int tn), .d (.str ta), .d (.str tb), .d (strsD tvs), .d (.sl (txs.map Tm.row)), .d (.sl (tcs.map Cs.row))])), (1002, some (.blk 81 [.ptr 1000 0]))]) rfl (by simp) (by simp)) ?_
  repeat (first | refine AWp.seq ?_ | refine AWp.block ?_)
  apply AWp.draw [7] [.c [] [.ptr 1000 0, .agg [.d (.int xk), .d (.int xn), .d (.str xa), .d (.str xb), .d (strsD xvs), .d (.sl (xxs.map Tm.row)), .d (.sl (xcs.map Cs.row))]] [(1000, .blk 83 [.d (.int e)])] (.agg [.d (.int yk), .d (.int yn), .d (.str ya), .d (.str yb), .d (strsD yvs), .d (.sl (yxs.map Tm.row)), .d (.sl (ycs.map Cs.row))]) [(1000, .blk 83 [.d (.int c1)])], .c [] [.agg [.d (.int 1), .d (.int 0), .d (.str s), .d (.str ByteArray.empty), .d (.sl []), .d (.sl []), .d (.sl [])], .ptr 1001 0, .ptr 1002 0] [(1000, .blk 83 [.d (.int c1)]), (1001, .blk 32 [.d (.int tk), .d (.int tn), .d (.str ta), .d (.str tb), .d (strsD tvs), .d (.sl (txs.map Tm.row)), .d (.sl (tcs.map Cs.row))]), (1002, .blk 81 [.ptr 1000 0])] (.agg [.d (.int zk), .d (.int zn), .d (.str za), .d (.str zb), .d (strsD zvs), .d (.sl (zxs.map Tm.row)), .d (.sl (zcs.map Cs.row))]) [(1000, .blk 83 [.d (.int c2)]), (1001, .blk 32 [.d (.int tk), .d (.int tn), .d (.str ta), .d (.str tb), .d (strsD tvs), .d (.sl (txs.map Tm.row)), .d (.sl (tcs.map Cs.row))]), (1002, .blk 81 [.ptr 1000 0])]] mixed
  · conv => lhs; simp [Tm.row, Tm.rows_eq, Cs.rows_eq, hk1]
  · kernel_rfl
  · (repeat' apply And.intro) <;> first | omega | assumption | trivial | (intros; subst_vars; rfl) | (intro i r h; rcases i with _ | i <;> simp at h; subst h; rfl) | (simp [inI, maxLen]; done) | (simp [inI, maxLen]; omega)
  refine AWp.ret ?_
  try dsimp only [thenQ, blockQ]
  apply endC.ret
  · rfl
  · conv => lhs; simp [resAV, Tryd.results101]
  · first | rfl | simp [resVal, tmAV, Tm.row, Tm.rows_eq, Cs.rows_eq, AV.nilD, nilDL, strsD]
  · simp [moEnd, memGet]

set_option maxRecDepth 20000 in
set_option maxHeartbeats 16000000 in
theorem cs_pterm1 (done : List Tm) (tk tn : Int) (ta tb : ByteArray) (tvs : List ByteArray) (txs : List Tm) (tcs : List Cs) :
    CSpec Tryd.prog 100 [.d (.sl (done.map Tm.row)), .ptr 1001 0] [(1001, .blk 32 [.d (.int tk), .d (.int tn), .d (.str ta), .d (.str tb), .d (strsD tvs), .d (.sl (txs.map Tm.row)), .d (.sl (tcs.map Cs.row))])] (tmAV (.mk tk tn ta .empty [] done [])) [(1001, .blk 32 [.d (.int tk), .d (.int tn), .d (.str ta), .d (.str tb), .d (strsD tvs), .d (.sl (txs.map Tm.row)), .d (.sl (tcs.map Cs.row))])] := by
  refine CSpec.of Tryd.func100 rfl rfl (Nat.le_of_ble_eq_true rfl) ?_
  show AWp _ _ (endC _ Tryd.f100 _ _) (startC 12 _ _)
  repeat (first | refine AWp.seq ?_ | refine AWp.block ?_)
  apply AWp.reg [] []
  · conv => lhs; simp [Tm.row, Tm.rows_eq, Cs.rows_eq]
  · (repeat' apply And.intro) <;> first | omega | assumption | trivial | (intros; subst_vars; rfl) | (intro i r h; rcases i with _ | i <;> simp at h; subst h; rfl) | (simp [inI, maxLen]; done) | (simp [inI, maxLen]; omega)
  repeat (first | refine AWp.seq ?_ | refine AWp.block ?_)
  apply AWp.reg [] []
  · conv => lhs; simp [Tm.row, Tm.rows_eq, Cs.rows_eq]
  · (repeat' apply And.intro) <;> first | omega | assumption | trivial | (intros; subst_vars; rfl) | (intro i r h; rcases i with _ | i <;> simp at h; subst h; rfl) | (simp [inI, maxLen]; done) | (simp [inI, maxLen]; omega)
  refine AWp.ret ?_
  try dsimp only [thenQ, blockQ]
  apply endC.ret
  · rfl
  · conv => lhs; simp [resAV, Tryd.results100]
  · first | rfl | simp [resVal, tmAV, Tm.row, Tm.rows_eq, Cs.rows_eq, AV.nilD, nilDL, strsD]
  · simp [moEnd, memGet]

set_option maxRecDepth 20000 in
set_option maxHeartbeats 16000000 in
theorem cs_all1 (c c2 : Int) (x : Tm) (r done dn : List Tm) (tk tn : Int) (ta tb : ByteArray) (tvs : List ByteArray) (txs : List Tm) (tcs : List Cs) (yk yn : Int) (ya yb : ByteArray) (yvs : List ByteArray) (yxs : List Tm) (ycs : List Cs) (zk zn : Int) (za zb : ByteArray) (zvs : List ByteArray) (zxs : List Tm) (zcs : List Cs) (hdl : done.length ≤ 6) (hrl : r.length ≤ 6) (hdn : List.map Tm.row done ++ [[.int yk, .int yn, .str ya, .str yb, strsD yvs, .sl (yxs.map Tm.row), .sl (ycs.map Cs.row)]] = List.map Tm.row dn)
    (hcl : CSpec Tryd.prog 99 [.ptr 1000 0, .d (.sl (r.map Tm.row)), .d (.sl (dn.map Tm.row)), .clo 100 [.ptr 1001 0]] [(1000, mkO c), (1001, .blk 32 [.d (.int tk), .d (.int tn), .d (.str ta), .d (.str tb), .d (strsD tvs), .d (.sl (txs.map Tm.row)), .d (.sl (tcs.map Cs.row))])] (tmAV (.mk zk zn za zb zvs zxs zcs)) [(1000, mkO c2), (1001, .blk 32 [.d (.int tk), .d (.int tn), .d (.str ta), .d (.str tb), .d (strsD tvs), .d (.sl (txs.map Tm.row)), .d (.sl (tcs.map Cs.row))])]) :
    CSpec Tryd.prog 118 [tmAV (.mk yk yn ya yb yvs yxs ycs), .ptr 1001 0, .ptr 1002 0, .ptr 1003 0, .ptr 1004 0] [(1000, .blk 83 [.d (.int c)]), (1001, .blk 81 [.ptr 1000 0]), (1002, .blk 29 [.d (.sl ((x :: r).map Tm.row))]), (1003, .blk 29 [.d (.sl (done.map Tm.row))]), (1004, .blk 113 [.clo 100 [.ptr 1005 0]]), (1005, .blk 32 [.d (.int tk), .d (.int tn), .d (.str ta), .d (.str tb), .d (strsD tvs), .d (.sl (txs.map Tm.row)), .d (.sl (tcs.map Cs.row))])] (tmAV (.mk zk zn za zb zvs zxs zcs)) [(1000, .blk 83 [.d (.int c2)]), (1001, .blk 81 [.ptr 1000 0]), (1002, .blk 29 [.d (.sl ((x :: r).map Tm.row))]), (1003, .blk 29 [.d (.sl (done.map Tm.row))]), (1004, .blk 113 [.clo 100 [.ptr 1005 0]]), (1005, .blk 32 [.d (.int tk), .d (.int tn), .d (.str ta), .d (.str tb), .d (strsD tvs), .d (.sl (txs.map Tm.row)), .d (.sl (tcs.map Cs.row))])] := by
  have hdt : List.take (done.length + 1) (List.map Tm.row dn) = List.map Tm.row dn := by rw [← hdn]; exact List.take_of_length_le (by simp)
  have hl7 : ∀ (i : Nat) (q : List D), (x.row :: List.map Tm.row r)[i]? = some q → q.length = 7 := fun i q h => by
    rcases i with _ | i
    · simp at h; subst h; exact tmrl x
    · simp at h; obtain ⟨a, _, rfl⟩ := h; exact tmrl a
  have hd7 : ∀ (k : Nat) (a : Tm), done[k]? = some a → a.row.length = 7 := fun _ a _ => tmrl a
  have hdr : List.take (r.length + 1 - 1) (List.map Tm.row r) = List.map Tm.row r := List.take_of_length_le (by simp)
  refine CSpec.of Tryd.func118 rfl rfl (Nat.le_of_ble_eq_true rfl) ?_
  show AWp _ _ (endC _ Tryd.f118 _ _) (startC 21 _ _)
  repeat (first | refine AWp.seq ?_ | refine AWp.block ?_)
  apply AWp.reg [] []
  · conv => lhs; simp [Tm.row, Tm.rows_eq, Cs.rows_eq]
  · (repeat' apply And.intro) <;> first | omega | assumption | trivial | (intros; subst_vars; rfl) | (intro i r h; rcases i with _ | i <;> simp at h; subst h; rfl) | (simp [inI, maxLen]; done) | (simp [inI, maxLen]; omega)
  repeat (first | refine AWp.seq ?_ | refine AWp.block ?_)
  apply AWp.draw [11] [.c [(1001, 1005)] [.ptr 1000 0, .d (.sl (r.map Tm.row)), .d (.sl (dn.map Tm.row)), .clo 100 [.ptr 1001 0]] [(1000, .blk 83 [.d (.int c)]), (1001, .blk 32 [.d (.int tk), .d (.int tn), .d (.str ta), .d (.str tb), .d (strsD tvs), .d (.sl (txs.map Tm.row)), .d (.sl (tcs.map Cs.row))])] (.agg [.d (.int zk), .d (.int zn), .d (.str za), .d (.str zb), .d (strsD zvs), .d (.sl (zxs.map Tm.row)), .d (.sl (zcs.map Cs.row))]) [(1000, .blk 83 [.d (.int c2)]), (1001, .blk 32 [.d (.int tk), .d (.int tn), .d (.str ta), .d (.str tb), .d (strsD tvs), .d (.sl (txs.map Tm.row)), .d (.sl (tcs.map Cs.row))])]] mixed
  · conv => lhs; simp [Tm.row, Tm.rows_eq, Cs.rows_eq, hdn, hdr]
  · kernel_rfl
  · (repeat' apply And.intro) <;> first | omega | assumption | trivial | (intros; subst_vars; rfl) | (intro i r h; rcases i with _ | i <;> simp at h; subst h; rfl) | (simp [inI, maxLen]; done) | (simp [inI, maxLen]; omega)
  refine AWp.ret ?_
  try dsimp only [thenQ, blockQ]
  apply endC.ret
  · rfl
  · conv => lhs; simp [resAV, Tryd.results118]
  · first | rfl | simp [resVal, tmAV, Tm.row, Tm.rows_eq, Cs.rows_eq, AV.nilD, nilDL, strsD]
  · simp [moEnd, memGet]

set_option maxRecDepth 20000 in
set_option maxHeartbeats 16000000 in
theorem cs_allN (c c2 : Int) (r done : List Tm) (tk tn : Int) (ta tb : ByteArray) (tvs : List ByteArray) (txs : List Tm) (tcs : List Cs) (xk xn : Int) (xa xb : ByteArray) (xvs : List ByteArray) (xxs : List Tm) (xcs : List Cs) (zk zn : Int) (za zb : ByteArray) (zvs : List ByteArray) (zxs : List Tm) (zcs : List Cs) (hrl : r.length ≤ 6)
    (hcl : CSpec Tryd.prog 100 [.d (.sl (done.map Tm.row)), .ptr 1001 0] [(1001, .blk 32 [.d (.int tk), .d (.int tn), .d (.str ta), .d (.str tb), .d (strsD tvs), .d (.sl (txs.map Tm.row)), .d (.sl (tcs.map Cs.row))])] (tmAV (.mk zk zn za zb zvs zxs zcs)) [(1001, .blk 32 [.d (.int tk), .d (.int tn), .d (.str ta), .d (.str tb), .d (strsD tvs), .d (.sl (txs.map Tm.row)), .d (.sl (tcs.map Cs.row))])]) :
    CSpec Tryd.prog 99 [.ptr 1000 0, .d (.sl ([].map Tm.row)), .d (.sl (done.map Tm.row)), .clo 100 [.ptr 1001 0]] [(1000, .blk 83 [.d (.int c)]), (1001, .blk 32 [.d (.int tk), .d (.int tn), .d (.str ta), .d (.str tb), .d (strsD tvs), .d (.sl (txs.map Tm.row)), .d (.sl (tcs.map Cs.row))])] (tmAV (.mk zk zn za zb zvs zxs zcs)) [(1000, .blk 83 [.d (.int c)]), (1001, .blk 32 [.d (.int tk), .d (.int tn), .d (.str ta), .d (.str tb), .d (strsD tvs), .d (.sl (txs.map Tm.row)), .d (.sl (tcs.map Cs.row))])] := by
  refine CSpec.of Tryd.func99 rfl rfl (Nat.le_of_ble_eq_true rfl) ?_
  show AWp _ _ (endC _ Tryd.f99 _ _) (startC 21 _ _)
  repeat (first | refine AWp.seq ?_ | refine AWp.block ?_)
  apply AWp.reg [] []
  · conv => lhs; simp [Tm.row, Tm.rows_eq, Cs.rows_eq]
  · (repeat' apply And.intro) <;> first | omega | assumption | trivial | (intros; subst_vars; rfl) | (intro i r h; rcases i with _ | i <;> simp at h; subst h; rfl) | (simp [inI, maxLen]; done) | (simp [inI, maxLen]; omega)
  repeat (first | refine AWp.seq ?_ | refine AWp.block ?_)
  apply AWp.reg [] []
  · conv => lhs; simp [Tm.row, Tm.rows_eq, Cs.rows_eq]
  · (repeat' apply And.intro) <;> first | omega | assumption | trivial | (intros; subst_vars; rfl) | (intro i r h; rcases i with _ | i <;> simp at h; subst h; rfl) | (simp [inI, maxLen]; done) | (simp [inI, maxLen]; omega)
  repeat (first | refine AWp.seq ?_ | refine AWp.block ?_)
  refine AWp.cond rfl (fun hc => ?_) (fun hc => ?_)
  rotate_left
  · cases hc
  repeat (first | refine AWp.seq ?_ | refine AWp.block ?_)
  apply AWp.reg [] [.c [] [.d (.sl (done.map Tm.row)), .ptr 1001 0] [(1001, .blk 32 [.d (.int tk), .d (.int tn), .d (.str ta), .d (.str tb), .d (strsD tvs), .d (.sl (txs.map Tm.row)), .d (.sl (tcs.map Cs.row))])] (.agg [.d (.int zk), .d (.int zn), .d (.str za), .d (.str zb), .d (strsD zvs), .d (.sl (zxs.map Tm.row)), .d (.sl (zcs.map Cs.row))]) [(1001, .blk 32 [.d (.int tk), .d (.int tn), .d (.str ta), .d (.str tb), .d (strsD tvs), .d (.sl (txs.map Tm.row)), .d (.sl (tcs.map Cs.row))])]]
  · conv => lhs; simp [Tm.row, Tm.rows_eq, Cs.rows_eq]
  · (repeat' apply And.intro) <;> first | omega | assumption | trivial | (intros; subst_vars; rfl) | (intro i r h; rcases i with _ | i <;> simp at h; subst h; rfl) | (simp [inI, maxLen]; done) | (simp [inI, maxLen]; omega)
  refine AWp.ret ?_
  try dsimp only [thenQ, blockQ]
  apply endC.ret
  · rfl
  · conv => lhs; simp [resAV, Tryd.results99]
  · first | rfl | simp [resVal, tmAV, Tm.row, Tm.rows_eq, Cs.rows_eq, AV.nilD, nilDL, strsD]
  · simp [moEnd, memGet]

set_option maxRecDepth 20000 in
set_option maxHeartbeats 16000000 in
theorem cs_allC (c c2 : Int) (r done : List Tm) (tk tn : Int) (ta tb : ByteArray) (tvs : List ByteArray) (txs : List Tm) (tcs : List Cs) (xk xn : Int) (xa xb : ByteArray) (xvs : List ByteArray) (xxs : List Tm) (xcs : List Cs) (zk zn : Int) (za zb : ByteArray) (zvs : List ByteArray) (zxs : List Tm) (zcs : List Cs) (hrl : r.length ≤ 6)
    (hcl : CSpec Tryd.prog 101 [.ptr 1000 0, tmAV (.mk xk xn xa xb xvs xxs xcs), .clo 118 [.ptr 1001 0, .ptr 1002 0, .ptr 1003 0, .ptr 1004 0]] [(1000, .blk 83 [.d (.int c)]), (1001, .blk 81 [.ptr 1000 0]), (1002, .blk 29 [.d (.sl ((.mk xk xn xa xb xvs xxs xcs :: r).map Tm.row))]), (1003, .blk 29 [.d (.sl (done.map Tm.row))]), (1004, .blk 113 [.clo 100 [.ptr 1005 0]]), (1005, .blk 32 [.d (.int tk), .d (.int tn), .d (.str ta), .d (.str tb), .d (strsD tvs), .d (.sl (txs.map Tm.row)), .d (.sl (tcs.map Cs.row))])] (tmAV (.mk zk zn za zb zvs zxs zcs)) [(1000, .blk 83 [.d (.int c2)]), (1001, .blk 81 [.ptr 1000 0]), (1002, .blk 29 [.d (.sl ((.mk xk xn xa xb xvs xxs xcs :: r).map Tm.row))]), (1003, .blk 29 [.d (.sl (done.map Tm.row))]), (1004, .blk 113 [.clo 100 [.ptr 1005 0]]), (1005, .blk 32 [.d (.int tk), .d (.int tn), .d (.str ta), .d (.str tb), .d (strsD tvs), .d (.sl (txs.map Tm.row)), .d (.sl (tcs.map Cs.row))])]) :
    CSpec Tryd.prog 99 [.ptr 1000 0, .d (.sl ((.mk xk xn xa xb xvs xxs xcs :: r).map Tm.row)), .d (.sl (done.map Tm.row)), .clo 100 [.ptr 1001 0]] [(1000, .blk 83 [.d (.int c)]), (1001, .blk 32 [.d (.int tk), .d (.int tn), .d (.str ta), .d (.str tb), .d (strsD tvs), .d (.sl (txs.map Tm.row)), .d (.sl (tcs.map Cs.row))])] (tmAV (.mk zk zn za zb zvs zxs zcs)) [(1000, .blk 83 [.d (.int c2)]), (1001, .blk 32 [.d (.int tk), .d (.int tn), .d (.str ta), .d (.str tb), .d (strsD tvs), .d (.sl (txs.map Tm.row)), .d (.sl (tcs.map Cs.row))])] := by
  have hrn : ¬ ((r.length + 1 : Int) = 0) := by omega
  simp only [List.map_cons, Tm.row, Tm.rows_eq, Cs.rows_eq] at hcl
  refine CSpec.of Tryd.func99 rfl rfl (Nat.le_of_ble_eq_true rfl) ?_
  show AWp _ _ (endC _ Tryd.f99 _ _) (startC 21 _ _)
  repeat (first | refine AWp.seq ?_ | refine AWp.block ?_)
  apply AWp.reg [] []
  · conv => lhs; simp [Tm.row, Tm.rows_eq, Cs.rows_eq, hrn]
  · (repeat' apply And.intro) <;> first | omega | assumption | trivial | (intros; subst_vars; rfl) | (intro i r h; rcases i with _ | i <;> simp at h; subst h; rfl) | (simp [inI, maxLen]; done) | (simp [inI, maxLen]; omega)
  repeat (first | refine AWp.seq ?_ | refine AWp.block ?_)
  apply AWp.reg [] []
  · conv => lhs; simp [Tm.row, Tm.rows_eq, Cs.rows_eq, hrn]
  · (repeat' apply And.intro) <;> first | omega | assumption | trivial | (intros; subst_vars; rfl) | (intro i r h; rcases i with _ | i <;> simp at h; subst h; rfl) | (simp [inI, maxLen]; done) | (simp [inI, maxLen]; omega)
  repeat (first | refine AWp.seq ?_ | refine AWp.block ?_)
  refine AWp.cond rfl (fun hc => ?_) (fun hc => ?_)
  · cases hc
  refine AWp.skip ?_
  repeat (first | refine AWp.seq ?_ | refine AWp.block ?_)
  apply AWp.draw [] [.c [(1001, 4), (1002, 5), (1003, 6), (1004, 7), (1005, 1001)] [.ptr 1000 0, .agg [.d (.int xk), .d (.int xn), .d (.str xa), .d (.str xb), .d (strsD xvs), .d (.sl (xxs.map Tm.row)), .d (.sl (xcs.map Cs.row))], .clo 118 [.ptr 1001 0, .ptr 1002 0, .ptr 1003 0, .ptr 1004 0]] [(1000, .blk 83 [.d (.int c)]), (1001, .blk 81 [.ptr 1000 0]), (1002, .blk 29 [.d (.sl ((.mk xk xn xa xb xvs xxs xcs :: r).map Tm.row))]), (1003, .blk 29 [.d (.sl (done.map Tm.row))]), (1004, .blk 113 [.clo 100 [.ptr 1005 0]]), (1005, .blk 32 [.d (.int tk), .d (.int tn), .d (.str ta), .d (.str tb), .d (strsD tvs), .d (.sl (txs.map Tm.row)), .d (.sl (tcs.map Cs.row))])] (.agg [.d (.int zk), .d (.int zn), .d (.str za), .d (.str zb), .d (strsD zvs), .d (.sl (zxs.map Tm.row)), .d (.sl (zcs.map Cs.row))]) [(1000, .blk 83 [.d (.int c2)]), (1001, .blk 81 [.ptr 1000 0]), (1002, .blk 29 [.d (.sl ((.mk xk xn xa xb xvs xxs xcs :: r).map Tm.row))]), (1003, .blk 29 [.d (.sl (done.map Tm.row))]), (1004, .blk 113 [.clo 100 [.ptr 1005 0]]), (1005, .blk 32 [.d (.int tk), .d (.int tn), .d (.str ta), .d (.str tb), .d (strsD tvs), .d (.sl (txs.map Tm.row)), .d (.sl (tcs.map Cs.row))])]] mixed
  · conv => lhs; simp [Tm.row, Tm.rows_eq, Cs.rows_eq, hrn]
  · kernel_rfl
  · (repeat' apply And.intro) <;> first | omega | assumption | trivial | (intros; subst_vars; rfl) | (intro i r h; rcases i with _ | i <;> simp at h; subst h; rfl) | (simp [inI, maxLen]; done) | (simp [inI, maxLen]; omega)
  refine AWp.ret ?_
  try dsimp only [thenQ, blockQ]
  apply endC.ret
  · rfl
  · conv => lhs; simp [resAV, Tryd.results99]
  · first | rfl | simp [resVal, tmAV, Tm.row, Tm.rows_eq, Cs.rows_eq, AV.nilD, nilDL, strsD]
  · simp [moEnd, memGet]

end Go.Proofs.YtialccgjbanmcaaDoor
