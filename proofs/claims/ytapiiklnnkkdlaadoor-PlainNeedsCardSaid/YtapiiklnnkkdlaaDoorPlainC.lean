import Derived.Test.YtapiiklnnkkdlaaDoorPlainP
import Derived.Test.YtapiiklnnkkdlaaDoorNameD
/- plain.maker: fresh, simple, all and their functions. Printed by a small program. -/
namespace Go.Proofs.YtapiiklnnkkdlaaDoor
open Go.RowKit
attribute [local simp] runD mkRc ldOf stOf stOk ldArg noAny dstOk guardOk opEff opEff0 effOp pureOp callOp zEff evA constAV scalAV Value.oneCell' frGet memGet startAS frOf isGoCall idIn AS.after nextR opnIds objIds AV.ids idsL AObj.ids frNo memNo opnAny isAny mkVal rdCells wrCells fldAddr idxAddr srcRows litRows toD1 toDs setAt sliceAV optI partAV bldAV fillAV binAV binI AV.cells callEff calleeOf frKill memKill AV.kill AObj.kill AV.has AV.hasL Op.operands Call.operands keepF keepM viewIds cChk renOf moGet moWs moQ cEff moLike moHave AV.ren renL AObj.ren AObj.like kept startC moMem AV.frz frz1 frzL frSub memSub frzs AS.frz frFrz memFrz AObj.frz takeMap takeLen bleF Nat.ble_eq memAny objAny mapOp D.keyOk rowAV valRow extOp wrapOp phO frLow memLow memLow1 objLow memEmpty Low LowL
set_option linter.unusedVariables false
set_option linter.unusedSimpArgs false
abbrev mkO (c : Int) : AObj := .blk 117 [.d (.int c)]
theorem tmrl (a : Tm) : a.row.length = 7 := by cases a; simp [Tm.row]
set_option maxRecDepth 20000 in
set_option maxHeartbeats 16000000 in
theorem cs_mkFresh (c : Int) : CSpec Tryd.prog 170 [.ptr 1000 0] [(1000, mkO c)] (.d (.str (wNm (wr (c + 1))))) [(1000, mkO (wr (c + 1)))] := by
  obtain ⟨e, he⟩ : ∃ e : Int, wr (c + 1) = e := ⟨_, rfl⟩
  rw [he]
  have heI : inI e := by rw [← he]; exact wr_in _
  have hit := sp_Itoa e heI
  have hsz := itoaB_size heI
  have h1s : (⟨#[119]⟩ : ByteArray).size = 1 := rfl
  rw [wNm]
  refine CSpec.of Tryd.func170 rfl rfl (Nat.le_of_ble_eq_true rfl) ?_
  show AWp _ _ (endC _ Tryd.f170 _ _) (startC 16 _ _)
  refine AWp.rg [] [] ?_ (hr := by conv => lhs; simp [lit119])
  refine AWp.rg [4] [] ?_ (hr := by conv => lhs; simp [lit119, he])
  refine AWp.rg [] [.p (fun _ => .d (.str (itoaB e))) none] ?_ (hr := by conv => lhs; simp [lit119, he])
  refine AWp.ret ?_
  try dsimp only [thenQ, blockQ]
  apply endC.ret
  · rfl
  · conv => lhs; simp [resAV, Tryd.results170]
  · rfl
  · simp [moEnd, memGet, wNm]
set_option maxRecDepth 20000 in
set_option maxHeartbeats 16000000 in
theorem cs_simpleA1 (c c1 c2 e : Int) (s : ByteArray) (l done : List Tm) (tk tn : Int) (ta tb : ByteArray) (tvs : List ByteArray) (txs : List Tm) (tcs : List Cs) (xk xn : Int) (xa xb : ByteArray) (xvs : List ByteArray) (xxs : List Tm) (xcs : List Cs) (yk yn : Int) (ya yb : ByteArray) (yvs : List ByteArray) (yxs : List Tm) (ycs : List Cs) (zk zn : Int) (za zb : ByteArray) (zvs : List ByteArray) (zxs : List Tm) (zcs : List Cs) 
    (hcl : CSpec Tryd.prog 169 [tmAV (.mk 1 xn xa xb xvs xxs xcs), .ptr 1001 0, .ptr 1002 0, .ptr 1003 0, .ptr 1004 0] [(1000, .blk 117 [.d (.int c)]), (1001, .blk 115 [.ptr 1000 0]), (1002, .blk 31 [.d (.sl (l.map Tm.row))]), (1003, .blk 31 [.d (.sl (done.map Tm.row))]), (1004, .blk 158 [.clo 157 [.ptr 1005 0]]), (1005, .blk 34 [.d (.int tk), .d (.int tn), .d (.str ta), .d (.str tb), .d (strsD tvs), .d (.sl (txs.map Tm.row)), .d (.sl (tcs.map Cs.row))])] (tmAV (.mk zk zn za zb zvs zxs zcs)) [(1000, .blk 117 [.d (.int c2)]), (1001, .blk 115 [.ptr 1000 0]), (1002, .blk 31 [.d (.sl (l.map Tm.row))]), (1003, .blk 31 [.d (.sl (done.map Tm.row))]), (1004, .blk 158 [.clo 157 [.ptr 1005 0]]), (1005, .blk 34 [.d (.int tk), .d (.int tn), .d (.str ta), .d (.str tb), .d (strsD tvs), .d (.sl (txs.map Tm.row)), .d (.sl (tcs.map Cs.row))])]) :
    CSpec Tryd.prog 158 [.ptr 1000 0, tmAV (.mk 1 xn xa xb xvs xxs xcs), .clo 169 [.ptr 1001 0, .ptr 1002 0, .ptr 1003 0, .ptr 1004 0]] [(1000, .blk 117 [.d (.int c)]), (1001, .blk 115 [.ptr 1000 0]), (1002, .blk 31 [.d (.sl (l.map Tm.row))]), (1003, .blk 31 [.d (.sl (done.map Tm.row))]), (1004, .blk 158 [.clo 157 [.ptr 1005 0]]), (1005, .blk 34 [.d (.int tk), .d (.int tn), .d (.str ta), .d (.str tb), .d (strsD tvs), .d (.sl (txs.map Tm.row)), .d (.sl (tcs.map Cs.row))])] (tmAV (.mk zk zn za zb zvs zxs zcs)) [(1000, .blk 117 [.d (.int c2)]), (1001, .blk 115 [.ptr 1000 0]), (1002, .blk 31 [.d (.sl (l.map Tm.row))]), (1003, .blk 31 [.d (.sl (done.map Tm.row))]), (1004, .blk 158 [.clo 157 [.ptr 1005 0]]), (1005, .blk 34 [.d (.int tk), .d (.int tn), .d (.str ta), .d (.str tb), .d (strsD tvs), .d (.sl (txs.map Tm.row)), .d (.sl (tcs.map Cs.row))])] := by
  refine CSpec.of Tryd.func158 rfl rfl (Nat.le_of_ble_eq_true rfl) ?_
  show AWp _ _ (endC _ Tryd.f158 _ _) (startC 28 _ _)
  refine AWp.rg [] [] ?_ (hr := by conv => lhs; simp [Tm.row, Tm.rows_eq, Cs.rows_eq])
  refine AWp.rg [] [] ?_ (hr := by conv => lhs; simp [Tm.row, Tm.rows_eq, Cs.rows_eq])
  refine AWp.cy ?_
  refine AWp.rg [] [.c [] [.agg [.d (.int 1), .d (.int xn), .d (.str xa), .d (.str xb), .d (strsD xvs), .d (.sl (xxs.map Tm.row)), .d (.sl (xcs.map Cs.row))], .ptr 1001 0, .ptr 1002 0, .ptr 1003 0, .ptr 1004 0] [(1000, .blk 117 [.d (.int c)]), (1001, .blk 115 [.ptr 1000 0]), (1002, .blk 31 [.d (.sl (l.map Tm.row))]), (1003, .blk 31 [.d (.sl (done.map Tm.row))]), (1004, .blk 158 [.clo 157 [.ptr 1005 0]]), (1005, .blk 34 [.d (.int tk), .d (.int tn), .d (.str ta), .d (.str tb), .d (strsD tvs), .d (.sl (txs.map Tm.row)), .d (.sl (tcs.map Cs.row))])] (.agg [.d (.int zk), .d (.int zn), .d (.str za), .d (.str zb), .d (strsD zvs), .d (.sl (zxs.map Tm.row)), .d (.sl (zcs.map Cs.row))]) [(1000, .blk 117 [.d (.int c2)]), (1001, .blk 115 [.ptr 1000 0]), (1002, .blk 31 [.d (.sl (l.map Tm.row))]), (1003, .blk 31 [.d (.sl (done.map Tm.row))]), (1004, .blk 158 [.clo 157 [.ptr 1005 0]]), (1005, .blk 34 [.d (.int tk), .d (.int tn), .d (.str ta), .d (.str tb), .d (strsD tvs), .d (.sl (txs.map Tm.row)), .d (.sl (tcs.map Cs.row))])]] ?_ (hr := by conv => lhs; simp [Tm.row, Tm.rows_eq, Cs.rows_eq])
  refine AWp.ret ?_
  try dsimp only [thenQ, blockQ]
  apply endC.ret
  · rfl
  · conv => lhs; simp [resAV, Tryd.results158]
  · first | rfl | simp [resVal, tmAV, Tm.row, Tm.rows_eq, Cs.rows_eq, AV.nilD, nilDL, strsD]
  · simp [moEnd, memGet]
set_option maxRecDepth 20000 in
set_option maxHeartbeats 16000000 in
theorem cs_simpleA2 (c c1 c2 e : Int) (s : ByteArray) (l done : List Tm) (tk tn : Int) (ta tb : ByteArray) (tvs : List ByteArray) (txs : List Tm) (tcs : List Cs) (xk xn : Int) (xa xb : ByteArray) (xvs : List ByteArray) (xxs : List Tm) (xcs : List Cs) (yk yn : Int) (ya yb : ByteArray) (yvs : List ByteArray) (yxs : List Tm) (ycs : List Cs) (zk zn : Int) (za zb : ByteArray) (zvs : List ByteArray) (zxs : List Tm) (zcs : List Cs) (hk1 : ¬ xk = 1)
    (hfr : CSpec Tryd.prog 170 [.ptr 1000 0] [(1000, mkO c)] (.d (.str s)) [(1000, mkO e)])
    (hx : CSpec Tryd.prog 109 [.ptr 1000 0, tmAV (.mk xk xn xa xb xvs xxs xcs)] [(1000, mkO e)] (tmAV (.mk yk yn ya yb yvs yxs ycs)) [(1000, mkO c1)])
    (hcl : CSpec Tryd.prog 169 [.agg [.d (.int 1), .d (.int 0), .d (.str s), .d (.str .empty), .d (.sl []), .d (.sl []), .d (.sl [])], .ptr 1001 0, .ptr 1002 0, .ptr 1003 0, .ptr 1004 0] [(1000, .blk 117 [.d (.int c1)]), (1001, .blk 115 [.ptr 1000 0]), (1002, .blk 31 [.d (.sl (l.map Tm.row))]), (1003, .blk 31 [.d (.sl (done.map Tm.row))]), (1004, .blk 158 [.clo 157 [.ptr 1005 0]]), (1005, .blk 34 [.d (.int tk), .d (.int tn), .d (.str ta), .d (.str tb), .d (strsD tvs), .d (.sl (txs.map Tm.row)), .d (.sl (tcs.map Cs.row))])] (tmAV (.mk zk zn za zb zvs zxs zcs)) [(1000, .blk 117 [.d (.int c2)]), (1001, .blk 115 [.ptr 1000 0]), (1002, .blk 31 [.d (.sl (l.map Tm.row))]), (1003, .blk 31 [.d (.sl (done.map Tm.row))]), (1004, .blk 158 [.clo 157 [.ptr 1005 0]]), (1005, .blk 34 [.d (.int tk), .d (.int tn), .d (.str ta), .d (.str tb), .d (strsD tvs), .d (.sl (txs.map Tm.row)), .d (.sl (tcs.map Cs.row))])]) :
    CSpec Tryd.prog 158 [.ptr 1000 0, tmAV (.mk xk xn xa xb xvs xxs xcs), .clo 169 [.ptr 1001 0, .ptr 1002 0, .ptr 1003 0, .ptr 1004 0]] [(1000, .blk 117 [.d (.int c)]), (1001, .blk 115 [.ptr 1000 0]), (1002, .blk 31 [.d (.sl (l.map Tm.row))]), (1003, .blk 31 [.d (.sl (done.map Tm.row))]), (1004, .blk 158 [.clo 157 [.ptr 1005 0]]), (1005, .blk 34 [.d (.int tk), .d (.int tn), .d (.str ta), .d (.str tb), .d (strsD tvs), .d (.sl (txs.map Tm.row)), .d (.sl (tcs.map Cs.row))])] (tmAV (.mk 6 0 s .empty [] [.mk yk yn ya yb yvs yxs ycs, .mk zk zn za zb zvs zxs zcs] [])) [(1000, .blk 117 [.d (.int c2)]), (1001, .blk 115 [.ptr 1000 0]), (1002, .blk 31 [.d (.sl (l.map Tm.row))]), (1003, .blk 31 [.d (.sl (done.map Tm.row))]), (1004, .blk 158 [.clo 157 [.ptr 1005 0]]), (1005, .blk 34 [.d (.int tk), .d (.int tn), .d (.str ta), .d (.str tb), .d (strsD tvs), .d (.sl (txs.map Tm.row)), .d (.sl (tcs.map Cs.row))])] := by
  refine CSpec.of Tryd.func158 rfl rfl (Nat.le_of_ble_eq_true rfl) ?_
  show AWp _ _ (endC _ Tryd.f158 _ _) (startC 28 _ _)
  refine AWp.rg [] [] ?_ (hr := by conv => lhs; simp [Tm.row, Tm.rows_eq, Cs.rows_eq, hk1])
  refine AWp.rg [] [] ?_ (hr := by conv => lhs; simp [Tm.row, Tm.rows_eq, Cs.rows_eq, hk1])
  refine AWp.cn ?_
  refine AWp.skip ?_
  refine AWp.rg [] [.c [] [.ptr 1000 0] [(1000, .blk 117 [.d (.int c)])] (.d (.str s)) [(1000, .blk 117 [.d (.int e)])]] ?_ (hr := by conv => lhs; simp [Tm.row, Tm.rows_eq, Cs.rows_eq, hk1])
  refine AWp.rg [] [] ?_ (hr := by conv => lhs; simp [Tm.row, Tm.rows_eq, Cs.rows_eq, hk1])
  repeat (first | refine AWp.seq ?_ | refine AWp.block ?_)
  refine AWp.le (Le.low [] [] (fr := [(0, .ptr 1000 0), (2, .clo 169 [.ptr 1001 0, .ptr 1002 0, .ptr 1003 0, .ptr 1004 0]), (4, .ptr 4 0), (6, .ptr 6 0), (7, .d (.str s)), (8, .ptr 8 0)]) (mem := [(4, some (.blk 34 [.d (.int xk), .d (.int xn), .d (.str xa), .d (.str xb), .d (strsD xvs), .d (.sl (xxs.map Tm.row)), .d (.sl (xcs.map Cs.row))])), (6, some (.blk 34 [.d (.int 0), .d (.int 0), .d (.str ByteArray.empty), .d (.str ByteArray.empty), .lit (.slice none 0 0), .lit (.slice none 0 0), .lit (.slice none 0 0)])), (8, some (.blk 34 [.d (.int 1), .d (.int 0), .d (.str s), .d (.str ByteArray.empty), .d (.sl []), .d (.sl []), .d (.sl [])])), (1000, some (.blk 117 [.d (.int e)])), (1001, some (.blk 115 [.ptr 1000 0])), (1002, some (.blk 31 [.d (.sl (l.map Tm.row))])), (1003, some (.blk 31 [.d (.sl (done.map Tm.row))])), (1004, some (.blk 158 [.clo 157 [.ptr 1005 0]])), (1005, some (.blk 34 [.d (.int tk), .d (.int tn), .d (.str ta), .d (.str tb), .d (strsD tvs), .d (.sl (txs.map Tm.row)), .d (.sl (tcs.map Cs.row))]))]) rfl (by simp) (by simp)) ?_
  refine AWp.dw [7] [.c [] [.ptr 1000 0, .agg [.d (.int xk), .d (.int xn), .d (.str xa), .d (.str xb), .d (strsD xvs), .d (.sl (xxs.map Tm.row)), .d (.sl (xcs.map Cs.row))]] [(1000, .blk 117 [.d (.int e)])] (.agg [.d (.int yk), .d (.int yn), .d (.str ya), .d (.str yb), .d (strsD yvs), .d (.sl (yxs.map Tm.row)), .d (.sl (ycs.map Cs.row))]) [(1000, .blk 117 [.d (.int c1)])], .c [] [.agg [.d (.int 1), .d (.int 0), .d (.str s), .d (.str ByteArray.empty), .d (.sl []), .d (.sl []), .d (.sl [])], .ptr 1001 0, .ptr 1002 0, .ptr 1003 0, .ptr 1004 0] [(1000, .blk 117 [.d (.int c1)]), (1001, .blk 115 [.ptr 1000 0]), (1002, .blk 31 [.d (.sl (l.map Tm.row))]), (1003, .blk 31 [.d (.sl (done.map Tm.row))]), (1004, .blk 158 [.clo 157 [.ptr 1005 0]]), (1005, .blk 34 [.d (.int tk), .d (.int tn), .d (.str ta), .d (.str tb), .d (strsD tvs), .d (.sl (txs.map Tm.row)), .d (.sl (tcs.map Cs.row))])] (.agg [.d (.int zk), .d (.int zn), .d (.str za), .d (.str zb), .d (strsD zvs), .d (.sl (zxs.map Tm.row)), .d (.sl (zcs.map Cs.row))]) [(1000, .blk 117 [.d (.int c2)]), (1001, .blk 115 [.ptr 1000 0]), (1002, .blk 31 [.d (.sl (l.map Tm.row))]), (1003, .blk 31 [.d (.sl (done.map Tm.row))]), (1004, .blk 158 [.clo 157 [.ptr 1005 0]]), (1005, .blk 34 [.d (.int tk), .d (.int tn), .d (.str ta), .d (.str tb), .d (strsD tvs), .d (.sl (txs.map Tm.row)), .d (.sl (tcs.map Cs.row))])]] mixed ?_ (hr := by conv => lhs; simp [Tm.row, Tm.rows_eq, Cs.rows_eq, hk1])
  refine AWp.ret ?_
  try dsimp only [thenQ, blockQ]
  apply endC.ret
  · rfl
  · conv => lhs; simp [resAV, Tryd.results158]
  · first | rfl | simp [resVal, tmAV, Tm.row, Tm.rows_eq, Cs.rows_eq, AV.nilD, nilDL, strsD]
  · simp [moEnd, memGet]
set_option maxRecDepth 20000 in
set_option maxHeartbeats 16000000 in
theorem cs_simpleB1 (c c1 c2 e : Int) (s : ByteArray)  (tk tn : Int) (ta tb : ByteArray) (tvs : List ByteArray) (txs : List Tm) (tcs : List Cs) (xk xn : Int) (xa xb : ByteArray) (xvs : List ByteArray) (xxs : List Tm) (xcs : List Cs) (yk yn : Int) (ya yb : ByteArray) (yvs : List ByteArray) (yxs : List Tm) (ycs : List Cs) (zk zn : Int) (za zb : ByteArray) (zvs : List ByteArray) (zxs : List Tm) (zcs : List Cs) 
    (hcl : CSpec Tryd.prog 159 [tmAV (.mk 1 xn xa xb xvs xxs xcs), .ptr 1001 0, .ptr 1002 0] [(1000, .blk 117 [.d (.int c)]), (1001, .blk 34 [.d (.int tk), .d (.int tn), .d (.str ta), .d (.str tb), .d (strsD tvs), .d (.sl (txs.map Tm.row)), .d (.sl (tcs.map Cs.row))]), (1002, .blk 115 [.ptr 1000 0])] (tmAV (.mk zk zn za zb zvs zxs zcs)) [(1000, .blk 117 [.d (.int c2)]), (1001, .blk 34 [.d (.int tk), .d (.int tn), .d (.str ta), .d (.str tb), .d (strsD tvs), .d (.sl (txs.map Tm.row)), .d (.sl (tcs.map Cs.row))]), (1002, .blk 115 [.ptr 1000 0])]) :
    CSpec Tryd.prog 158 [.ptr 1000 0, tmAV (.mk 1 xn xa xb xvs xxs xcs), .clo 159 [.ptr 1001 0, .ptr 1002 0]] [(1000, .blk 117 [.d (.int c)]), (1001, .blk 34 [.d (.int tk), .d (.int tn), .d (.str ta), .d (.str tb), .d (strsD tvs), .d (.sl (txs.map Tm.row)), .d (.sl (tcs.map Cs.row))]), (1002, .blk 115 [.ptr 1000 0])] (tmAV (.mk zk zn za zb zvs zxs zcs)) [(1000, .blk 117 [.d (.int c2)]), (1001, .blk 34 [.d (.int tk), .d (.int tn), .d (.str ta), .d (.str tb), .d (strsD tvs), .d (.sl (txs.map Tm.row)), .d (.sl (tcs.map Cs.row))]), (1002, .blk 115 [.ptr 1000 0])] := by
  refine CSpec.of Tryd.func158 rfl rfl (Nat.le_of_ble_eq_true rfl) ?_
  show AWp _ _ (endC _ Tryd.f158 _ _) (startC 28 _ _)
  refine AWp.rg [] [] ?_ (hr := by conv => lhs; simp [Tm.row, Tm.rows_eq, Cs.rows_eq])
  refine AWp.rg [] [] ?_ (hr := by conv => lhs; simp [Tm.row, Tm.rows_eq, Cs.rows_eq])
  refine AWp.cy ?_
  refine AWp.rg [] [.c [] [.agg [.d (.int 1), .d (.int xn), .d (.str xa), .d (.str xb), .d (strsD xvs), .d (.sl (xxs.map Tm.row)), .d (.sl (xcs.map Cs.row))], .ptr 1001 0, .ptr 1002 0] [(1000, .blk 117 [.d (.int c)]), (1001, .blk 34 [.d (.int tk), .d (.int tn), .d (.str ta), .d (.str tb), .d (strsD tvs), .d (.sl (txs.map Tm.row)), .d (.sl (tcs.map Cs.row))]), (1002, .blk 115 [.ptr 1000 0])] (.agg [.d (.int zk), .d (.int zn), .d (.str za), .d (.str zb), .d (strsD zvs), .d (.sl (zxs.map Tm.row)), .d (.sl (zcs.map Cs.row))]) [(1000, .blk 117 [.d (.int c2)]), (1001, .blk 34 [.d (.int tk), .d (.int tn), .d (.str ta), .d (.str tb), .d (strsD tvs), .d (.sl (txs.map Tm.row)), .d (.sl (tcs.map Cs.row))]), (1002, .blk 115 [.ptr 1000 0])]] ?_ (hr := by conv => lhs; simp [Tm.row, Tm.rows_eq, Cs.rows_eq])
  refine AWp.ret ?_
  try dsimp only [thenQ, blockQ]
  apply endC.ret
  · rfl
  · conv => lhs; simp [resAV, Tryd.results158]
  · first | rfl | simp [resVal, tmAV, Tm.row, Tm.rows_eq, Cs.rows_eq, AV.nilD, nilDL, strsD]
  · simp [moEnd, memGet]
set_option maxRecDepth 20000 in
set_option maxHeartbeats 16000000 in
theorem cs_simpleB2 (c c1 c2 e : Int) (s : ByteArray)  (tk tn : Int) (ta tb : ByteArray) (tvs : List ByteArray) (txs : List Tm) (tcs : List Cs) (xk xn : Int) (xa xb : ByteArray) (xvs : List ByteArray) (xxs : List Tm) (xcs : List Cs) (yk yn : Int) (ya yb : ByteArray) (yvs : List ByteArray) (yxs : List Tm) (ycs : List Cs) (zk zn : Int) (za zb : ByteArray) (zvs : List ByteArray) (zxs : List Tm) (zcs : List Cs) (hk1 : ¬ xk = 1)
    (hfr : CSpec Tryd.prog 170 [.ptr 1000 0] [(1000, mkO c)] (.d (.str s)) [(1000, mkO e)])
    (hx : CSpec Tryd.prog 109 [.ptr 1000 0, tmAV (.mk xk xn xa xb xvs xxs xcs)] [(1000, mkO e)] (tmAV (.mk yk yn ya yb yvs yxs ycs)) [(1000, mkO c1)])
    (hcl : CSpec Tryd.prog 159 [.agg [.d (.int 1), .d (.int 0), .d (.str s), .d (.str .empty), .d (.sl []), .d (.sl []), .d (.sl [])], .ptr 1001 0, .ptr 1002 0] [(1000, .blk 117 [.d (.int c1)]), (1001, .blk 34 [.d (.int tk), .d (.int tn), .d (.str ta), .d (.str tb), .d (strsD tvs), .d (.sl (txs.map Tm.row)), .d (.sl (tcs.map Cs.row))]), (1002, .blk 115 [.ptr 1000 0])] (tmAV (.mk zk zn za zb zvs zxs zcs)) [(1000, .blk 117 [.d (.int c2)]), (1001, .blk 34 [.d (.int tk), .d (.int tn), .d (.str ta), .d (.str tb), .d (strsD tvs), .d (.sl (txs.map Tm.row)), .d (.sl (tcs.map Cs.row))]), (1002, .blk 115 [.ptr 1000 0])]) :
    CSpec Tryd.prog 158 [.ptr 1000 0, tmAV (.mk xk xn xa xb xvs xxs xcs), .clo 159 [.ptr 1001 0, .ptr 1002 0]] [(1000, .blk 117 [.d (.int c)]), (1001, .blk 34 [.d (.int tk), .d (.int tn), .d (.str ta), .d (.str tb), .d (strsD tvs), .d (.sl (txs.map Tm.row)), .d (.sl (tcs.map Cs.row))]), (1002, .blk 115 [.ptr 1000 0])] (tmAV (.mk 6 0 s .empty [] [.mk yk yn ya yb yvs yxs ycs, .mk zk zn za zb zvs zxs zcs] [])) [(1000, .blk 117 [.d (.int c2)]), (1001, .blk 34 [.d (.int tk), .d (.int tn), .d (.str ta), .d (.str tb), .d (strsD tvs), .d (.sl (txs.map Tm.row)), .d (.sl (tcs.map Cs.row))]), (1002, .blk 115 [.ptr 1000 0])] := by
  refine CSpec.of Tryd.func158 rfl rfl (Nat.le_of_ble_eq_true rfl) ?_
  show AWp _ _ (endC _ Tryd.f158 _ _) (startC 28 _ _)
  refine AWp.rg [] [] ?_ (hr := by conv => lhs; simp [Tm.row, Tm.rows_eq, Cs.rows_eq, hk1])
  refine AWp.rg [] [] ?_ (hr := by conv => lhs; simp [Tm.row, Tm.rows_eq, Cs.rows_eq, hk1])
  refine AWp.cn ?_
  refine AWp.skip ?_
  refine AWp.rg [] [.c [] [.ptr 1000 0] [(1000, .blk 117 [.d (.int c)])] (.d (.str s)) [(1000, .blk 117 [.d (.int e)])]] ?_ (hr := by conv => lhs; simp [Tm.row, Tm.rows_eq, Cs.rows_eq, hk1])
  refine AWp.rg [] [] ?_ (hr := by conv => lhs; simp [Tm.row, Tm.rows_eq, Cs.rows_eq, hk1])
  repeat (first | refine AWp.seq ?_ | refine AWp.block ?_)
  refine AWp.le (Le.low [] [] (fr := [(0, .ptr 1000 0), (2, .clo 159 [.ptr 1001 0, .ptr 1002 0]), (4, .ptr 4 0), (6, .ptr 6 0), (7, .d (.str s)), (8, .ptr 8 0)]) (mem := [(4, some (.blk 34 [.d (.int xk), .d (.int xn), .d (.str xa), .d (.str xb), .d (strsD xvs), .d (.sl (xxs.map Tm.row)), .d (.sl (xcs.map Cs.row))])), (6, some (.blk 34 [.d (.int 0), .d (.int 0), .d (.str ByteArray.empty), .d (.str ByteArray.empty), .lit (.slice none 0 0), .lit (.slice none 0 0), .lit (.slice none 0 0)])), (8, some (.blk 34 [.d (.int 1), .d (.int 0), .d (.str s), .d (.str ByteArray.empty), .d (.sl []), .d (.sl []), .d (.sl [])])), (1000, some (.blk 117 [.d (.int e)])), (1001, some (.blk 34 [.d (.int tk), .d (.int tn), .d (.str ta), .d (.str tb), .d (strsD tvs), .d (.sl (txs.map Tm.row)), .d (.sl (tcs.map Cs.row))])), (1002, some (.blk 115 [.ptr 1000 0]))]) rfl (by simp) (by simp)) ?_
  refine AWp.dw [7] [.c [] [.ptr 1000 0, .agg [.d (.int xk), .d (.int xn), .d (.str xa), .d (.str xb), .d (strsD xvs), .d (.sl (xxs.map Tm.row)), .d (.sl (xcs.map Cs.row))]] [(1000, .blk 117 [.d (.int e)])] (.agg [.d (.int yk), .d (.int yn), .d (.str ya), .d (.str yb), .d (strsD yvs), .d (.sl (yxs.map Tm.row)), .d (.sl (ycs.map Cs.row))]) [(1000, .blk 117 [.d (.int c1)])], .c [] [.agg [.d (.int 1), .d (.int 0), .d (.str s), .d (.str ByteArray.empty), .d (.sl []), .d (.sl []), .d (.sl [])], .ptr 1001 0, .ptr 1002 0] [(1000, .blk 117 [.d (.int c1)]), (1001, .blk 34 [.d (.int tk), .d (.int tn), .d (.str ta), .d (.str tb), .d (strsD tvs), .d (.sl (txs.map Tm.row)), .d (.sl (tcs.map Cs.row))]), (1002, .blk 115 [.ptr 1000 0])] (.agg [.d (.int zk), .d (.int zn), .d (.str za), .d (.str zb), .d (strsD zvs), .d (.sl (zxs.map Tm.row)), .d (.sl (zcs.map Cs.row))]) [(1000, .blk 117 [.d (.int c2)]), (1001, .blk 34 [.d (.int tk), .d (.int tn), .d (.str ta), .d (.str tb), .d (strsD tvs), .d (.sl (txs.map Tm.row)), .d (.sl (tcs.map Cs.row))]), (1002, .blk 115 [.ptr 1000 0])]] mixed ?_ (hr := by conv => lhs; simp [Tm.row, Tm.rows_eq, Cs.rows_eq, hk1])
  refine AWp.ret ?_
  try dsimp only [thenQ, blockQ]
  apply endC.ret
  · rfl
  · conv => lhs; simp [resAV, Tryd.results158]
  · first | rfl | simp [resVal, tmAV, Tm.row, Tm.rows_eq, Cs.rows_eq, AV.nilD, nilDL, strsD]
  · simp [moEnd, memGet]
set_option maxRecDepth 20000 in
set_option maxHeartbeats 16000000 in
theorem cs_pterm1 (done : List Tm) (tk tn : Int) (ta tb : ByteArray) (tvs : List ByteArray) (txs : List Tm) (tcs : List Cs) :
    CSpec Tryd.prog 157 [.d (.sl (done.map Tm.row)), .ptr 1001 0] [(1001, .blk 34 [.d (.int tk), .d (.int tn), .d (.str ta), .d (.str tb), .d (strsD tvs), .d (.sl (txs.map Tm.row)), .d (.sl (tcs.map Cs.row))])] (tmAV (.mk tk tn ta .empty [] done [])) [(1001, .blk 34 [.d (.int tk), .d (.int tn), .d (.str ta), .d (.str tb), .d (strsD tvs), .d (.sl (txs.map Tm.row)), .d (.sl (tcs.map Cs.row))])] := by
  refine CSpec.of Tryd.func157 rfl rfl (Nat.le_of_ble_eq_true rfl) ?_
  show AWp _ _ (endC _ Tryd.f157 _ _) (startC 12 _ _)
  refine AWp.rg [] [] ?_ (hr := by conv => lhs; simp [Tm.row, Tm.rows_eq, Cs.rows_eq])
  refine AWp.rg [] [] ?_ (hr := by conv => lhs; simp [Tm.row, Tm.rows_eq, Cs.rows_eq])
  refine AWp.ret ?_
  try dsimp only [thenQ, blockQ]
  apply endC.ret
  · rfl
  · conv => lhs; simp [resAV, Tryd.results157]
  · first | rfl | simp [resVal, tmAV, Tm.row, Tm.rows_eq, Cs.rows_eq, AV.nilD, nilDL, strsD]
  · simp [moEnd, memGet]
set_option maxRecDepth 20000 in
set_option maxHeartbeats 16000000 in
theorem cs_all1 (c c2 : Int) (x : Tm) (r done dn : List Tm) (tk tn : Int) (ta tb : ByteArray) (tvs : List ByteArray) (txs : List Tm) (tcs : List Cs) (yk yn : Int) (ya yb : ByteArray) (yvs : List ByteArray) (yxs : List Tm) (ycs : List Cs) (zk zn : Int) (za zb : ByteArray) (zvs : List ByteArray) (zxs : List Tm) (zcs : List Cs) (hdl : done.length ≤ 6) (hrl : r.length ≤ 6) (hdn : List.map Tm.row done ++ [[.int yk, .int yn, .str ya, .str yb, strsD yvs, .sl (yxs.map Tm.row), .sl (ycs.map Cs.row)]] = List.map Tm.row dn)
    (hcl : CSpec Tryd.prog 156 [.ptr 1000 0, .d (.sl (r.map Tm.row)), .d (.sl (dn.map Tm.row)), .clo 157 [.ptr 1001 0]] [(1000, mkO c), (1001, .blk 34 [.d (.int tk), .d (.int tn), .d (.str ta), .d (.str tb), .d (strsD tvs), .d (.sl (txs.map Tm.row)), .d (.sl (tcs.map Cs.row))])] (tmAV (.mk zk zn za zb zvs zxs zcs)) [(1000, mkO c2), (1001, .blk 34 [.d (.int tk), .d (.int tn), .d (.str ta), .d (.str tb), .d (strsD tvs), .d (.sl (txs.map Tm.row)), .d (.sl (tcs.map Cs.row))])]) :
    CSpec Tryd.prog 169 [tmAV (.mk yk yn ya yb yvs yxs ycs), .ptr 1001 0, .ptr 1002 0, .ptr 1003 0, .ptr 1004 0] [(1000, .blk 117 [.d (.int c)]), (1001, .blk 115 [.ptr 1000 0]), (1002, .blk 31 [.d (.sl ((x :: r).map Tm.row))]), (1003, .blk 31 [.d (.sl (done.map Tm.row))]), (1004, .blk 158 [.clo 157 [.ptr 1005 0]]), (1005, .blk 34 [.d (.int tk), .d (.int tn), .d (.str ta), .d (.str tb), .d (strsD tvs), .d (.sl (txs.map Tm.row)), .d (.sl (tcs.map Cs.row))])] (tmAV (.mk zk zn za zb zvs zxs zcs)) [(1000, .blk 117 [.d (.int c2)]), (1001, .blk 115 [.ptr 1000 0]), (1002, .blk 31 [.d (.sl ((x :: r).map Tm.row))]), (1003, .blk 31 [.d (.sl (done.map Tm.row))]), (1004, .blk 158 [.clo 157 [.ptr 1005 0]]), (1005, .blk 34 [.d (.int tk), .d (.int tn), .d (.str ta), .d (.str tb), .d (strsD tvs), .d (.sl (txs.map Tm.row)), .d (.sl (tcs.map Cs.row))])] := by
  have hdt : List.take (done.length + 1) (List.map Tm.row dn) = List.map Tm.row dn := by rw [← hdn]; exact List.take_of_length_le (by simp)
  have hl7 : ∀ (i : Nat) (q : List D), (x.row :: List.map Tm.row r)[i]? = some q → q.length = 7 := fun i q h => by
    rcases i with _ | i
    · simp at h; subst h; exact tmrl x
    · simp at h; obtain ⟨a, _, rfl⟩ := h; exact tmrl a
  have hd7 : ∀ (k : Nat) (a : Tm), done[k]? = some a → a.row.length = 7 := fun _ a _ => tmrl a
  have hdr : List.take (r.length + 1 - 1) (List.map Tm.row r) = List.map Tm.row r := List.take_of_length_le (by simp)
  refine CSpec.of Tryd.func169 rfl rfl (Nat.le_of_ble_eq_true rfl) ?_
  show AWp _ _ (endC _ Tryd.f169 _ _) (startC 21 _ _)
  refine AWp.rg [] [] ?_ (hr := by conv => lhs; simp [Tm.row, Tm.rows_eq, Cs.rows_eq])
  refine AWp.dw [11] [.c [(1001, 1005)] [.ptr 1000 0, .d (.sl (r.map Tm.row)), .d (.sl (dn.map Tm.row)), .clo 157 [.ptr 1001 0]] [(1000, .blk 117 [.d (.int c)]), (1001, .blk 34 [.d (.int tk), .d (.int tn), .d (.str ta), .d (.str tb), .d (strsD tvs), .d (.sl (txs.map Tm.row)), .d (.sl (tcs.map Cs.row))])] (.agg [.d (.int zk), .d (.int zn), .d (.str za), .d (.str zb), .d (strsD zvs), .d (.sl (zxs.map Tm.row)), .d (.sl (zcs.map Cs.row))]) [(1000, .blk 117 [.d (.int c2)]), (1001, .blk 34 [.d (.int tk), .d (.int tn), .d (.str ta), .d (.str tb), .d (strsD tvs), .d (.sl (txs.map Tm.row)), .d (.sl (tcs.map Cs.row))])]] mixed ?_ (hr := by conv => lhs; simp [Tm.row, Tm.rows_eq, Cs.rows_eq, hdn, hdr])
  refine AWp.ret ?_
  try dsimp only [thenQ, blockQ]
  apply endC.ret
  · rfl
  · conv => lhs; simp [resAV, Tryd.results169]
  · first | rfl | simp [resVal, tmAV, Tm.row, Tm.rows_eq, Cs.rows_eq, AV.nilD, nilDL, strsD]
  · simp [moEnd, memGet]
set_option maxRecDepth 20000 in
set_option maxHeartbeats 16000000 in
theorem cs_allN (c c2 : Int) (r done : List Tm) (tk tn : Int) (ta tb : ByteArray) (tvs : List ByteArray) (txs : List Tm) (tcs : List Cs) (xk xn : Int) (xa xb : ByteArray) (xvs : List ByteArray) (xxs : List Tm) (xcs : List Cs) (zk zn : Int) (za zb : ByteArray) (zvs : List ByteArray) (zxs : List Tm) (zcs : List Cs) (hrl : r.length ≤ 6)
    (hcl : CSpec Tryd.prog 157 [.d (.sl (done.map Tm.row)), .ptr 1001 0] [(1001, .blk 34 [.d (.int tk), .d (.int tn), .d (.str ta), .d (.str tb), .d (strsD tvs), .d (.sl (txs.map Tm.row)), .d (.sl (tcs.map Cs.row))])] (tmAV (.mk zk zn za zb zvs zxs zcs)) [(1001, .blk 34 [.d (.int tk), .d (.int tn), .d (.str ta), .d (.str tb), .d (strsD tvs), .d (.sl (txs.map Tm.row)), .d (.sl (tcs.map Cs.row))])]) :
    CSpec Tryd.prog 156 [.ptr 1000 0, .d (.sl ([].map Tm.row)), .d (.sl (done.map Tm.row)), .clo 157 [.ptr 1001 0]] [(1000, .blk 117 [.d (.int c)]), (1001, .blk 34 [.d (.int tk), .d (.int tn), .d (.str ta), .d (.str tb), .d (strsD tvs), .d (.sl (txs.map Tm.row)), .d (.sl (tcs.map Cs.row))])] (tmAV (.mk zk zn za zb zvs zxs zcs)) [(1000, .blk 117 [.d (.int c)]), (1001, .blk 34 [.d (.int tk), .d (.int tn), .d (.str ta), .d (.str tb), .d (strsD tvs), .d (.sl (txs.map Tm.row)), .d (.sl (tcs.map Cs.row))])] := by
  refine CSpec.of Tryd.func156 rfl rfl (Nat.le_of_ble_eq_true rfl) ?_
  show AWp _ _ (endC _ Tryd.f156 _ _) (startC 21 _ _)
  refine AWp.rg [] [] ?_ (hr := by conv => lhs; simp [Tm.row, Tm.rows_eq, Cs.rows_eq])
  refine AWp.rg [] [] ?_ (hr := by conv => lhs; simp [Tm.row, Tm.rows_eq, Cs.rows_eq])
  refine AWp.cy ?_
  refine AWp.rg [] [.c [] [.d (.sl (done.map Tm.row)), .ptr 1001 0] [(1001, .blk 34 [.d (.int tk), .d (.int tn), .d (.str ta), .d (.str tb), .d (strsD tvs), .d (.sl (txs.map Tm.row)), .d (.sl (tcs.map Cs.row))])] (.agg [.d (.int zk), .d (.int zn), .d (.str za), .d (.str zb), .d (strsD zvs), .d (.sl (zxs.map Tm.row)), .d (.sl (zcs.map Cs.row))]) [(1001, .blk 34 [.d (.int tk), .d (.int tn), .d (.str ta), .d (.str tb), .d (strsD tvs), .d (.sl (txs.map Tm.row)), .d (.sl (tcs.map Cs.row))])]] ?_ (hr := by conv => lhs; simp [Tm.row, Tm.rows_eq, Cs.rows_eq])
  refine AWp.ret ?_
  try dsimp only [thenQ, blockQ]
  apply endC.ret
  · rfl
  · conv => lhs; simp [resAV, Tryd.results156]
  · first | rfl | simp [resVal, tmAV, Tm.row, Tm.rows_eq, Cs.rows_eq, AV.nilD, nilDL, strsD]
  · simp [moEnd, memGet]
set_option maxRecDepth 20000 in
set_option maxHeartbeats 16000000 in
theorem cs_allC (c c2 : Int) (r done : List Tm) (tk tn : Int) (ta tb : ByteArray) (tvs : List ByteArray) (txs : List Tm) (tcs : List Cs) (xk xn : Int) (xa xb : ByteArray) (xvs : List ByteArray) (xxs : List Tm) (xcs : List Cs) (zk zn : Int) (za zb : ByteArray) (zvs : List ByteArray) (zxs : List Tm) (zcs : List Cs) (hrl : r.length ≤ 6)
    (hcl : CSpec Tryd.prog 158 [.ptr 1000 0, tmAV (.mk xk xn xa xb xvs xxs xcs), .clo 169 [.ptr 1001 0, .ptr 1002 0, .ptr 1003 0, .ptr 1004 0]] [(1000, .blk 117 [.d (.int c)]), (1001, .blk 115 [.ptr 1000 0]), (1002, .blk 31 [.d (.sl ((.mk xk xn xa xb xvs xxs xcs :: r).map Tm.row))]), (1003, .blk 31 [.d (.sl (done.map Tm.row))]), (1004, .blk 158 [.clo 157 [.ptr 1005 0]]), (1005, .blk 34 [.d (.int tk), .d (.int tn), .d (.str ta), .d (.str tb), .d (strsD tvs), .d (.sl (txs.map Tm.row)), .d (.sl (tcs.map Cs.row))])] (tmAV (.mk zk zn za zb zvs zxs zcs)) [(1000, .blk 117 [.d (.int c2)]), (1001, .blk 115 [.ptr 1000 0]), (1002, .blk 31 [.d (.sl ((.mk xk xn xa xb xvs xxs xcs :: r).map Tm.row))]), (1003, .blk 31 [.d (.sl (done.map Tm.row))]), (1004, .blk 158 [.clo 157 [.ptr 1005 0]]), (1005, .blk 34 [.d (.int tk), .d (.int tn), .d (.str ta), .d (.str tb), .d (strsD tvs), .d (.sl (txs.map Tm.row)), .d (.sl (tcs.map Cs.row))])]) :
    CSpec Tryd.prog 156 [.ptr 1000 0, .d (.sl ((.mk xk xn xa xb xvs xxs xcs :: r).map Tm.row)), .d (.sl (done.map Tm.row)), .clo 157 [.ptr 1001 0]] [(1000, .blk 117 [.d (.int c)]), (1001, .blk 34 [.d (.int tk), .d (.int tn), .d (.str ta), .d (.str tb), .d (strsD tvs), .d (.sl (txs.map Tm.row)), .d (.sl (tcs.map Cs.row))])] (tmAV (.mk zk zn za zb zvs zxs zcs)) [(1000, .blk 117 [.d (.int c2)]), (1001, .blk 34 [.d (.int tk), .d (.int tn), .d (.str ta), .d (.str tb), .d (strsD tvs), .d (.sl (txs.map Tm.row)), .d (.sl (tcs.map Cs.row))])] := by
  have hrn : ¬ ((r.length + 1 : Int) = 0) := by omega
  simp only [List.map_cons, Tm.row, Tm.rows_eq, Cs.rows_eq] at hcl
  refine CSpec.of Tryd.func156 rfl rfl (Nat.le_of_ble_eq_true rfl) ?_
  show AWp _ _ (endC _ Tryd.f156 _ _) (startC 21 _ _)
  refine AWp.rg [] [] ?_ (hr := by conv => lhs; simp [Tm.row, Tm.rows_eq, Cs.rows_eq, hrn])
  refine AWp.rg [] [] ?_ (hr := by conv => lhs; simp [Tm.row, Tm.rows_eq, Cs.rows_eq, hrn])
  refine AWp.cn ?_
  refine AWp.skip ?_
  refine AWp.dw [] [.c [(1001, 4), (1002, 5), (1003, 6), (1004, 7), (1005, 1001)] [.ptr 1000 0, .agg [.d (.int xk), .d (.int xn), .d (.str xa), .d (.str xb), .d (strsD xvs), .d (.sl (xxs.map Tm.row)), .d (.sl (xcs.map Cs.row))], .clo 169 [.ptr 1001 0, .ptr 1002 0, .ptr 1003 0, .ptr 1004 0]] [(1000, .blk 117 [.d (.int c)]), (1001, .blk 115 [.ptr 1000 0]), (1002, .blk 31 [.d (.sl ((.mk xk xn xa xb xvs xxs xcs :: r).map Tm.row))]), (1003, .blk 31 [.d (.sl (done.map Tm.row))]), (1004, .blk 158 [.clo 157 [.ptr 1005 0]]), (1005, .blk 34 [.d (.int tk), .d (.int tn), .d (.str ta), .d (.str tb), .d (strsD tvs), .d (.sl (txs.map Tm.row)), .d (.sl (tcs.map Cs.row))])] (.agg [.d (.int zk), .d (.int zn), .d (.str za), .d (.str zb), .d (strsD zvs), .d (.sl (zxs.map Tm.row)), .d (.sl (zcs.map Cs.row))]) [(1000, .blk 117 [.d (.int c2)]), (1001, .blk 115 [.ptr 1000 0]), (1002, .blk 31 [.d (.sl ((.mk xk xn xa xb xvs xxs xcs :: r).map Tm.row))]), (1003, .blk 31 [.d (.sl (done.map Tm.row))]), (1004, .blk 158 [.clo 157 [.ptr 1005 0]]), (1005, .blk 34 [.d (.int tk), .d (.int tn), .d (.str ta), .d (.str tb), .d (strsD tvs), .d (.sl (txs.map Tm.row)), .d (.sl (tcs.map Cs.row))])]] mixed ?_ (hr := by conv => lhs; simp [Tm.row, Tm.rows_eq, Cs.rows_eq, hrn])
  refine AWp.ret ?_
  try dsimp only [thenQ, blockQ]
  apply endC.ret
  · rfl
  · conv => lhs; simp [resAV, Tryd.results156]
  · first | rfl | simp [resVal, tmAV, Tm.row, Tm.rows_eq, Cs.rows_eq, AV.nilD, nilDL, strsD]
  · simp [moEnd, memGet]

def PlN (N : Nat) : Prop := ∀ (t : Tm) (c : Int), t.Rt N → t.Ok →
  CSpec Tryd.prog 109 [.ptr 1000 0, tmAV t] [(1000, mkO c)] (tmAV (t.pl c).1) [(1000, mkO (t.pl c).2)]
theorem all_any (N : Nat) (ih : PlN N) (tk tn : Int) (ta tb : ByteArray) (tvs : List ByteArray) (txs : List Tm) (tcs : List Cs) : ∀ (l done : List Tm) (c : Int), (∀ x ∈ l, x.Rt N ∧ x.Ok) → done.length + l.length ≤ 6 →
    CSpec Tryd.prog 156 [.ptr 1000 0, .d (.sl (l.map Tm.row)), .d (.sl (done.map Tm.row)), .clo 157 [.ptr 1001 0]] [(1000, mkO c), (1001, .blk 34 [.d (.int tk), .d (.int tn), .d (.str ta), .d (.str tb), .d (strsD tvs), .d (.sl (txs.map Tm.row)), .d (.sl (tcs.map Cs.row))])]
      (tmAV (around (Tm.ats l c).2.1 (.mk tk tn ta .empty [] (done ++ (Tm.ats l c).1) []))) [(1000, mkO (Tm.ats l c).2.2), (1001, .blk 34 [.d (.int tk), .d (.int tn), .d (.str ta), .d (.str tb), .d (strsD tvs), .d (.sl (txs.map Tm.row)), .d (.sl (tcs.map Cs.row))])] := by
  intro l
  induction l with
  | nil =>
    intro done c _ _
    rw [Tm.ats]
    dsimp only [around]
    rw [List.append_nil]
    exact cs_allN c c [] done tk tn ta tb tvs txs tcs 0 0 .empty .empty [] [] [] tk tn ta .empty [] done [] (by simp) (cs_pterm1 done tk tn ta tb tvs txs tcs)
  | cons x r ih2 =>
    intro done c hl hn
    simp only [List.length_cons] at hn
    obtain ⟨hxR, hxO⟩ := hl x (List.mem_cons_self ..)
    have hr := fun y hy => hl y (List.mem_cons_of_mem _ hy)
    have hx := ih x (wr (c + 1)) hxR hxO
    obtain ⟨xk, xn, xa, xb, xvs, xxs, xcs⟩ := x
    rw [Tm.ats, Tm.tk]
    by_cases hk : xk = 1
    · subst hk
      rw [if_pos rfl]
      dsimp only
      have h2 := ih2 (done ++ [.mk 1 xn xa xb xvs xxs xcs]) c hr (by simp; omega)
      rw [List.append_assoc, List.singleton_append] at h2
      generalize (Tm.ats r c).2.2 = c2 at h2 ⊢
      generalize around (Tm.ats r c).2.1 (.mk tk tn ta .empty [] (done ++ (Tm.mk 1 xn xa xb xvs xxs xcs) :: (Tm.ats r c).1) []) = z at h2 ⊢
      obtain ⟨zk, zn, za, zb, zvs, zxs, zcs⟩ := z
      have h3 := cs_all1 c c2 (.mk 1 xn xa xb xvs xxs xcs) r done (done ++ [.mk 1 xn xa xb xvs xxs xcs]) tk tn ta tb tvs txs tcs 1 xn xa xb xvs xxs xcs zk zn za zb zvs zxs zcs (by omega) (by omega) (by rw [List.map_append]; simp [Tm.row, Tm.rows_eq, Cs.rows_eq]) h2
      have h4 := cs_simpleA1 c c c2 0 .empty (.mk 1 xn xa xb xvs xxs xcs :: r) done tk tn ta tb tvs txs tcs 0 xn xa xb xvs xxs xcs 0 0 .empty .empty [] [] [] zk zn za zb zvs zxs zcs h3
      exact cs_allC c c2 r done tk tn ta tb tvs txs tcs 1 xn xa xb xvs xxs xcs zk zn za zb zvs zxs zcs (by omega) h4
    · rw [if_neg hk]
      dsimp only [around]
      have hfr := cs_mkFresh c
      obtain ⟨e, he⟩ : ∃ e, e = wr (c + 1) := ⟨_, rfl⟩
      rw [← he] at hx hfr ⊢
      obtain ⟨s, hs⟩ : ∃ s, s = wNm e := ⟨_, rfl⟩
      rw [← hs] at hfr ⊢
      generalize (Tm.mk xk xn xa xb xvs xxs xcs).pl e = o at hx ⊢
      obtain ⟨y, c1⟩ := o
      dsimp only at hx ⊢
      have h2 := ih2 (done ++ [varT s]) c1 hr (by simp; omega)
      rw [List.append_assoc, List.singleton_append] at h2
      generalize (Tm.ats r c1).2.2 = c2 at h2 ⊢
      generalize around (Tm.ats r c1).2.1 (.mk tk tn ta .empty [] (done ++ varT s :: (Tm.ats r c1).1) []) = z at h2 ⊢
      obtain ⟨yk, yn, ya, yb, yvs, yxs, ycs⟩ := y
      obtain ⟨zk, zn, za, zb, zvs, zxs, zcs⟩ := z
      have h3 := cs_all1 c1 c2 (.mk xk xn xa xb xvs xxs xcs) r done (done ++ [varT s]) tk tn ta tb tvs txs tcs 1 0 s .empty [] [] [] zk zn za zb zvs zxs zcs (by omega) (by omega) (by rw [List.map_append]; simp [varT, Tm.row, Tm.rows_eq, Cs.rows_eq]) h2
      have h4 := cs_simpleA2 c c1 c2 e s (.mk xk xn xa xb xvs xxs xcs :: r) done tk tn ta tb tvs txs tcs xk xn xa xb xvs xxs xcs yk yn ya yb yvs yxs ycs zk zn za zb zvs zxs zcs hk hfr hx h3
      exact cs_allC c c2 r done tk tn ta tb tvs txs tcs xk xn xa xb xvs xxs xcs 6 0 s .empty [] [.mk yk yn ya yb yvs yxs ycs, .mk zk zn za zb zvs zxs zcs] [] (by omega) h4
set_option maxRecDepth 20000 in
set_option maxHeartbeats 16000000 in
theorem cs_pterm2 (N : Nat) (ih : PlN N) (c : Int) (tk tn : Int) (ta tb : ByteArray) (tvs : List ByteArray) (txs : List Tm) (tcs : List Cs) (yk yn : Int) (ya yb : ByteArray) (yvs : List ByteArray) (yxs : List Tm) (ycs : List Cs) (hcl : tcs.length ≤ 6) (hcR : ∀ d ∈ tcs, d.3.Rt N ∧ d.3.Ok) :
    CSpec Tryd.prog 159 [tmAV (.mk yk yn ya yb yvs yxs ycs), .ptr 1001 0, .ptr 1002 0] [(1000, .blk 117 [.d (.int c)]), (1001, .blk 34 [.d (.int tk), .d (.int tn), .d (.str ta), .d (.str tb), .d (strsD tvs), .d (.sl (txs.map Tm.row)), .d (.sl (tcs.map Cs.row))]), (1002, .blk 115 [.ptr 1000 0])] (tmAV (.mk 7 0 .empty .empty [] [.mk yk yn ya yb yvs yxs ycs] (Cs.plL tcs c).1)) [(1000, .blk 117 [.d (.int ((Cs.plL tcs c).2))]), (1001, .blk 34 [.d (.int tk), .d (.int tn), .d (.str ta), .d (.str tb), .d (strsD tvs), .d (.sl (txs.map Tm.row)), .d (.sl (tcs.map Cs.row))]), (1002, .blk 115 [.ptr 1000 0])] := by
  obtain ⟨R, hR⟩ : ∃ R, R = Cs.plL tcs c := ⟨_, rfl⟩
  rw [← hR]
  refine CSpec.of Tryd.func159 rfl rfl (Nat.le_of_ble_eq_true rfl) ?_
  show AWp _ _ (endC _ Tryd.f159 _ _) (startC 34 _ _)
  refine AWp.rg [] [] ?_ (hr := by conv => lhs; simp [Tm.row, Tm.rows_eq, Cs.rows_eq])
  refine AWp.rg [1] [] ?_ (hr := by conv => lhs; simp [Tm.row, Tm.rows_eq, Cs.rows_eq])
  refine AWp.rg [] [] ?_ (hr := by conv => lhs; simp [Tm.row, Tm.rows_eq, Cs.rows_eq])
  repeat (first | refine AWp.seq ?_ | refine AWp.block ?_)
  refine AWp.le (Le.low [400] [] (fr := [(2, .ptr 1002 0), (4, .ptr 4 0), (5, .ptr 5 0), (12, .d (.sl (tcs.map Cs.row))), (13, .d (.int (tcs.length : Int))), (14, .d (.int (0 : Int)))]) (mem := [(4, some (.blk 34 [.d (.int 0), .d (.int 0), .d (.str ByteArray.empty), .d (.str ByteArray.empty), .lit (.slice none 0 0), .lit (.slice none 0 0), .lit (.slice none 0 0)])), (5, some (.blk 34 [.d (.int 7), .d (.int 0), .d (.str ByteArray.empty), .d (.str ByteArray.empty), .lit (.slice none 0 0), .d (.sl [[.int yk, .int yn, .str ya, .str yb, strsD yvs, .sl (yxs.map Tm.row), .sl (ycs.map Cs.row)]]), .arr 400 0 ([] : List Cs).length])), (400, some (.arr 40 9 (([] : List Cs).map Cs.row))), (1000, some (.blk 117 [.d (.int (c : Int))])), (1001, some (.blk 34 [.d (.int tk), .d (.int tn), .d (.str ta), .d (.str tb), .d (strsD tvs), .d (.sl (txs.map Tm.row)), .d (.sl (tcs.map Cs.row))])), (1002, some (.blk 115 [.ptr 1000 0]))]) rfl (by simp) (by simp)) ?_
  refine AWp.loop (σ := fun u : {u : Nat × List Cs × Int // u.1 ≤ tcs.length ∧ (Cs.plL tcs c = (u.2.1 ++ (Cs.plL (tcs.drop u.1) u.2.2).1, (Cs.plL (tcs.drop u.1) u.2.2).2) ∧ u.2.1.length = u.1)} => ⟨34, [(2, .ptr 1002 0), (4, .ptr 4 0), (5, .ptr 5 0), (12, .d (.sl (tcs.map Cs.row))), (13, .d (.int (tcs.length : Int))), (14, .d (.int (u.1.1 : Int)))], [(4, some (.blk 34 [.d (.int 0), .d (.int 0), .d (.str ByteArray.empty), .d (.str ByteArray.empty), .lit (.slice none 0 0), .lit (.slice none 0 0), .lit (.slice none 0 0)])), (5, some (.blk 34 [.d (.int 7), .d (.int 0), .d (.str ByteArray.empty), .d (.str ByteArray.empty), .lit (.slice none 0 0), .d (.sl [[.int yk, .int yn, .str ya, .str yb, strsD yvs, .sl (yxs.map Tm.row), .sl (ycs.map Cs.row)]]), .arr 400 0 u.1.2.1.length])), (400, some (.arr 40 9 (u.1.2.1.map Cs.row))), (1000, some (.blk 117 [.d (.int u.1.2.2)])), (1001, some (.blk 34 [.d (.int tk), .d (.int tn), .d (.str ta), .d (.str tb), .d (strsD tvs), .d (.sl (txs.map Tm.row)), .d (.sl (tcs.map Cs.row))])), (1002, some (.blk 115 [.ptr 1000 0]))]⟩)
    (μ := fun u => tcs.length - u.1.1) ⟨(0, [], c), ⟨Nat.zero_le _, ⟨by simp, rfl⟩⟩⟩ (Le.sub (by simp) (by simp)) (fun ⟨(i, ds, c3), ⟨hi3, hw⟩⟩ => ?_)
  dsimp only at hi3 hw ⊢
  refine AWp.rg [] [] ?_ (hr := by conv => lhs; simp [Tm.row, Tm.rows_eq, Cs.rows_eq])
  repeat (first | refine AWp.seq ?_ | refine AWp.block ?_)
  refine AWp.cond rfl (fun hc => ?_) (fun hc => ?_)
  · have hi1 : i < tcs.length := by have := of_decide_eq_true hc; omega
    clear hc
    have h1d : tcs[i]? = some tcs[i] := List.getElem?_eq_getElem hi1
    have hmd : tcs[i] ∈ tcs := List.getElem_mem hi1
    have hdd : tcs.drop i = tcs[i] :: tcs.drop (i + 1) := List.drop_eq_getElem_cons hi1
    generalize tcs[i] = d at h1d hmd hdd
    obtain ⟨hap, hdl⟩ := hw
    rw [hdd, Cs.plL] at hap
    obtain ⟨hyR, hyO⟩ := hcR d hmd
    obtain ⟨dt, dws, y⟩ := d
    try dsimp only at hyR hyO
    rw [Cs.pl] at hap
    have hx := ih y c3 hyR hyO
    generalize y.pl c3 = o at hx hap
    obtain ⟨z, c2⟩ := o
    dsimp only at hx hap
    obtain ⟨dk, dn, da, db, dvs, dxs, dcs⟩ := y
    obtain ⟨zk, zn, za, zb, zvs, zxs, zcs⟩ := z
    refine AWp.skip ?_
    refine AWp.rg [] [] ?_ (hr := by conv => lhs; simp [Tm.row, Tm.rows_eq, Cs.rows_eq, h1d, Cs.row])
    refine AWp.dw [] [.c [] [.ptr 1000 0, .agg [.d (.int dk), .d (.int dn), .d (.str da), .d (.str db), .d (strsD dvs), .d (.sl (dxs.map Tm.row)), .d (.sl (dcs.map Cs.row))]] [(1000, .blk 117 [.d (.int c3)])] (.agg [.d (.int zk), .d (.int zn), .d (.str za), .d (.str zb), .d (strsD zvs), .d (.sl (zxs.map Tm.row)), .d (.sl (zcs.map Cs.row))]) [(1000, .blk 117 [.d (.int c2)])]] mixed ?_ (hr := by conv => lhs; simp [Tm.row, Tm.rows_eq, Cs.rows_eq, h1d, Cs.row])
    refine AWp.rg [] [] ?_ (hr := by conv => lhs; simp [Tm.row, Tm.rows_eq, Cs.rows_eq, h1d, Cs.row])
    refine ⟨⟨(i + 1, ds ++ [.mk dt dws (.mk zk zn za zb zvs zxs zcs)], c2), hi1, ⟨by rw [hap]; simp, by simp [hdl]⟩⟩, by simp; omega, ?_⟩
    dsimp only
    exact Le.sub (by simp [Cs.row, Tm.row, Tm.rows_eq, Cs.rows_eq, hdl]) (by simp [Cs.row, Tm.row, Tm.rows_eq, Cs.rows_eq, hdl])
  have hi1 : i = tcs.length := by have := of_decide_eq_false hc; omega
  subst hi1
  clear hc
  obtain ⟨hap, hdl⟩ := hw
  rw [List.drop_length, Cs.plL] at hap
  simp only [List.append_nil] at hap
  rw [hap] at hR
  try dsimp only at hR
  subst hR
  refine AWp.exit ?_
  refine AWp.rg [] [] ?_ (hr := by conv => lhs; simp [Tm.row, Tm.rows_eq, Cs.rows_eq])
  refine AWp.ret ?_
  try dsimp only [thenQ, blockQ]
  apply endC.retF [400]
  · rfl
  · conv => lhs; simp
  · conv => lhs; simp [resAV, Tryd.results159]
  · first | rfl | simp [resVal, tmAV, Tm.row, Tm.rows_eq, Cs.rows_eq, AV.nilD, nilDL, strsD]
  · simp [moEnd, memGet]
set_option maxRecDepth 20000 in
set_option maxHeartbeats 16000000 in
theorem pl_step (N : Nat) (ih : PlN N) : PlN (N + 1) := by
  intro t c hRt hO
  obtain ⟨R, hR⟩ : ∃ R, R = t.pl c := ⟨_, rfl⟩
  rw [← hR]
  obtain ⟨tk, tn, ta, tb, tvs, txs, tcs⟩ := t
  obtain ⟨hkk, hmany, h6, hxR, hcR0⟩ := hRt
  have hxO : ∀ x ∈ txs, x.Ok := fun x hx => Tm.Oks_iff.1 hO.2.2.1 x hx
  have hcR : ∀ d ∈ tcs, d.3.Rt N ∧ d.3.Ok := fun d hd => ⟨(hcR0 d hd).2, by
    obtain ⟨dt, dws, y⟩ := d
    exact (Cs.Oks_iff.1 hO.2.2.2 _ hd).2.2⟩
  refine CSpec.of Tryd.func109 rfl rfl (Nat.le_of_ble_eq_true rfl) ?_
  show AWp _ _ (endC _ Tryd.f109 _ _) (startC 46 _ _)
  refine AWp.rg [] [] ?_ (hr := by conv => lhs; simp [Tm.row, Tm.rows_eq, Cs.rows_eq])
  refine AWp.rg [] [] ?_ (hr := by conv => lhs; simp [Tm.row, Tm.rows_eq, Cs.rows_eq])
  by_cases q1 : tk = 3
  · refine AWp.rg [] [] ?_ (hr := by conv => lhs; simp [Tm.row, Tm.rows_eq, Cs.rows_eq, q1])
    refine AWp.cy ?_
    refine AWp.skip ?_
    refine AWp.cy ?_
    subst q1
    rw [Tm.pl, if_pos (by omega)] at hR
    have hal := all_any N ih 3 tn ta tb tvs txs tcs txs [] c (fun x hx => ⟨hxR x hx, hxO x hx⟩) (by simp; omega)
    simp only [List.nil_append] at hal
    generalize (Tm.ats txs c).2.2 = c2 at hal hR
    generalize around (Tm.ats txs c).2.1 (.mk 3 tn ta .empty [] (Tm.ats txs c).1 []) = z at hal hR
    subst hR
    obtain ⟨zk, zn, za, zb, zvs, zxs, zcs⟩ := z
    replace hal := CSpec.nilArgs (args := [.ptr 1000 0, .d (.sl (txs.map Tm.row)), .lit (.slice none 0 0), .clo 157 [.ptr 1001 0]]) hal
    refine AWp.rg [] [.c [(1001, 3)] [.ptr 1000 0, .d (.sl (txs.map Tm.row)), .lit (.slice none 0 0), .clo 157 [.ptr 1001 0]] [(1000, .blk 117 [.d (.int c)]), (1001, .blk 34 [.d (.int 3), .d (.int tn), .d (.str ta), .d (.str tb), .d (strsD tvs), .d (.sl (txs.map Tm.row)), .d (.sl (tcs.map Cs.row))])] (.agg [.d (.int zk), .d (.int zn), .d (.str za), .d (.str zb), .d (strsD zvs), .d (.sl (zxs.map Tm.row)), .d (.sl (zcs.map Cs.row))]) [(1000, .blk 117 [.d (.int c2)]), (1001, .blk 34 [.d (.int 3), .d (.int tn), .d (.str ta), .d (.str tb), .d (strsD tvs), .d (.sl (txs.map Tm.row)), .d (.sl (tcs.map Cs.row))])]] ?_ (hr := by conv => lhs; simp [Tm.row, Tm.rows_eq, Cs.rows_eq])
    refine AWp.ret ?_
    try dsimp only [thenQ, blockQ]
    apply endC.ret
    · rfl
    · conv => lhs; simp [resAV, Tryd.results109]
    · first | rfl | simp [resVal, tmAV, Tm.row, Tm.rows_eq, Cs.rows_eq, AV.nilD, nilDL, strsD]
    · simp [moEnd, memGet]
  refine AWp.rg [] [] ?_ (hr := by conv => lhs; simp [Tm.row, Tm.rows_eq, Cs.rows_eq, q1])
  refine AWp.cn ?_
  by_cases q2 : tk = 4
  · refine AWp.rg [] [] ?_ (hr := by conv => lhs; simp [Tm.row, Tm.rows_eq, Cs.rows_eq, q1, q2])
    refine AWp.cy ?_
    refine AWp.skip ?_
    refine AWp.cy ?_
    subst q2
    rw [Tm.pl, if_pos (by omega)] at hR
    have hal := all_any N ih 4 tn ta tb tvs txs tcs txs [] c (fun x hx => ⟨hxR x hx, hxO x hx⟩) (by simp; omega)
    simp only [List.nil_append] at hal
    generalize (Tm.ats txs c).2.2 = c2 at hal hR
    generalize around (Tm.ats txs c).2.1 (.mk 4 tn ta .empty [] (Tm.ats txs c).1 []) = z at hal hR
    subst hR
    obtain ⟨zk, zn, za, zb, zvs, zxs, zcs⟩ := z
    replace hal := CSpec.nilArgs (args := [.ptr 1000 0, .d (.sl (txs.map Tm.row)), .lit (.slice none 0 0), .clo 157 [.ptr 1001 0]]) hal
    refine AWp.rg [] [.c [(1001, 3)] [.ptr 1000 0, .d (.sl (txs.map Tm.row)), .lit (.slice none 0 0), .clo 157 [.ptr 1001 0]] [(1000, .blk 117 [.d (.int c)]), (1001, .blk 34 [.d (.int 4), .d (.int tn), .d (.str ta), .d (.str tb), .d (strsD tvs), .d (.sl (txs.map Tm.row)), .d (.sl (tcs.map Cs.row))])] (.agg [.d (.int zk), .d (.int zn), .d (.str za), .d (.str zb), .d (strsD zvs), .d (.sl (zxs.map Tm.row)), .d (.sl (zcs.map Cs.row))]) [(1000, .blk 117 [.d (.int c2)]), (1001, .blk 34 [.d (.int 4), .d (.int tn), .d (.str ta), .d (.str tb), .d (strsD tvs), .d (.sl (txs.map Tm.row)), .d (.sl (tcs.map Cs.row))])]] ?_ (hr := by conv => lhs; simp [Tm.row, Tm.rows_eq, Cs.rows_eq, q1])
    refine AWp.ret ?_
    try dsimp only [thenQ, blockQ]
    apply endC.ret
    · rfl
    · conv => lhs; simp [resAV, Tryd.results109]
    · first | rfl | simp [resVal, tmAV, Tm.row, Tm.rows_eq, Cs.rows_eq, AV.nilD, nilDL, strsD]
    · simp [moEnd, memGet]
  refine AWp.rg [] [] ?_ (hr := by conv => lhs; simp [Tm.row, Tm.rows_eq, Cs.rows_eq, q1, q2])
  refine AWp.cn ?_
  by_cases q3 : tk = 5
  · refine AWp.rg [] [] ?_ (hr := by conv => lhs; simp [Tm.row, Tm.rows_eq, Cs.rows_eq, q1, q2, q3])
    refine AWp.cy ?_
    subst q3
    rw [Tm.pl, if_pos (by omega)] at hR
    have hal := all_any N ih 5 tn ta tb tvs txs tcs txs [] c (fun x hx => ⟨hxR x hx, hxO x hx⟩) (by simp; omega)
    simp only [List.nil_append] at hal
    generalize (Tm.ats txs c).2.2 = c2 at hal hR
    generalize around (Tm.ats txs c).2.1 (.mk 5 tn ta .empty [] (Tm.ats txs c).1 []) = z at hal hR
    subst hR
    obtain ⟨zk, zn, za, zb, zvs, zxs, zcs⟩ := z
    replace hal := CSpec.nilArgs (args := [.ptr 1000 0, .d (.sl (txs.map Tm.row)), .lit (.slice none 0 0), .clo 157 [.ptr 1001 0]]) hal
    refine AWp.rg [] [.c [(1001, 3)] [.ptr 1000 0, .d (.sl (txs.map Tm.row)), .lit (.slice none 0 0), .clo 157 [.ptr 1001 0]] [(1000, .blk 117 [.d (.int c)]), (1001, .blk 34 [.d (.int 5), .d (.int tn), .d (.str ta), .d (.str tb), .d (strsD tvs), .d (.sl (txs.map Tm.row)), .d (.sl (tcs.map Cs.row))])] (.agg [.d (.int zk), .d (.int zn), .d (.str za), .d (.str zb), .d (strsD zvs), .d (.sl (zxs.map Tm.row)), .d (.sl (zcs.map Cs.row))]) [(1000, .blk 117 [.d (.int c2)]), (1001, .blk 34 [.d (.int 5), .d (.int tn), .d (.str ta), .d (.str tb), .d (strsD tvs), .d (.sl (txs.map Tm.row)), .d (.sl (tcs.map Cs.row))])]] ?_ (hr := by conv => lhs; simp [Tm.row, Tm.rows_eq, Cs.rows_eq, q1, q2])
    refine AWp.ret ?_
    try dsimp only [thenQ, blockQ]
    apply endC.ret
    · rfl
    · conv => lhs; simp [resAV, Tryd.results109]
    · first | rfl | simp [resVal, tmAV, Tm.row, Tm.rows_eq, Cs.rows_eq, AV.nilD, nilDL, strsD]
    · simp [moEnd, memGet]
  refine AWp.rg [] [] ?_ (hr := by conv => lhs; simp [Tm.row, Tm.rows_eq, Cs.rows_eq, q1, q2, q3])
  refine AWp.cn ?_
  by_cases q4 : tk = 6
  · refine AWp.rg [] [] ?_ (hr := by conv => lhs; simp [Tm.row, Tm.rows_eq, Cs.rows_eq, q1, q2, q3, q4])
    refine AWp.cy ?_
    subst q4
    have hx2 : txs.length = 2 ∧ tcs = [] := by
      unfold manyB at hmany
      simp at hmany
      exact hmany
    obtain ⟨hx2, rfl⟩ := hx2
    obtain ⟨x, y, rfl⟩ : ∃ x y, txs = [x, y] := by
      rcases txs with _ | ⟨x, _ | ⟨y, _ | ⟨z, l⟩⟩⟩
      · cases hx2
      · cases hx2
      · exact ⟨x, y, rfl⟩
      · simp at hx2
    have hxx := ih x c (hxR x (by simp)) (hxO x (by simp))
    rw [Tm.pl, if_neg (by omega), if_pos rfl, Tm.plL, Tm.plL, Tm.plL] at hR
    dsimp only at hR
    generalize x.pl c = o at hxx hR
    obtain ⟨z, c1⟩ := o
    dsimp only at hxx hR
    have hyy := ih y c1 (hxR y (by simp)) (hxO y (by simp))
    generalize y.pl c1 = o at hyy hR
    obtain ⟨u, c2⟩ := o
    dsimp only at hyy hR
    subst hR
    obtain ⟨xk, xn, xa, xb, xvs, xxs, xcs⟩ := x
    obtain ⟨yk, yn, ya, yb, yvs, yxs, ycs⟩ := y
    obtain ⟨zk, zn, za, zb, zvs, zxs, zcs⟩ := z
    obtain ⟨uk, un, ua, ub, uvs, uxs, ucs⟩ := u
    refine AWp.dw [] [.c [] [.ptr 1000 0, .agg [.d (.int xk), .d (.int xn), .d (.str xa), .d (.str xb), .d (strsD xvs), .d (.sl (xxs.map Tm.row)), .d (.sl (xcs.map Cs.row))]] [(1000, .blk 117 [.d (.int c)])] (.agg [.d (.int zk), .d (.int zn), .d (.str za), .d (.str zb), .d (strsD zvs), .d (.sl (zxs.map Tm.row)), .d (.sl (zcs.map Cs.row))]) [(1000, .blk 117 [.d (.int c1)])]] mixed ?_ (hr := by conv => lhs; simp [Tm.row, Tm.rows_eq, Cs.rows_eq, q1, q2, q3])
    refine AWp.dw [9] [.c [] [.ptr 1000 0, .agg [.d (.int yk), .d (.int yn), .d (.str ya), .d (.str yb), .d (strsD yvs), .d (.sl (yxs.map Tm.row)), .d (.sl (ycs.map Cs.row))]] [(1000, .blk 117 [.d (.int c1)])] (.agg [.d (.int uk), .d (.int un), .d (.str ua), .d (.str ub), .d (strsD uvs), .d (.sl (uxs.map Tm.row)), .d (.sl (ucs.map Cs.row))]) [(1000, .blk 117 [.d (.int c2)])]] mixed ?_ (hr := by conv => lhs; simp [Tm.row, Tm.rows_eq, Cs.rows_eq, q1, q2, q3])
    refine AWp.ret ?_
    try dsimp only [thenQ, blockQ]
    apply endC.ret
    · rfl
    · conv => lhs; simp [resAV, Tryd.results109]
    · first | rfl | simp [resVal, tmAV, Tm.row, Tm.rows_eq, Cs.rows_eq, AV.nilD, nilDL, strsD]
    · simp [moEnd, memGet]
  refine AWp.rg [] [] ?_ (hr := by conv => lhs; simp [Tm.row, Tm.rows_eq, Cs.rows_eq, q1, q2, q3, q4])
  refine AWp.cn ?_
  by_cases q5 : tk = 7
  · refine AWp.rg [] [] ?_ (hr := by conv => lhs; simp [Tm.row, Tm.rows_eq, Cs.rows_eq, q1, q2, q3, q4, q5])
    refine AWp.cy ?_
    subst q5
    have hx1 : txs.length = 1 := by
      unfold manyB at hmany
      simp at hmany
      exact hmany
    obtain ⟨x, rfl⟩ : ∃ x, txs = [x] := by
      rcases txs with _ | ⟨x, _ | ⟨y, l⟩⟩
      · cases hx1
      · exact ⟨x, rfl⟩
      · simp at hx1
    have hxx := ih x (wr (c + 1)) (hxR x (by simp)) (hxO x (by simp))
    rw [Tm.pl, if_neg (by omega), if_neg (by omega), if_pos rfl, Tm.ats] at hR
    obtain ⟨xk, xn, xa, xb, xvs, xxs, xcs⟩ := x
    have hsm : ∃ z c2, R = (z, c2) ∧ CSpec Tryd.prog 158 [.ptr 1000 0, tmAV (.mk xk xn xa xb xvs xxs xcs), .clo 159 [.ptr 1001 0, .ptr 1002 0]] [(1000, .blk 117 [.d (.int c)]), (1001, .blk 34 [.d (.int 7), .d (.int tn), .d (.str ta), .d (.str tb), .d (strsD tvs), .d (.sl (([.mk xk xn xa xb xvs xxs xcs]).map Tm.row)), .d (.sl (tcs.map Cs.row))]), (1002, .blk 115 [.ptr 1000 0])] (tmAV z) [(1000, .blk 117 [.d (.int c2)]), (1001, .blk 34 [.d (.int 7), .d (.int tn), .d (.str ta), .d (.str tb), .d (strsD tvs), .d (.sl (([.mk xk xn xa xb xvs xxs xcs]).map Tm.row)), .d (.sl (tcs.map Cs.row))]), (1002, .blk 115 [.ptr 1000 0])] := by
      rw [Tm.tk] at hR
      by_cases hk1 : xk = 1
      · subst hk1
        rw [if_pos rfl, Tm.ats] at hR
        dsimp only [around] at hR
        refine ⟨_, _, hR, ?_⟩
        have h3 := cs_pterm2 N ih c 7 tn ta tb tvs [.mk 1 xn xa xb xvs xxs xcs] tcs 1 xn xa xb xvs xxs xcs (by simp at h6; omega) hcR
        generalize Cs.plL tcs c = o at h3 ⊢
        obtain ⟨u, c2⟩ := o
        exact cs_simpleB1 c c c2 0 .empty 7 tn ta tb tvs [.mk 1 xn xa xb xvs xxs xcs] tcs 0 xn xa xb xvs xxs xcs 0 0 .empty .empty [] [] [] 7 0 .empty .empty [] [.mk 1 xn xa xb xvs xxs xcs] u h3
      · rw [if_neg hk1] at hR
        have hfr := cs_mkFresh c
        obtain ⟨e, he⟩ : ∃ e, e = wr (c + 1) := ⟨_, rfl⟩
        rw [← he] at hxx hfr hR
        obtain ⟨s, hs⟩ : ∃ s, s = wNm e := ⟨_, rfl⟩
        rw [← hs] at hfr hR
        generalize (Tm.mk xk xn xa xb xvs xxs xcs).pl e = o at hxx hR
        obtain ⟨y, c1⟩ := o
        dsimp only at hxx hR
        rw [Tm.ats] at hR
        dsimp only [around] at hR
        refine ⟨_, _, hR, ?_⟩
        have h3 := cs_pterm2 N ih c1 7 tn ta tb tvs [.mk xk xn xa xb xvs xxs xcs] tcs 1 0 s .empty [] [] [] (by simp at h6; omega) hcR
        generalize Cs.plL tcs c1 = o at h3 ⊢
        obtain ⟨u, c2⟩ := o
        obtain ⟨yk, yn, ya, yb, yvs, yxs, ycs⟩ := y
        exact cs_simpleB2 c c1 c2 e s 7 tn ta tb tvs [.mk xk xn xa xb xvs xxs xcs] tcs xk xn xa xb xvs xxs xcs yk yn ya yb yvs yxs ycs 7 0 .empty .empty [] [varT s] u hk1 hfr hxx h3
    obtain ⟨z, c2, rfl, hsm⟩ := hsm
    obtain ⟨zk, zn, za, zb, zvs, zxs, zcs⟩ := z
    clear hR
    simp only [List.map_cons, List.map_nil, Tm.row, Tm.rows_eq, Cs.rows_eq] at hsm
    refine AWp.dw [] [.c [(1001, 3), (1002, 2)] [.ptr 1000 0, .agg [.d (.int xk), .d (.int xn), .d (.str xa), .d (.str xb), .d (strsD xvs), .d (.sl (xxs.map Tm.row)), .d (.sl (xcs.map Cs.row))], .clo 159 [.ptr 1001 0, .ptr 1002 0]] [(1000, .blk 117 [.d (.int c)]), (1001, .blk 34 [.d (.int 7), .d (.int tn), .d (.str ta), .d (.str tb), .d (strsD tvs), .d (.sl (([.mk xk xn xa xb xvs xxs xcs]).map Tm.row)), .d (.sl (tcs.map Cs.row))]), (1002, .blk 115 [.ptr 1000 0])] (.agg [.d (.int zk), .d (.int zn), .d (.str za), .d (.str zb), .d (strsD zvs), .d (.sl (zxs.map Tm.row)), .d (.sl (zcs.map Cs.row))]) [(1000, .blk 117 [.d (.int c2)]), (1001, .blk 34 [.d (.int 7), .d (.int tn), .d (.str ta), .d (.str tb), .d (strsD tvs), .d (.sl (([.mk xk xn xa xb xvs xxs xcs]).map Tm.row)), .d (.sl (tcs.map Cs.row))]), (1002, .blk 115 [.ptr 1000 0])]] mixed ?_ (hr := by conv => lhs; simp [Tm.row, Tm.rows_eq, Cs.rows_eq, q1, q2, q3, q4])
    refine AWp.ret ?_
    try dsimp only [thenQ, blockQ]
    apply endC.ret
    · rfl
    · conv => lhs; simp [resAV, Tryd.results109]
    · first | rfl | simp [resVal, tmAV, Tm.row, Tm.rows_eq, Cs.rows_eq, AV.nilD, nilDL, strsD]
    · simp [moEnd, memGet]
  refine AWp.rg [] [] ?_ (hr := by conv => lhs; simp [Tm.row, Tm.rows_eq, Cs.rows_eq, q1, q2, q3, q4, q5])
  refine AWp.cn ?_
  refine AWp.skip ?_
  obtain rfl : R = (.mk tk tn ta tb tvs txs tcs, c) := by rw [hR, Tm.pl, if_neg (by omega), if_neg (by omega), if_neg (by omega)]
  refine AWp.rg [] [] ?_ (hr := by conv => lhs; simp [Tm.row, Tm.rows_eq, Cs.rows_eq, q1, q2, q3, q4, q5])
  refine AWp.ret ?_
  try dsimp only [thenQ, blockQ]
  apply endC.ret
  · rfl
  · conv => lhs; simp [resAV, Tryd.results109]
  · first | rfl | simp [resVal, tmAV, Tm.row, Tm.rows_eq, Cs.rows_eq, AV.nilD, nilDL, strsD]
  · simp [moEnd, memGet]
theorem pl_all : ∀ N, PlN N
  | 0 => fun _ _ h => h.elim
  | N + 1 => pl_step N (pl_all N)

end Go.Proofs.YtapiiklnnkkdlaaDoor
