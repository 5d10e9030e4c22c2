/- scope.Own whose arrays are new; xcref4.Named, Each; names.changer: fresh, now. Printed by a small program. -/
import Derived.Test.YtialccgjbanmcaaDoorCut
import Derived.Test.YtialccgjbanmcaaDoorNameA
namespace Go.Proofs.YtialccgjbanmcaaDoor
open Go.RowKit
attribute [local simp] runD mkRc ldOf ldArg noAny dstOk guardOk opEff opEff0 effOp pureOp callOp zEff evA constAV frGet memGet startAS frOf isGoCall idIn AS.after nextR opnIds objIds AV.ids idsL AObj.ids frNo memNo opnAny isAny mkVal rdCells wrCells fldAddr idxAddr srcRows litRows toD1 toDs setAt sliceAV optI partAV bldAV fillAV binAV binI AV.cells callEff calleeOf frKill memKill AV.kill AObj.kill AV.has AV.hasL Op.operands Call.operands keepF keepM viewIds cChk renOf moGet moWs moQ cEff moLike moHave AV.ren renL AObj.ren AObj.like kept startC moMem AV.frz frz1 frzL frSub memSub frzs AS.frz frFrz memFrz AObj.frz takeMap takeLen bleF Nat.ble_eq memAny objAny mapOp D.keyOk rowAV valRow extOp wrapOp phO frLow memLow memLow1 objLow memEmpty Low LowL
set_option linter.unusedVariables false
set_option linter.unusedSimpArgs false

set_option maxRecDepth 20000 in
set_option maxHeartbeats 16000000 in
theorem cs_Own (t : Tm) (hO : t.Ok) : CSpec Tryd.prog 54 [tmAV t] [(500, .arr 0 1 []), (501, .arr 0 1 [])] (match t with | .mk k n a b vs xs cs => .agg [.d (.int k), .d (.int n), .d (.str a), .d (.str b), .d (strsD vs), .arr 500 0 xs.length, .arr 501 0 cs.length])
    (match t with | .mk k n a b vs xs cs => [(500, .arr 32 7 (xs.map Tm.row)), (501, .arr 50 9 (cs.map Cs.row))]) := by
  obtain ⟨tk, tn, ta, tb, tvs, txs, tcs⟩ := t
  dsimp only
  obtain ⟨o1, o2, o3, o4, o5⟩ := hO.vars
  have hxO : ∀ x ∈ txs, x.Ok := Tm.Oks_iff.1 hO.2.2.1
  have hcO := Cs.Oks_iff.1 hO.2.2.2
  have hcl := sp_Clone tvs (by omega)
  refine CSpec.of Tryd.func54 rfl rfl (Nat.le_of_ble_eq_true rfl) ?_
  show AWp _ _ (endC _ Tryd.f54 _ _) (startC 51 _ _)
  repeat (first | refine AWp.seq ?_ | refine AWp.block ?_)
  apply AWp.reg [] []
  · conv => lhs; simp [Tm.row, Tm.rows_eq, Cs.row, Cs.rows_eq]
  · (repeat' apply And.intro) <;> first | omega | assumption | trivial | (intros; subst_vars; rfl) | (intro i r h; rcases i with _ | i <;> simp at h; subst h; rfl) | (simp [inI, maxLen]; done) | (simp [inI, maxLen]; omega)
  repeat (first | refine AWp.seq ?_ | refine AWp.block ?_)
  apply AWp.reg [2] [.p (fun d => .arr d 0 tvs.length) (some (.arr 9 1 (tvs.map strR)))]
  · conv => lhs; simp [Tm.row, Tm.rows_eq, Cs.row, Cs.rows_eq]
  · (repeat' apply And.intro) <;> first | omega | assumption | trivial | (intros; subst_vars; rfl) | (intro i r h; rcases i with _ | i <;> simp at h; subst h; rfl) | (simp [inI, maxLen]; done) | (simp [inI, maxLen]; omega)
  repeat (first | refine AWp.seq ?_ | refine AWp.block ?_)
  apply AWp.reg [] []
  · conv => lhs; simp [Tm.row, Tm.rows_eq, Cs.row, Cs.rows_eq]
  · (repeat' apply And.intro) <;> first | omega | assumption | trivial | (intros; subst_vars; rfl) | (intro i r h; rcases i with _ | i <;> simp at h; subst h; rfl) | (simp [inI, maxLen]; done) | (simp [inI, maxLen]; omega)
  repeat (first | refine AWp.seq ?_ | refine AWp.block ?_)
  apply AWp.reg [] []
  · conv => lhs; simp [Tm.row, Tm.rows_eq, Cs.row, Cs.rows_eq]
  · (repeat' apply And.intro) <;> first | omega | assumption | trivial | (intros; subst_vars; rfl) | (intro i r h; rcases i with _ | i <;> simp at h; subst h; rfl) | (simp [inI, maxLen]; done) | (simp [inI, maxLen]; omega)
  repeat (first | refine AWp.seq ?_ | refine AWp.block ?_)
  refine AWp.le (Le.low [400] [] (fr := [(1, .ptr 1 0), (2, .ptr 2 0), (3, .arr 400 0 ([] : List Tm).length), (14, .d (.sl (txs.map Tm.row))), (15, .d (.int (txs.length : Int))), (16, .d (.int (0 : Int)))]) (mem := [(1, some (.blk 32 [.d (.int tk), .d (.int tn), .d (.str ta), .d (.str tb), .d (strsD tvs), .d (.sl (txs.map Tm.row)), .d (.sl (tcs.map Cs.row))])), (2, some (.blk 32 [.d (.int 0), .d (.int 0), .d (.str ByteArray.empty), .d (.str ByteArray.empty), .lit (.slice none 0 0), .lit (.slice none 0 0), .lit (.slice none 0 0)])), (400, some (.arr 32 7 (([] : List Tm).map Tm.row)))]) rfl (by simp) (by simp)) ?_
  refine AWp.loop (σ := fun u : {u : Nat × List Tm // u.1 ≤ txs.length ∧ u.2 = txs.take u.1} => ⟨51, [(1, .ptr 1 0), (2, .ptr 2 0), (3, .arr 400 0 u.1.2.length), (14, .d (.sl (txs.map Tm.row))), (15, .d (.int (txs.length : Int))), (16, .d (.int (u.1.1 : Int)))], [(1, some (.blk 32 [.d (.int tk), .d (.int tn), .d (.str ta), .d (.str tb), .d (strsD tvs), .d (.sl (txs.map Tm.row)), .d (.sl (tcs.map Cs.row))])), (2, some (.blk 32 [.d (.int 0), .d (.int 0), .d (.str ByteArray.empty), .d (.str ByteArray.empty), .lit (.slice none 0 0), .lit (.slice none 0 0), .lit (.slice none 0 0)])), (400, some (.arr 32 7 (u.1.2.map Tm.row)))]⟩)
    (μ := fun u => txs.length - u.1.1) ⟨(0, []), ⟨Nat.zero_le _, by simp⟩⟩ (Le.sub (by simp) (by simp)) (fun ⟨(i, ys), ⟨hi4, hw⟩⟩ => ?_)
  dsimp only at hi4 hw ⊢
  repeat (first | refine AWp.seq ?_ | refine AWp.block ?_)
  apply AWp.reg [] []
  · conv => lhs; simp [Tm.row, Tm.rows_eq, Cs.row, Cs.rows_eq]
  · (repeat' apply And.intro) <;> first | omega | assumption | trivial | (intros; subst_vars; rfl) | (intro i r h; rcases i with _ | i <;> simp at h; subst h; rfl) | (simp [inI, maxLen]; done) | (simp [inI, maxLen]; omega)
  repeat (first | refine AWp.seq ?_ | refine AWp.block ?_)
  refine AWp.cond rfl (fun hc => ?_) (fun hc => ?_)
  · have hi1 : i < txs.length := by have := of_decide_eq_true hc; omega
    clear hc
    have h1y : txs[i]? = some txs[i] := List.getElem?_eq_getElem hi1
    have hmy : txs[i] ∈ txs := List.getElem_mem hi1
    have hdy : txs.drop i = txs[i] :: txs.drop (i + 1) := List.drop_eq_getElem_cons hi1
    generalize txs[i] = y at h1y hmy hdy
    have hyl : ys.length = i := by rw [hw, List.length_take]; omega
    have hx := sp_Own y (hxO y hmy)
    obtain ⟨yk, yn, ya, yb, yvs, yxs, ycs⟩ := y
    refine AWp.skip ?_
    repeat (first | refine AWp.seq ?_ | refine AWp.block ?_)
    apply AWp.reg [] []
    · conv => lhs; simp [Tm.row, Tm.rows_eq, Cs.row, Cs.rows_eq, h1y]
    · (repeat' apply And.intro) <;> first | omega | assumption | trivial | (intros; subst_vars; rfl) | (intro i r h; rcases i with _ | i <;> simp at h; subst h; rfl) | (simp [inI, maxLen]; done) | (simp [inI, maxLen]; omega)
    repeat (first | refine AWp.seq ?_ | refine AWp.block ?_)
    apply AWp.reg [] [.p (fun _ => .agg [.d (.int yk), .d (.int yn), .d (.str ya), .d (.str yb), .d (strsD yvs), .d (.sl (yxs.map Tm.row)), .d (.sl (ycs.map Cs.row))]) none]
    · conv => lhs; simp [Tm.row, Tm.rows_eq, Cs.row, Cs.rows_eq, h1y]
    · (repeat' apply And.intro) <;> first | omega | assumption | trivial | (intros; subst_vars; rfl) | (intro i r h; rcases i with _ | i <;> simp at h; subst h; rfl) | (simp [inI, maxLen]; done) | (simp [inI, maxLen]; omega)
    repeat (first | refine AWp.seq ?_ | refine AWp.block ?_)
    apply AWp.reg [] []
    · conv => lhs; simp [Tm.row, Tm.rows_eq, Cs.row, Cs.rows_eq, h1y]
    · (repeat' apply And.intro) <;> first | omega | assumption | trivial | (intros; subst_vars; rfl) | (intro i r h; rcases i with _ | i <;> simp at h; subst h; rfl) | (simp [inI, maxLen]; done) | (simp [inI, maxLen]; omega)
    refine ⟨⟨(i + 1, ys ++ [.mk yk yn ya yb yvs yxs ycs]), hi1, by rw [hw, List.take_add_one, h1y]; rfl⟩, by simp; omega, ?_⟩
    dsimp only
    exact Le.sub (by simp [Tm.row, Tm.rows_eq, Cs.rows_eq, hyl]) (by simp [Tm.row, Tm.rows_eq, Cs.rows_eq, hyl])
  have hi1 : i = txs.length := by have := of_decide_eq_false hc; omega
  subst hi1
  clear hc
  rw [List.take_length] at hw
  subst ys
  refine AWp.exit ?_
  repeat (first | refine AWp.seq ?_ | refine AWp.block ?_)
  apply AWp.reg [] []
  · conv => lhs; simp [Tm.row, Tm.rows_eq, Cs.row, Cs.rows_eq]
  · (repeat' apply And.intro) <;> first | omega | assumption | trivial | (intros; subst_vars; rfl) | (intro i r h; rcases i with _ | i <;> simp at h; subst h; rfl) | (simp [inI, maxLen]; done) | (simp [inI, maxLen]; omega)
  repeat (first | refine AWp.seq ?_ | refine AWp.block ?_)
  apply AWp.reg [] []
  · conv => lhs; simp [Tm.row, Tm.rows_eq, Cs.row, Cs.rows_eq]
  · (repeat' apply And.intro) <;> first | omega | assumption | trivial | (intros; subst_vars; rfl) | (intro i r h; rcases i with _ | i <;> simp at h; subst h; rfl) | (simp [inI, maxLen]; done) | (simp [inI, maxLen]; omega)
  repeat (first | refine AWp.seq ?_ | refine AWp.block ?_)
  refine AWp.le (Le.low [401] [] (fr := [(1, .ptr 1 0), (2, .ptr 2 0), (3, .arr 400 0 txs.length), (6, .arr 401 0 ([] : List Cs).length), (27, .d (.sl (tcs.map Cs.row))), (28, .d (.int (tcs.length : Int))), (29, .d (.int (0 : Int)))]) (mem := [(1, some (.blk 32 [.d (.int tk), .d (.int tn), .d (.str ta), .d (.str tb), .d (strsD tvs), .d (.sl (txs.map Tm.row)), .d (.sl (tcs.map Cs.row))])), (2, some (.blk 32 [.d (.int 0), .d (.int 0), .d (.str ByteArray.empty), .d (.str ByteArray.empty), .lit (.slice none 0 0), .lit (.slice none 0 0), .lit (.slice none 0 0)])), (400, some (.arr 32 7 (txs.map Tm.row))), (401, some (.arr 50 9 (([] : List Cs).map Cs.row)))]) rfl (by simp) (by simp)) ?_
  refine AWp.loop (σ := fun u : {u : Nat × List Cs // u.1 ≤ tcs.length ∧ u.2 = tcs.take u.1} => ⟨51, [(1, .ptr 1 0), (2, .ptr 2 0), (3, .arr 400 0 txs.length), (6, .arr 401 0 u.1.2.length), (27, .d (.sl (tcs.map Cs.row))), (28, .d (.int (tcs.length : Int))), (29, .d (.int (u.1.1 : Int)))], [(1, some (.blk 32 [.d (.int tk), .d (.int tn), .d (.str ta), .d (.str tb), .d (strsD tvs), .d (.sl (txs.map Tm.row)), .d (.sl (tcs.map Cs.row))])), (2, some (.blk 32 [.d (.int 0), .d (.int 0), .d (.str ByteArray.empty), .d (.str ByteArray.empty), .lit (.slice none 0 0), .lit (.slice none 0 0), .lit (.slice none 0 0)])), (400, some (.arr 32 7 (txs.map Tm.row))), (401, some (.arr 50 9 (u.1.2.map Cs.row)))]⟩)
    (μ := fun u => tcs.length - u.1.1) ⟨(0, []), ⟨Nat.zero_le _, by simp⟩⟩ (Le.sub (by simp) (by simp)) (fun ⟨(i, ds), ⟨hi10, hw2⟩⟩ => ?_)
  dsimp only at hi10 hw2 ⊢
  repeat (first | refine AWp.seq ?_ | refine AWp.block ?_)
  apply AWp.reg [] []
  · conv => lhs; simp [Tm.row, Tm.rows_eq, Cs.row, Cs.rows_eq]
  · (repeat' apply And.intro) <;> first | omega | assumption | trivial | (intros; subst_vars; rfl) | (intro i r h; rcases i with _ | i <;> simp at h; subst h; rfl) | (simp [inI, maxLen]; done) | (simp [inI, maxLen]; omega)
  repeat (first | refine AWp.seq ?_ | refine AWp.block ?_)
  refine AWp.cond rfl (fun hc => ?_) (fun hc => ?_)
  · have hi1 : i < tcs.length := by have := of_decide_eq_true hc; omega
    clear hc
    have h1d : tcs[i]? = some tcs[i] := List.getElem?_eq_getElem hi1
    have hmd : tcs[i] ∈ tcs := List.getElem_mem hi1
    have hdd : tcs.drop i = tcs[i] :: tcs.drop (i + 1) := List.drop_eq_getElem_cons hi1
    generalize tcs[i] = d at h1d hmd hdd
    obtain ⟨dt, dws, ⟨dk, dn, da, db, dvs, dxs, dcs⟩⟩ := d
    have hyl : ds.length = i := by rw [hw2, List.length_take]; omega
    obtain ⟨hc1, hc2, hc3⟩ := hcO _ hmd
    have hx := sp_Own (.mk dk dn da db dvs dxs dcs) hc3
    have hcw := sp_Clone dws (by omega)
    refine AWp.skip ?_
    repeat (first | refine AWp.seq ?_ | refine AWp.block ?_)
    apply AWp.reg [] []
    · conv => lhs; simp [Tm.row, Tm.rows_eq, Cs.row, Cs.rows_eq, h1d]
    · (repeat' apply And.intro) <;> first | omega | assumption | trivial | (intros; subst_vars; rfl) | (intro i r h; rcases i with _ | i <;> simp at h; subst h; rfl) | (simp [inI, maxLen]; done) | (simp [inI, maxLen]; omega)
    repeat (first | refine AWp.seq ?_ | refine AWp.block ?_)
    apply AWp.draw [5] [.p (fun d => .arr d 0 dws.length) (some (.arr 9 1 (dws.map strR))), .p (fun _ => .agg [.d (.int dk), .d (.int dn), .d (.str da), .d (.str db), .d (strsD dvs), .d (.sl (dxs.map Tm.row)), .d (.sl (dcs.map Cs.row))]) none] mixed
    · conv => lhs; simp [Tm.row, Tm.rows_eq, Cs.row, Cs.rows_eq, h1d]
    · kernel_rfl
    · (repeat' apply And.intro) <;> first | omega | assumption | trivial | (intros; subst_vars; rfl) | (intro i r h; rcases i with _ | i <;> simp at h; subst h; rfl) | (simp [inI, maxLen]; done) | (simp [inI, maxLen]; omega)
    repeat (first | refine AWp.seq ?_ | refine AWp.block ?_)
    apply AWp.reg [] []
    · conv => lhs; simp [Tm.row, Tm.rows_eq, Cs.row, Cs.rows_eq, h1d]
    · (repeat' apply And.intro) <;> first | omega | assumption | trivial | (intros; subst_vars; rfl) | (intro i r h; rcases i with _ | i <;> simp at h; subst h; rfl) | (simp [inI, maxLen]; done) | (simp [inI, maxLen]; omega)
    refine ⟨⟨(i + 1, ds ++ [.mk dt dws (.mk dk dn da db dvs dxs dcs)]), hi1, by rw [hw2, List.take_add_one, h1d]; rfl⟩, by simp; omega, ?_⟩
    dsimp only
    exact Le.sub (by simp [Cs.row, Tm.row, Tm.rows_eq, Cs.rows_eq, hyl]) (by simp [Cs.row, Tm.row, Tm.rows_eq, Cs.rows_eq, hyl])
  have hi1 : i = tcs.length := by have := of_decide_eq_false hc; omega
  subst hi1
  clear hc
  rw [List.take_length] at hw2
  subst ds
  refine AWp.exit ?_
  repeat (first | refine AWp.seq ?_ | refine AWp.block ?_)
  apply AWp.reg [] []
  · conv => lhs; simp [Tm.row, Tm.rows_eq, Cs.row, Cs.rows_eq]
  · (repeat' apply And.intro) <;> first | omega | assumption | trivial | (intros; subst_vars; rfl) | (intro i r h; rcases i with _ | i <;> simp at h; subst h; rfl) | (simp [inI, maxLen]; done) | (simp [inI, maxLen]; omega)
  repeat (first | refine AWp.seq ?_ | refine AWp.block ?_)
  apply AWp.reg [] []
  · conv => lhs; simp [Tm.row, Tm.rows_eq, Cs.row, Cs.rows_eq]
  · (repeat' apply And.intro) <;> first | omega | assumption | trivial | (intros; subst_vars; rfl) | (intro i r h; rcases i with _ | i <;> simp at h; subst h; rfl) | (simp [inI, maxLen]; done) | (simp [inI, maxLen]; omega)
  refine AWp.ret ?_
  try dsimp only [thenQ, blockQ]
  apply endC.le (Le.give _ 400 500 rfl rfl rfl)
  apply endC.le (Le.give _ 401 501 rfl rfl rfl)
  try dsimp only [thenQ, blockQ]
  apply endC.ret
  · rfl
  · conv => lhs; simp [resAV, Tryd.results54, AS.swap, swN]
  · rfl
  · simp [moEnd, memGet, AS.swap, swN]


def frR (p : ByteArray × ByteArray) : List D := [.str p.1]
def toR (p : ByteArray × ByteArray) : List D := [.str p.2]
abbrev chO (n : Nat) (c : Int) : AObj := .blk 76 [.arr 500 0 n, .arr 501 0 n, .d (.int c)]
abbrev frO (ps : Ps) : AObj := .arr 9 1 (ps.map frR)
abbrev toO (ps : Ps) : AObj := .arr 9 1 (ps.map toR)
set_option maxRecDepth 20000 in
set_option maxHeartbeats 16000000 in
theorem cs_chFresh (ps : Ps) (c : Int) : CSpec Tryd.prog 90 [.ptr 1000 0] [(1000, chO ps.length c), (500, frO ps), (501, toO ps)] (.d (.str (vNm (wr (c + 1))))) [(1000, chO ps.length (wr (c + 1))), (500, frO ps), (501, toO ps)] := by
  obtain ⟨e, he⟩ : ∃ e : Int, wr (c + 1) = e := ⟨_, rfl⟩
  rw [he]
  have heI : inI e := by rw [← he]; exact wr_in _
  have hit := sp_Itoa e heI
  have hsz := itoaB_size heI
  have h1s : (⟨#[118]⟩ : ByteArray).size = 1 := rfl
  rw [vNm]
  refine CSpec.of Tryd.func90 rfl rfl (Nat.le_of_ble_eq_true rfl) ?_
  show AWp _ _ (endC _ Tryd.f90 _ _) (startC 16 _ _)
  repeat (first | refine AWp.seq ?_ | refine AWp.block ?_)
  apply AWp.reg [] []
  · conv => lhs; simp [lit118]
  · (repeat' apply And.intro) <;> first | omega | assumption | trivial | (intros; subst_vars; rfl) | (intro i r h; rcases i with _ | i <;> simp at h; subst h; rfl) | (simp [inI, maxLen]; done) | (simp [inI, maxLen]; omega)
  repeat (first | refine AWp.seq ?_ | refine AWp.block ?_)
  apply AWp.reg [4] []
  · conv => lhs; simp [lit118, he]
  · (repeat' apply And.intro) <;> first | omega | assumption | trivial | (intros; subst_vars; rfl) | (intro i r h; rcases i with _ | i <;> simp at h; subst h; rfl) | (simp [inI, maxLen]; done) | (simp [inI, maxLen]; omega)
  repeat (first | refine AWp.seq ?_ | refine AWp.block ?_)
  apply AWp.reg [] [.p (fun _ => .d (.str (itoaB e))) none]
  · conv => lhs; simp [lit118, he]
  · (repeat' apply And.intro) <;> first | omega | assumption | trivial | (intros; subst_vars; rfl) | (intro i r h; rcases i with _ | i <;> simp at h; subst h; rfl) | (simp [inI, maxLen]; done) | (simp [inI, maxLen]; omega)
  refine AWp.ret ?_
  try dsimp only [thenQ, blockQ]
  apply endC.ret
  · rfl
  · conv => lhs; simp [resAV, Tryd.results90]
  · rfl
  · simp [moEnd, memGet, vNm]

set_option maxRecDepth 20000 in
set_option maxHeartbeats 16000000 in
theorem cs_now (ps : Ps) (s : ByteArray) (c : Int) (hp : ps.length ≤ 1000) : CSpec Tryd.prog 91 [.ptr 1000 0, .d (.str s)] [(1000, chO ps.length c), (500, frO ps), (501, toO ps)] (.d (.str (nowP ps s))) [(1000, chO ps.length c), (500, frO ps), (501, toO ps)] := by
  obtain ⟨R, hR⟩ : ∃ R, R = nowP ps s := ⟨_, rfl⟩
  rw [← hR]
  refine CSpec.of Tryd.func91 rfl rfl (Nat.le_of_ble_eq_true rfl) ?_
  show AWp _ _ (endC _ Tryd.f91 _ _) (startC 33 _ _)
  repeat (first | refine AWp.seq ?_ | refine AWp.block ?_)
  apply AWp.reg [] []
  · conv => lhs; simp [frR, toR]
  · (repeat' apply And.intro) <;> first | omega | assumption | trivial | (intros; subst_vars; rfl) | (intro i r h; rcases i with _ | i <;> simp at h; subst h; rfl) | (simp [inI, maxLen]; done) | (simp [inI, maxLen]; omega)
  repeat (first | refine AWp.seq ?_ | refine AWp.block ?_)
  apply AWp.reg [] []
  · conv => lhs; simp [frR, toR]
  · (repeat' apply And.intro) <;> first | omega | assumption | trivial | (intros; subst_vars; rfl) | (intro i r h; rcases i with _ | i <;> simp at h; subst h; rfl) | (simp [inI, maxLen]; done) | (simp [inI, maxLen]; omega)
  repeat (first | refine AWp.seq ?_ | refine AWp.block ?_)
  refine AWp.loop (σ := fun u : {u : Nat // (nowP ps s = nowP (ps.take u) s ∧ u ≤ ps.length)} => ⟨33, [(0, .ptr 1000 0), (1, .d (.str s)), (5, .d (.int ((u.1 : Int) - 1)))], [(500, some (.arr 9 1 (ps.map frR))), (501, some (.arr 9 1 (ps.map toR))), (1000, some (.blk 76 [.arr 500 0 ps.length, .arr 501 0 ps.length, .d (.int c)]))]⟩)
    (μ := fun u => u.1) ⟨ps.length, ⟨by rw [List.take_length], Nat.le_refl _⟩⟩ (Le.sub (by simp) (by simp)) (fun ⟨j, hw⟩ => ?_)
  dsimp only
  obtain ⟨hw, hj⟩ := hw
  rcases j with _ | k
  · rw [show ((0 : Nat) : Int) - 1 = -1 from rfl]
    repeat (first | refine AWp.seq ?_ | refine AWp.block ?_)
    apply AWp.reg [] []
    · conv => lhs; simp [frR, toR]
    · (repeat' apply And.intro) <;> first | omega | assumption | trivial | (intros; subst_vars; rfl) | (intro i r h; rcases i with _ | i <;> simp at h; subst h; rfl) | (simp [inI, maxLen]; done) | (simp [inI, maxLen]; omega)
    repeat (first | refine AWp.seq ?_ | refine AWp.block ?_)
    refine AWp.cond rfl (fun hc => ?_) (fun hc => ?_)
    · cases hc
    refine AWp.exit ?_
    rw [List.take_zero] at hw
    obtain rfl : R = s := by rw [hR, hw]; rfl
    repeat (first | refine AWp.seq ?_ | refine AWp.block ?_)
    apply AWp.reg [] []
    · conv => lhs; simp [frR, toR]
    · (repeat' apply And.intro) <;> first | omega | assumption | trivial | (intros; subst_vars; rfl) | (intro i r h; rcases i with _ | i <;> simp at h; subst h; rfl) | (simp [inI, maxLen]; done) | (simp [inI, maxLen]; omega)
    refine AWp.ret ?_
    try dsimp only [thenQ, blockQ]
    apply endC.ret
    · rfl
    · conv => lhs; simp [resAV, Tryd.results91]
    · rfl
    · simp [moEnd, memGet]
  rw [show ((k + 1 : Nat) : Int) - 1 = (k : Int) by omega]
  have hk0 := eq_true (Int.natCast_nonneg k)
  have hk1 : k < ps.length := by omega
  have h1p : ps[k]? = some ps[k] := List.getElem?_eq_getElem hk1
  generalize ps[k] = p at h1p
  have hsn := nowP_snoc h1p s
  obtain ⟨pf, pg⟩ := p
  dsimp only at hsn
  repeat (first | refine AWp.seq ?_ | refine AWp.block ?_)
  apply AWp.reg [] []
  · conv => lhs; simp [frR, toR, h1p, hk0]
  · (repeat' apply And.intro) <;> first | omega | assumption | trivial | (intros; subst_vars; rfl) | (intro i r h; rcases i with _ | i <;> simp at h; subst h; rfl) | (simp [inI, maxLen]; done) | (simp [inI, maxLen]; omega)
  repeat (first | refine AWp.seq ?_ | refine AWp.block ?_)
  refine AWp.cond rfl (fun hc => ?_) (fun hc => ?_)
  rotate_left
  · cases hc
  refine AWp.skip ?_
  by_cases q1 : pf = s
  · repeat (first | refine AWp.seq ?_ | refine AWp.block ?_)
    apply AWp.reg [] []
    · conv => lhs; simp [frR, toR, h1p, hk0, q1]
    · (repeat' apply And.intro) <;> first | omega | assumption | trivial | (intros; subst_vars; rfl) | (intro i r h; rcases i with _ | i <;> simp at h; subst h; rfl) | (simp [inI, maxLen]; done) | (simp [inI, maxLen]; omega)
    repeat (first | refine AWp.seq ?_ | refine AWp.block ?_)
    refine AWp.cond rfl (fun hc => ?_) (fun hc => ?_)
    rotate_left
    · cases hc
    rw [if_pos q1] at hsn
    obtain rfl : R = pg := by rw [hR, hw, hsn]
    repeat (first | refine AWp.seq ?_ | refine AWp.block ?_)
    apply AWp.reg [] []
    · conv => lhs; simp [frR, toR, h1p, hk0, q1]
    · (repeat' apply And.intro) <;> first | omega | assumption | trivial | (intros; subst_vars; rfl) | (intro i r h; rcases i with _ | i <;> simp at h; subst h; rfl) | (simp [inI, maxLen]; done) | (simp [inI, maxLen]; omega)
    refine AWp.ret ?_
    try dsimp only [thenQ, blockQ]
    apply endC.ret
    · rfl
    · conv => lhs; simp [resAV, Tryd.results91]
    · rfl
    · simp [moEnd, memGet]
  repeat (first | refine AWp.seq ?_ | refine AWp.block ?_)
  apply AWp.reg [] []
  · conv => lhs; simp [frR, toR, h1p, hk0, q1]
  · (repeat' apply And.intro) <;> first | omega | assumption | trivial | (intros; subst_vars; rfl) | (intro i r h; rcases i with _ | i <;> simp at h; subst h; rfl) | (simp [inI, maxLen]; done) | (simp [inI, maxLen]; omega)
  repeat (first | refine AWp.seq ?_ | refine AWp.block ?_)
  refine AWp.cond rfl (fun hc => ?_) (fun hc => ?_)
  · cases hc
  refine AWp.skip ?_
  repeat (first | refine AWp.seq ?_ | refine AWp.block ?_)
  apply AWp.reg [] []
  · conv => lhs; simp [frR, toR, h1p, hk0, q1]
  · (repeat' apply And.intro) <;> first | omega | assumption | trivial | (intros; subst_vars; rfl) | (intro i r h; rcases i with _ | i <;> simp at h; subst h; rfl) | (simp [inI, maxLen]; done) | (simp [inI, maxLen]; omega)
  refine ⟨⟨k, ⟨by rw [hw, hsn, if_neg q1], by omega⟩⟩, by simp only []; omega, ?_⟩
  dsimp only
  exact Le.sub (by simp) (by simp)


/-- A function with other names. -/
def Fn.rn (f : Fn) : Fn := ⟨f.name, freshL f.params 0, (f.body.rn (f.params.zip (freshL f.params 0)) (freshC f.params 0)).1⟩
abbrev fnAV : Fn → AV
  | ⟨g, ps, .mk k n a b vs xs cs⟩ => .agg [.d (.str g), .d (strsD ps), .d (.int k), .d (.int n), .d (.str a), .d (.str b), .d (strsD vs), .d (.sl (xs.map Tm.row)), .d (.sl (cs.map Cs.row))]
set_option maxRecDepth 20000 in
set_option maxHeartbeats 16000000 in
theorem sp_Named (f : Fn) (hb : f.body.Ok) (hr : f.body.Rt 25) (hp : f.params.length ≤ 6) : PSpec Tryd.prog 25 [fnAV f] (fun _ => fnAV f.rn) none := by
  have hfr := cs_fresh f.params 0 hp
  have hl := freshL_len f.params 0
  have hx := rn_all 25 f.body (f.params.zip (freshL f.params 0)) (freshC f.params 0) hr hb (by rw [List.length_zip]; omega)
  unfold Fn.rn
  obtain ⟨fg, fps, fy⟩ := f
  dsimp only at *
  generalize freshC fps 0 = e at hfr hx ⊢
  generalize freshL fps 0 = us at hfr hx hl ⊢
  generalize fps.zip us = px at hfr hx ⊢
  generalize fy.rn px e = o at hx ⊢
  obtain ⟨z, c2⟩ := o
  dsimp only at *
  obtain ⟨fk, fn, fa, fb, fvs, fxs, fcs⟩ := fy
  obtain ⟨zk, zn, za, zb, zvs, zxs, zcs⟩ := z
  refine PSpec.of Tryd.func25 rfl rfl rfl (Nat.le_of_ble_eq_true rfl) ?_
  show AWp _ _ (endQ _ Tryd.f25 _ _ _) (startAS 24 _)
  repeat (first | refine AWp.seq ?_ | refine AWp.block ?_)
  apply AWp.reg [] []
  · conv => lhs; simp [fnAV, Fn.row, Tm.row, Tm.rows_eq, Cs.rows_eq, psR]
  · (repeat' apply And.intro) <;> first | omega | assumption | trivial | (intros; subst_vars; rfl) | (intro i r h; rcases i with _ | i <;> simp at h; subst h; rfl) | (simp [inI, maxLen]; done) | (simp [inI, maxLen]; omega)
  repeat (first | refine AWp.seq ?_ | refine AWp.block ?_)
  apply AWp.reg [] []
  · conv => lhs; simp [fnAV, Fn.row, Tm.row, Tm.rows_eq, Cs.rows_eq, psR]
  · (repeat' apply And.intro) <;> first | omega | assumption | trivial | (intros; subst_vars; rfl) | (intro i r h; rcases i with _ | i <;> simp at h; subst h; rfl) | (simp [inI, maxLen]; done) | (simp [inI, maxLen]; omega)
  repeat (first | refine AWp.seq ?_ | refine AWp.block ?_)
  apply AWp.reg [] [.c [(1000, 7)] [.ptr 1000 0, .d (strsD fps)] [(1000, .blk 69 [.d (.int 0)])] (.tuple [.d (strsD us), .d (.sl (px.map psR))]) [(1000, .blk 69 [.d (.int e)])]]
  · conv => lhs; simp [fnAV, Fn.row, Tm.row, Tm.rows_eq, Cs.rows_eq, psR]
  · (repeat' apply And.intro) <;> first | omega | assumption | trivial | (intros; subst_vars; rfl) | (intro i r h; rcases i with _ | i <;> simp at h; subst h; rfl) | (simp [inI, maxLen]; done) | (simp [inI, maxLen]; omega)
  repeat (first | refine AWp.seq ?_ | refine AWp.block ?_)
  apply AWp.draw [] [.c [(1000, 7)] [.ptr 1000 0, .agg [.d (.int fk), .d (.int fn), .d (.str fa), .d (.str fb), .d (strsD fvs), .d (.sl (fxs.map Tm.row)), .d (.sl (fcs.map Cs.row))], .d (.sl (px.map psR))] [(1000, .blk 69 [.d (.int e)])] (.agg [.d (.int zk), .d (.int zn), .d (.str za), .d (.str zb), .d (strsD zvs), .d (.sl (zxs.map Tm.row)), .d (.sl (zcs.map Cs.row))]) [(1000, .blk 69 [.d (.int c2)])]] mixed
  · conv => lhs; simp [fnAV, Fn.row, Tm.row, Tm.rows_eq, Cs.rows_eq, psR]
  · kernel_rfl
  · (repeat' apply And.intro) <;> first | omega | assumption | trivial | (intros; subst_vars; rfl) | (intro i r h; rcases i with _ | i <;> simp at h; subst h; rfl) | (simp [inI, maxLen]; done) | (simp [inI, maxLen]; omega)
  refine AWp.ret ?_
  try dsimp only [thenQ, blockQ]
  apply endQ.ret
  · rfl
  · conv => lhs; simp [resAV, Tryd.results25]
  rfl

end Go.Proofs.YtialccgjbanmcaaDoor
