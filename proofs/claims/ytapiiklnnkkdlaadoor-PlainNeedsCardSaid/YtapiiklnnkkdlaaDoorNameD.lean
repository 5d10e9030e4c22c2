import Derived.Test.YtapiiklnnkkdlaaDoorTermB
import Derived.Test.YtapiiklnnkkdlaaDoorCheckP
import Derived.Test.YtapiiklnnkkdlaaDoorCut
/- Other names, plainly. -/
namespace Go.Proofs.YtapiiklnnkkdlaaDoor
open Go.RowKit
set_option linter.unusedVariables false
set_option linter.unusedSimpArgs false
def Tm.Rt : Nat → Tm → Prop
  | 0, _ => False
  | d + 1, .mk k n a b vs xs cs => (1 ≤ k ∧ k ≤ 7) ∧ manyB k xs.length cs.length = false ∧ xs.length + cs.length ≤ 6 ∧ (∀ x ∈ xs, Tm.Rt d x) ∧ (∀ c ∈ cs, c.2.length ≤ 6 ∧ Tm.Rt d c.3)
theorem wrong_rt (A : Arity) : ∀ (d : Nat) (t : Tm) (names : List ByteArray) (deep : Int), deep = 25 - (d : Int) → t.wrong A names deep = 0 → t.Rt d := by
  intro d
  induction d with
  | zero =>
    intro t names deep hd hw
    obtain ⟨k, n, a, b, vs, xs, cs⟩ := t
    obtain ⟨h1, _⟩ := wrong_zero hw
    omega
  | succ d ih =>
  intro t names deep hd hw
  obtain ⟨k, n, a, b, vs, xs, cs⟩ := t
  obtain ⟨h1, h2, h3, h4, h5, h6, h7⟩ := wrong_zero hw
  have hn6 := many_six h4 fun h => (h7 h).2.1
  refine ⟨⟨h2, h3⟩, h4, hn6, fun x hx => ?_, fun c hc => ?_⟩
  · obtain ⟨j, hj⟩ := List.mem_iff_getElem?.1 hx
    exact ih x _ (deep + 1) (by omega) (wrongs_zero h6 j x hj)
  · obtain ⟨t, ws, y⟩ := c
    by_cases h8 : k = 7
    · have h9 := cwrongs_zero (h7 h8).2.2 hc
      exact ⟨h9.2.2.2.2.1, ih y _ (deep + 1) (by omega) h9.2.2.2.2.2⟩
    · exfalso
      have h4' := h4
      unfold manyB at h4'
      simp only [Bool.or_eq_false_iff, Bool.and_eq_false_iff, decide_eq_false_iff_not] at h4'
      have := List.length_pos_of_mem hc
      omega
abbrev Ps := List (ByteArray × ByteArray)
def vNm (c : Int) : ByteArray := ⟨#[118]⟩ ++ itoaB c
theorem lit118 : ((⟨#[118]⟩ : ByteArray).size ≤ maxLen) = True := eq_true (by show 1 ≤ 9223372036854775807; omega)
def freshL : List ByteArray → Int → List ByteArray
  | [], _ => []
  | _ :: r, c => vNm (wr (c + 1)) :: freshL r (wr (c + 1))
def freshC : List ByteArray → Int → Int
  | [], c => c
  | _ :: r, c => freshC r (wr (c + 1))
theorem freshL_len : ∀ (l : List ByteArray) (c : Int), (freshL l c).length = l.length
  | [], _ => rfl
  | _ :: r, c => by simp [freshL, freshL_len r]
def nowP (ps : Ps) (s : ByteArray) : ByteArray := ps.foldl (fun o p => if p.1 = s then p.2 else o) s
mutual
def Tm.rn : Tm → Ps → Int → Tm × Int
  | .mk k n a b vs xs cs, ps, c => if k = 1 then (.mk k n (nowP ps a) b vs [] [], c)
    else (.mk k n (Tm.rns k a ps 0 xs a c).2.1 b vs (Tm.rns k a ps 0 xs a c).1 (Cs.rnL cs ps (Tm.rns k a ps 0 xs a c).2.2).1, (Cs.rnL cs ps (Tm.rns k a ps 0 xs a c).2.2).2)
def Tm.rns (k : Int) (a : ByteArray) (ps : Ps) : Nat → List Tm → ByteArray → Int → List Tm × ByteArray × Int
  | _, [], nm, c => ([], nm, c)
  | i, x :: r, nm, c => if k = 6 ∧ i = 1 then
      ((x.rn (ps ++ [(a, vNm (wr (c + 1)))]) (wr (c + 1))).1 :: (Tm.rns k a ps (i + 1) r (vNm (wr (c + 1))) (x.rn (ps ++ [(a, vNm (wr (c + 1)))]) (wr (c + 1))).2).1, (Tm.rns k a ps (i + 1) r (vNm (wr (c + 1))) (x.rn (ps ++ [(a, vNm (wr (c + 1)))]) (wr (c + 1))).2).2)
    else ((x.rn ps c).1 :: (Tm.rns k a ps (i + 1) r nm (x.rn ps c).2).1, (Tm.rns k a ps (i + 1) r nm (x.rn ps c).2).2)
def Cs.rnL : List Cs → Ps → Int → List Cs × Int
  | [], _, c => ([], c)
  | d :: r, ps, c => ((d.rn ps c).1 :: (Cs.rnL r ps (d.rn ps c).2).1, (Cs.rnL r ps (d.rn ps c).2).2)
def Cs.rn : Cs → Ps → Int → Cs × Int
  | .mk t ws y, ps, c => (.mk t (freshL ws c) (y.rn (ps ++ ws.zip (freshL ws c)) (freshC ws c)).1, (y.rn (ps ++ ws.zip (freshL ws c)) (freshC ws c)).2)
end
end Go.Proofs.YtapiiklnnkkdlaaDoor

namespace Go.Proofs.YtapiiklnnkkdlaaDoor
open Go.RowKit
attribute [local simp] runD mkRc ldOf stOf stOk ldArg noAny dstOk guardOk opEff opEff0 effOp pureOp callOp zEff evA constAV scalAV Value.oneCell' frGet memGet startAS frOf isGoCall idIn AS.after nextR opnIds objIds AV.ids idsL AObj.ids frNo memNo opnAny isAny mkVal rdCells wrCells fldAddr idxAddr srcRows litRows toD1 toDs setAt sliceAV optI partAV bldAV fillAV binAV binI AV.cells callEff calleeOf frKill memKill AV.kill AObj.kill AV.has AV.hasL Op.operands Call.operands keepF keepM viewIds cChk renOf moGet moWs moQ cEff moLike moHave AV.ren renL AObj.ren AObj.like kept startC moMem AV.frz frz1 frzL frSub memSub frzs AS.frz frFrz memFrz AObj.frz takeMap takeLen bleF Nat.ble_eq memAny objAny mapOp D.keyOk rowAV valRow extOp wrapOp phO frLow memLow memLow1 objLow memEmpty Low LowL
set_option linter.unusedVariables false
set_option linter.unusedSimpArgs false
theorem vsz (e : Int) (h : inI e) : (vNm e).size ≤ 22 := by
  have := itoaB_size h
  show (⟨#[118]⟩ ++ itoaB e : ByteArray).size ≤ 22
  rw [ByteArray.size_append]
  have h1 : (⟨#[118]⟩ : ByteArray).size = 1 := rfl
  omega
theorem nowP_snoc {ps : Ps} {i : Nat} {p : ByteArray × ByteArray} (h : ps[i]? = some p) (s : ByteArray) : nowP (ps.take (i + 1)) s = if p.1 = s then p.2 else nowP (ps.take i) s := by
  unfold nowP
  rw [List.take_add_one, h, List.foldl_append]
  rfl

set_option maxRecDepth 20000 in
set_option maxHeartbeats 16000000 in
theorem cs_Own (t : Tm) (hO : t.Ok) : CSpec Tryd.prog 76 [tmAV t] [(500, .arr 0 1 []), (501, .arr 0 1 [])] (match t with | .mk k n a b vs xs cs => .agg [.d (.int k), .d (.int n), .d (.str a), .d (.str b), .d (strsD vs), .arr 500 0 xs.length, .arr 501 0 cs.length])
    (match t with | .mk k n a b vs xs cs => [(500, .arr 34 7 (xs.map Tm.row)), (501, .arr 40 9 (cs.map Cs.row))]) := by
  obtain ⟨tk, tn, ta, tb, tvs, txs, tcs⟩ := t
  dsimp only
  obtain ⟨o1, o2, o3, o4, o5⟩ := hO.vars
  have hxO : ∀ x ∈ txs, x.Ok := Tm.Oks_iff.1 hO.2.2.1
  have hcO := Cs.Oks_iff.1 hO.2.2.2
  have hcl := sp_Clone tvs (by omega)
  refine CSpec.of Tryd.func76 rfl rfl (Nat.le_of_ble_eq_true rfl) ?_
  show AWp _ _ (endC _ Tryd.f76 _ _) (startC 51 _ _)
  refine AWp.rg [] [] ?_ (hr := by conv => lhs; simp [Tm.row, Tm.rows_eq, Cs.row, Cs.rows_eq])
  refine AWp.rg [2] [.p (fun d => .arr d 0 tvs.length) (some (.arr 9 1 (tvs.map strR)))] ?_ (hr := by conv => lhs; simp [Tm.row, Tm.rows_eq, Cs.row, Cs.rows_eq])
  refine AWp.rg [] [] ?_ (hr := by conv => lhs; simp [Tm.row, Tm.rows_eq, Cs.row, Cs.rows_eq])
  refine AWp.rg [] [] ?_ (hr := by conv => lhs; simp [Tm.row, Tm.rows_eq, Cs.row, Cs.rows_eq])
  repeat (first | refine AWp.seq ?_ | refine AWp.block ?_)
  refine AWp.le (Le.low [400] [] (fr := [(1, .ptr 1 0), (2, .ptr 2 0), (3, .arr 400 0 ([] : List Tm).length), (14, .d (.sl (txs.map Tm.row))), (15, .d (.int (txs.length : Int))), (16, .d (.int (0 : Int)))]) (mem := [(1, some (.blk 34 [.d (.int tk), .d (.int tn), .d (.str ta), .d (.str tb), .d (strsD tvs), .d (.sl (txs.map Tm.row)), .d (.sl (tcs.map Cs.row))])), (2, some (.blk 34 [.d (.int 0), .d (.int 0), .d (.str ByteArray.empty), .d (.str ByteArray.empty), .lit (.slice none 0 0), .lit (.slice none 0 0), .lit (.slice none 0 0)])), (400, some (.arr 34 7 (([] : List Tm).map Tm.row)))]) rfl (by simp) (by simp)) ?_
  refine AWp.loop (σ := fun u : {u : Nat × List Tm // u.1 ≤ txs.length ∧ u.2 = txs.take u.1} => ⟨51, [(1, .ptr 1 0), (2, .ptr 2 0), (3, .arr 400 0 u.1.2.length), (14, .d (.sl (txs.map Tm.row))), (15, .d (.int (txs.length : Int))), (16, .d (.int (u.1.1 : Int)))], [(1, some (.blk 34 [.d (.int tk), .d (.int tn), .d (.str ta), .d (.str tb), .d (strsD tvs), .d (.sl (txs.map Tm.row)), .d (.sl (tcs.map Cs.row))])), (2, some (.blk 34 [.d (.int 0), .d (.int 0), .d (.str ByteArray.empty), .d (.str ByteArray.empty), .lit (.slice none 0 0), .lit (.slice none 0 0), .lit (.slice none 0 0)])), (400, some (.arr 34 7 (u.1.2.map Tm.row)))]⟩)
    (μ := fun u => txs.length - u.1.1) ⟨(0, []), ⟨Nat.zero_le _, by simp⟩⟩ (Le.sub (by simp) (by simp)) (fun ⟨(i, ys), ⟨hi4, hw⟩⟩ => ?_)
  dsimp only at hi4 hw ⊢
  refine AWp.rg [] [] ?_ (hr := by conv => lhs; simp [Tm.row, Tm.rows_eq, Cs.row, Cs.rows_eq])
  repeat (first | refine AWp.seq ?_ | refine AWp.block ?_)
  refine AWp.cond rfl (fun hc => ?_) (fun hc => ?_)
  · have hi1 : i < txs.length := by have := of_decide_eq_true hc; omega
    clear hc
    have h1y : txs[i]? = some txs[i] := List.getElem?_eq_getElem hi1
    have hmy : txs[i] ∈ txs := List.getElem_mem hi1
    have hdy : txs.drop i = txs[i] :: txs.drop (i + 1) := List.drop_eq_getElem_cons hi1
    generalize txs[i] = y at h1y hmy hdy
    have hyl : ys.length = i := by rw [hw, List.length_take]; omega
    have hx := sp_Own y (hxO y hmy)
    obtain ⟨yk, yn, ya, yb, yvs, yxs, ycs⟩ := y
    refine AWp.skip ?_
    refine AWp.rg [] [] ?_ (hr := by conv => lhs; simp [Tm.row, Tm.rows_eq, Cs.row, Cs.rows_eq, h1y])
    refine AWp.rg [] [.p (fun _ => .agg [.d (.int yk), .d (.int yn), .d (.str ya), .d (.str yb), .d (strsD yvs), .d (.sl (yxs.map Tm.row)), .d (.sl (ycs.map Cs.row))]) none] ?_ (hr := by conv => lhs; simp [Tm.row, Tm.rows_eq, Cs.row, Cs.rows_eq, h1y])
    refine AWp.rg [] [] ?_ (hr := by conv => lhs; simp [Tm.row, Tm.rows_eq, Cs.row, Cs.rows_eq, h1y])
    refine ⟨⟨(i + 1, ys ++ [.mk yk yn ya yb yvs yxs ycs]), hi1, by rw [hw, List.take_add_one, h1y]; rfl⟩, by simp; omega, ?_⟩
    dsimp only
    exact Le.sub (by simp [Tm.row, Tm.rows_eq, Cs.rows_eq, hyl]) (by simp [Tm.row, Tm.rows_eq, Cs.rows_eq, hyl])
  have hi1 : i = txs.length := by have := of_decide_eq_false hc; omega
  subst hi1
  clear hc
  rw [List.take_length] at hw
  subst ys
  refine AWp.exit ?_
  refine AWp.rg [] [] ?_ (hr := by conv => lhs; simp [Tm.row, Tm.rows_eq, Cs.row, Cs.rows_eq])
  refine AWp.rg [] [] ?_ (hr := by conv => lhs; simp [Tm.row, Tm.rows_eq, Cs.row, Cs.rows_eq])
  repeat (first | refine AWp.seq ?_ | refine AWp.block ?_)
  refine AWp.le (Le.low [401] [] (fr := [(1, .ptr 1 0), (2, .ptr 2 0), (3, .arr 400 0 txs.length), (6, .arr 401 0 ([] : List Cs).length), (27, .d (.sl (tcs.map Cs.row))), (28, .d (.int (tcs.length : Int))), (29, .d (.int (0 : Int)))]) (mem := [(1, some (.blk 34 [.d (.int tk), .d (.int tn), .d (.str ta), .d (.str tb), .d (strsD tvs), .d (.sl (txs.map Tm.row)), .d (.sl (tcs.map Cs.row))])), (2, some (.blk 34 [.d (.int 0), .d (.int 0), .d (.str ByteArray.empty), .d (.str ByteArray.empty), .lit (.slice none 0 0), .lit (.slice none 0 0), .lit (.slice none 0 0)])), (400, some (.arr 34 7 (txs.map Tm.row))), (401, some (.arr 40 9 (([] : List Cs).map Cs.row)))]) rfl (by simp) (by simp)) ?_
  refine AWp.loop (σ := fun u : {u : Nat × List Cs // u.1 ≤ tcs.length ∧ u.2 = tcs.take u.1} => ⟨51, [(1, .ptr 1 0), (2, .ptr 2 0), (3, .arr 400 0 txs.length), (6, .arr 401 0 u.1.2.length), (27, .d (.sl (tcs.map Cs.row))), (28, .d (.int (tcs.length : Int))), (29, .d (.int (u.1.1 : Int)))], [(1, some (.blk 34 [.d (.int tk), .d (.int tn), .d (.str ta), .d (.str tb), .d (strsD tvs), .d (.sl (txs.map Tm.row)), .d (.sl (tcs.map Cs.row))])), (2, some (.blk 34 [.d (.int 0), .d (.int 0), .d (.str ByteArray.empty), .d (.str ByteArray.empty), .lit (.slice none 0 0), .lit (.slice none 0 0), .lit (.slice none 0 0)])), (400, some (.arr 34 7 (txs.map Tm.row))), (401, some (.arr 40 9 (u.1.2.map Cs.row)))]⟩)
    (μ := fun u => tcs.length - u.1.1) ⟨(0, []), ⟨Nat.zero_le _, by simp⟩⟩ (Le.sub (by simp) (by simp)) (fun ⟨(i, ds), ⟨hi10, hw2⟩⟩ => ?_)
  dsimp only at hi10 hw2 ⊢
  refine AWp.rg [] [] ?_ (hr := by conv => lhs; simp [Tm.row, Tm.rows_eq, Cs.row, Cs.rows_eq])
  repeat (first | refine AWp.seq ?_ | refine AWp.block ?_)
  refine AWp.cond rfl (fun hc => ?_) (fun hc => ?_)
  · have hi1 : i < tcs.length := by have := of_decide_eq_true hc; omega
    clear hc
    have h1d : tcs[i]? = some tcs[i] := List.getElem?_eq_getElem hi1
    have hmd : tcs[i] ∈ tcs := List.getElem_mem hi1
    have hdd : tcs.drop i = tcs[i] :: tcs.drop (i + 1) := List.drop_eq_getElem_cons hi1
    generalize tcs[i] = d at h1d hmd hdd
    obtain ⟨dt, dws, ⟨dk, dn, da, db, dvs, dxs, dcs⟩⟩ := d
    have hyl : ds.length = i := by rw [hw2, List.length_take]; omega
    obtain ⟨hc1, hc2, hc3⟩ := hcO _ hmd
    have hx := sp_Own (.mk dk dn da db dvs dxs dcs) hc3
    have hcw := sp_Clone dws (by omega)
    refine AWp.skip ?_
    refine AWp.rg [] [] ?_ (hr := by conv => lhs; simp [Tm.row, Tm.rows_eq, Cs.row, Cs.rows_eq, h1d])
    refine AWp.dw [5] [.p (fun d => .arr d 0 dws.length) (some (.arr 9 1 (dws.map strR))), .p (fun _ => .agg [.d (.int dk), .d (.int dn), .d (.str da), .d (.str db), .d (strsD dvs), .d (.sl (dxs.map Tm.row)), .d (.sl (dcs.map Cs.row))]) none] mixed ?_ (hr := by conv => lhs; simp [Tm.row, Tm.rows_eq, Cs.row, Cs.rows_eq, h1d])
    refine AWp.rg [] [] ?_ (hr := by conv => lhs; simp [Tm.row, Tm.rows_eq, Cs.row, Cs.rows_eq, h1d])
    refine ⟨⟨(i + 1, ds ++ [.mk dt dws (.mk dk dn da db dvs dxs dcs)]), hi1, by rw [hw2, List.take_add_one, h1d]; rfl⟩, by simp; omega, ?_⟩
    dsimp only
    exact Le.sub (by simp [Cs.row, Tm.row, Tm.rows_eq, Cs.rows_eq, hyl]) (by simp [Cs.row, Tm.row, Tm.rows_eq, Cs.rows_eq, hyl])
  have hi1 : i = tcs.length := by have := of_decide_eq_false hc; omega
  subst hi1
  clear hc
  rw [List.take_length] at hw2
  subst ds
  refine AWp.exit ?_
  refine AWp.rg [] [] ?_ (hr := by conv => lhs; simp [Tm.row, Tm.rows_eq, Cs.row, Cs.rows_eq])
  refine AWp.rg [] [] ?_ (hr := by conv => lhs; simp [Tm.row, Tm.rows_eq, Cs.row, Cs.rows_eq])
  refine AWp.ret ?_
  try dsimp only [thenQ, blockQ]
  apply endC.le (Le.give _ 400 500 rfl rfl rfl)
  apply endC.le (Le.give _ 401 501 rfl rfl rfl)
  try dsimp only [thenQ, blockQ]
  apply endC.ret
  · rfl
  · conv => lhs; simp [resAV, Tryd.results76, AS.swap, swN]
  · rfl
  · simp [moEnd, memGet, AS.swap, swN]
def frR (p : ByteArray × ByteArray) : List D := [.str p.1]
def toR (p : ByteArray × ByteArray) : List D := [.str p.2]
abbrev chO (n : Nat) (c : Int) : AObj := .blk 113 [.arr 500 0 n, .arr 501 0 n, .d (.int c)]
abbrev frO (ps : Ps) : AObj := .arr 9 1 (ps.map frR)
abbrev toO (ps : Ps) : AObj := .arr 9 1 (ps.map toR)
set_option maxRecDepth 20000 in
set_option maxHeartbeats 16000000 in
theorem cs_chFresh (ps : Ps) (c : Int) : CSpec Tryd.prog 149 [.ptr 1000 0] [(1000, chO ps.length c), (500, frO ps), (501, toO ps)] (.d (.str (vNm (wr (c + 1))))) [(1000, chO ps.length (wr (c + 1))), (500, frO ps), (501, toO ps)] := by
  obtain ⟨e, he⟩ : ∃ e : Int, wr (c + 1) = e := ⟨_, rfl⟩
  rw [he]
  have heI : inI e := by rw [← he]; exact wr_in _
  have hit := sp_Itoa e heI
  have hsz := itoaB_size heI
  have h1s : (⟨#[118]⟩ : ByteArray).size = 1 := rfl
  rw [vNm]
  refine CSpec.of Tryd.func149 rfl rfl (Nat.le_of_ble_eq_true rfl) ?_
  show AWp _ _ (endC _ Tryd.f149 _ _) (startC 16 _ _)
  refine AWp.rg [] [] ?_ (hr := by conv => lhs; simp [lit118])
  refine AWp.rg [4] [] ?_ (hr := by conv => lhs; simp [lit118, he])
  refine AWp.rg [] [.p (fun _ => .d (.str (itoaB e))) none] ?_ (hr := by conv => lhs; simp [lit118, he])
  refine AWp.ret ?_
  try dsimp only [thenQ, blockQ]
  apply endC.ret
  · rfl
  · conv => lhs; simp [resAV, Tryd.results149]
  · rfl
  · simp [moEnd, memGet, vNm]
set_option maxRecDepth 20000 in
set_option maxHeartbeats 16000000 in
theorem cs_now (ps : Ps) (s : ByteArray) (c : Int) (hp : ps.length ≤ 1000) : CSpec Tryd.prog 150 [.ptr 1000 0, .d (.str s)] [(1000, chO ps.length c), (500, frO ps), (501, toO ps)] (.d (.str (nowP ps s))) [(1000, chO ps.length c), (500, frO ps), (501, toO ps)] := by
  obtain ⟨R, hR⟩ : ∃ R, R = nowP ps s := ⟨_, rfl⟩
  rw [← hR]
  refine CSpec.of Tryd.func150 rfl rfl (Nat.le_of_ble_eq_true rfl) ?_
  show AWp _ _ (endC _ Tryd.f150 _ _) (startC 33 _ _)
  refine AWp.rg [] [] ?_ (hr := by conv => lhs; simp [frR, toR])
  refine AWp.rg [] [] ?_ (hr := by conv => lhs; simp [frR, toR])
  repeat (first | refine AWp.seq ?_ | refine AWp.block ?_)
  refine AWp.loop (σ := fun u : {u : Nat // (nowP ps s = nowP (ps.take u) s ∧ u ≤ ps.length)} => ⟨33, [(0, .ptr 1000 0), (1, .d (.str s)), (5, .d (.int ((u.1 : Int) - 1)))], [(500, some (.arr 9 1 (ps.map frR))), (501, some (.arr 9 1 (ps.map toR))), (1000, some (.blk 113 [.arr 500 0 ps.length, .arr 501 0 ps.length, .d (.int c)]))]⟩)
    (μ := fun u => u.1) ⟨ps.length, ⟨by rw [List.take_length], Nat.le_refl _⟩⟩ (Le.sub (by simp) (by simp)) (fun ⟨j, hw⟩ => ?_)
  dsimp only
  obtain ⟨hw, hj⟩ := hw
  rcases j with _ | k
  · rw [show ((0 : Nat) : Int) - 1 = -1 from rfl]
    refine AWp.rg [] [] ?_ (hr := by conv => lhs; simp [frR, toR])
    refine AWp.cn ?_
    refine AWp.exit ?_
    rw [List.take_zero] at hw
    obtain rfl : R = s := by rw [hR, hw]; rfl
    refine AWp.rg [] [] ?_ (hr := by conv => lhs; simp [frR, toR])
    refine AWp.ret ?_
    try dsimp only [thenQ, blockQ]
    apply endC.ret
    · rfl
    · conv => lhs; simp [resAV, Tryd.results150]
    · rfl
    · simp [moEnd, memGet]
  rw [show ((k + 1 : Nat) : Int) - 1 = (k : Int) by omega]
  have hk0 := eq_true (Int.natCast_nonneg k)
  have hk1 : k < ps.length := by omega
  have h1p : ps[k]? = some ps[k] := List.getElem?_eq_getElem hk1
  generalize ps[k] = p at h1p
  have hsn := nowP_snoc h1p s
  obtain ⟨pf, pg⟩ := p
  dsimp only at hsn
  refine AWp.rg [] [] ?_ (hr := by conv => lhs; simp [frR, toR, h1p, hk0])
  refine AWp.cy ?_
  refine AWp.skip ?_
  by_cases q1 : pf = s
  · refine AWp.rg [] [] ?_ (hr := by conv => lhs; simp [frR, toR, h1p, hk0, q1])
    refine AWp.cy ?_
    rw [if_pos q1] at hsn
    obtain rfl : R = pg := by rw [hR, hw, hsn]
    refine AWp.rg [] [] ?_ (hr := by conv => lhs; simp [frR, toR, h1p, hk0, q1])
    refine AWp.ret ?_
    try dsimp only [thenQ, blockQ]
    apply endC.ret
    · rfl
    · conv => lhs; simp [resAV, Tryd.results150]
    · rfl
    · simp [moEnd, memGet]
  refine AWp.rg [] [] ?_ (hr := by conv => lhs; simp [frR, toR, h1p, hk0, q1])
  refine AWp.cn ?_
  refine AWp.skip ?_
  refine AWp.rg [] [] ?_ (hr := by conv => lhs; simp [frR, toR, h1p, hk0, q1])
  refine ⟨⟨k, ⟨by rw [hw, hsn, if_neg q1], by omega⟩⟩, by simp only []; omega, ?_⟩
  dsimp only
  exact Le.sub (by simp) (by simp)
def Fn.rn (f : Fn) : Fn := ⟨f.name, freshL f.params 0, (f.body.rn (f.params.zip (freshL f.params 0)) (freshC f.params 0)).1⟩
abbrev fnAV : Fn → AV
  | ⟨g, ps, .mk k n a b vs xs cs⟩ => .agg [.d (.str g), .d (strsD ps), .d (.int k), .d (.int n), .d (.str a), .d (.str b), .d (strsD vs), .d (.sl (xs.map Tm.row)), .d (.sl (cs.map Cs.row))]

theorem map_frR (ps : Ps) (ws us : List ByteArray) (h : us.length = ws.length) : List.map frR ps ++ List.map strR ws = List.map frR (ps ++ ws.zip us) := by
  rw [List.map_append]
  congr 1
  induction ws generalizing us with
  | nil => rfl
  | cons w r ih =>
    rcases us with _ | ⟨u, us⟩
    · cases h
    · simp only [List.map_cons, List.zip_cons_cons]
      rw [ih us (by simpa using h)]
      rfl
theorem map_toR (ps : Ps) (ws us : List ByteArray) (h : us.length = ws.length) : List.map toR ps ++ List.map strR us = List.map toR (ps ++ ws.zip us) := by
  rw [List.map_append]
  congr 1
  induction ws generalizing us with
  | nil => rcases us with _ | ⟨u, us⟩ <;> first | rfl | cases h
  | cons w r ih =>
    rcases us with _ | ⟨u, us⟩
    · cases h
    · simp only [List.map_cons, List.zip_cons_cons]
      rw [← ih us (by simpa using h)]
      rfl
set_option maxRecDepth 20000 in
set_option maxHeartbeats 16000000 in
theorem cs_bind1 (ps qs : Ps) (ws : List ByteArray) (c c2 : Int) (tk tn : Int) (ta ta2 tb : ByteArray) (tvs : List ByteArray) (tcs : List Cs) (R R2 : List (List D)) (hRl : R.length = 2) (hR2l : R2.length = 2) (hw6 : ws.length ≤ 6) (hps : ps.length + ws.length ≤ 1000) (hqd : qs = ps ++ ws.zip (freshL ws c))
    (hcl : CSpec Tryd.prog 151 [strsAV (freshL ws c), .ptr 1001 0, .ptr 1002 0] [(1000, .blk 113 [.arr 500 0 qs.length, .arr 501 0 qs.length, .d (.int (freshC ws c))]), (500, .arr 9 1 (qs.map frR)), (501, .arr 9 1 (qs.map toR)), (1001, .blk 34 [.d (.int tk), .d (.int tn), .d (.str ta), .d (.str tb), .d (strsD tvs), .arr 1003 0 2, .arr 1004 0 tcs.length]), (1002, .blk 111 [.ptr 1000 0]), (1003, .arr 34 7 R), (1004, .arr 40 9 (tcs.map Cs.row))] (.tuple []) [(1000, .blk 113 [.arr 500 0 qs.length, .arr 501 0 qs.length, .d (.int c2)]), (500, .arr 9 1 (qs.map frR)), (501, .arr 9 1 (qs.map toR)), (1001, .blk 34 [.d (.int tk), .d (.int tn), .d (.str ta2), .d (.str tb), .d (strsD tvs), .arr 1003 0 2, .arr 1004 0 tcs.length]), (1002, .blk 111 [.ptr 1000 0]), (1003, .arr 34 7 R2), (1004, .arr 40 9 (tcs.map Cs.row))]) :
    CSpec Tryd.prog 104 [.ptr 1000 0, strsAV ws, .clo 151 [.ptr 1001 0, .ptr 1002 0]] [(1000, .blk 113 [.arr 500 0 ps.length, .arr 501 0 ps.length, .d (.int c)]), (500, .arr 9 1 (ps.map frR)), (501, .arr 9 1 (ps.map toR)), (1001, .blk 34 [.d (.int tk), .d (.int tn), .d (.str ta), .d (.str tb), .d (strsD tvs), .arr 1003 0 2, .arr 1004 0 tcs.length]), (1002, .blk 111 [.ptr 1000 0]), (1003, .arr 34 7 R), (1004, .arr 40 9 (tcs.map Cs.row))] (.tuple []) [(1000, .blk 113 [.arr 500 0 ps.length, .arr 501 0 ps.length, .d (.int c2)]), (500, .arr 9 1 (ps.map frR)), (501, .arr 9 1 (ps.map toR)), (1001, .blk 34 [.d (.int tk), .d (.int tn), .d (.str ta2), .d (.str tb), .d (strsD tvs), .arr 1003 0 2, .arr 1004 0 tcs.length]), (1002, .blk 111 [.ptr 1000 0]), (1003, .arr 34 7 R2), (1004, .arr 40 9 (tcs.map Cs.row))] := by
  refine CSpec.of Tryd.func104 rfl rfl (Nat.le_of_ble_eq_true rfl) ?_
  show AWp _ _ (endC _ Tryd.f104 _ _) (startC 62 _ _)
  refine AWp.rg [] [] ?_
  refine AWp.rg [] [] ?_
  refine AWp.rg [] [] ?_
  repeat (first | refine AWp.seq ?_ | refine AWp.block ?_)
  refine AWp.le (Le.low [400] [] (fr := [(0, .ptr 1000 0), (1, .d (strsD ws)), (2, .clo 151 [.ptr 1001 0, .ptr 1002 0]), (6, .d (.int ps.length)), (7, .arr 400 0 ([] : List ByteArray).length), (14, .d (.int (ws.length : Int))), (15, .d (.int (0 : Int)))]) (mem := [(400, some (.arr 9 1 (([] : List ByteArray).map strR))), (500, some (.arr 9 1 (ps.map frR))), (501, some (.arr 9 1 (ps.map toR))), (1000, some (.blk 113 [.arr 500 0 ps.length, .arr 501 0 ps.length, .d (.int (c : Int))])), (1001, some (.blk 34 [.d (.int tk), .d (.int tn), .d (.str ta), .d (.str tb), .d (strsD tvs), .arr 1003 0 2, .arr 1004 0 tcs.length])), (1002, some (.blk 111 [.ptr 1000 0])), (1003, some (.arr 34 7 R)), (1004, some (.arr 40 9 (tcs.map Cs.row)))]) rfl (by simp) (by simp)) ?_
  refine AWp.loop (σ := fun u : {u : Nat × List ByteArray × Int // u.1 ≤ ws.length ∧ (freshL ws c = u.2.1 ++ freshL (ws.drop u.1) u.2.2 ∧ freshC ws c = freshC (ws.drop u.1) u.2.2 ∧ u.2.1.length = u.1)} => ⟨62, [(0, .ptr 1000 0), (1, .d (strsD ws)), (2, .clo 151 [.ptr 1001 0, .ptr 1002 0]), (6, .d (.int ps.length)), (7, .arr 400 0 u.1.2.1.length), (14, .d (.int (ws.length : Int))), (15, .d (.int (u.1.1 : Int)))], [(400, some (.arr 9 1 (u.1.2.1.map strR))), (500, some (.arr 9 1 (ps.map frR))), (501, some (.arr 9 1 (ps.map toR))), (1000, some (.blk 113 [.arr 500 0 ps.length, .arr 501 0 ps.length, .d (.int u.1.2.2)])), (1001, some (.blk 34 [.d (.int tk), .d (.int tn), .d (.str ta), .d (.str tb), .d (strsD tvs), .arr 1003 0 2, .arr 1004 0 tcs.length])), (1002, some (.blk 111 [.ptr 1000 0])), (1003, some (.arr 34 7 R)), (1004, some (.arr 40 9 (tcs.map Cs.row)))]⟩)
    (μ := fun u => ws.length - u.1.1) ⟨(0, [], c), ⟨Nat.zero_le _, ⟨by simp, by simp, rfl⟩⟩⟩ (Le.sub (by simp) (by simp)) (fun ⟨(i, us, k), ⟨hi3, hw⟩⟩ => ?_)
  dsimp only at hi3 hw ⊢
  refine AWp.rg [] [] ?_
  repeat (first | refine AWp.seq ?_ | refine AWp.block ?_)
  refine AWp.cond rfl (fun hc => ?_) (fun hc => ?_)
  · have hi1 : i < ws.length := by have := of_decide_eq_true hc; omega
    clear hc
    have h1x : ws[i]? = some ws[i] := List.getElem?_eq_getElem hi1
    have hmx : ws[i] ∈ ws := List.getElem_mem hi1
    have hdx : ws.drop i = ws[i] :: ws.drop (i + 1) := List.drop_eq_getElem_cons hi1
    generalize ws[i] = x at h1x hmx hdx
    obtain ⟨hfr, hfc, hul⟩ := hw
    obtain ⟨e, he⟩ : ∃ e : Int, wr (k + 1) = e := ⟨_, rfl⟩
    have hfs := cs_chFresh ps k
    rw [he] at hfs
    refine AWp.skip ?_
    refine AWp.rg [] [.c [] [.ptr 1000 0] [(1000, .blk 113 [.arr 500 0 ps.length, .arr 501 0 ps.length, .d (.int k)]), (500, .arr 9 1 (ps.map frR)), (501, .arr 9 1 (ps.map toR))] (.d (.str (vNm e))) [(1000, .blk 113 [.arr 500 0 ps.length, .arr 501 0 ps.length, .d (.int e)]), (500, .arr 9 1 (ps.map frR)), (501, .arr 9 1 (ps.map toR))]] ?_ (hr := by conv => lhs; simp [h1x])
    refine AWp.rg [] [] ?_ (hr := by conv => lhs; simp [h1x])
    refine ⟨⟨(i + 1, us ++ [vNm e], e), hi1, ⟨by rw [hfr, hdx, freshL, he]; simp, by rw [hfc, hdx, freshC, he], by simp [hul]⟩⟩, by simp; omega, ?_⟩
    dsimp only
    exact Le.sub (by simp) (by simp)
  have hi1 : i = ws.length := by have := of_decide_eq_false hc; omega
  subst hi1
  clear hc
  obtain ⟨hfr, hfc, hul⟩ := hw
  rw [List.drop_length, freshL, List.append_nil] at hfr
  rw [List.drop_length, freshC] at hfc
  rw [hfr, hfc] at hcl
  have hmf := map_frR ps ws us hul
  have hmt := map_toR ps ws us hul
  have hq1 : ps.length + ws.length = (ps ++ ws.zip us).length := by rw [List.length_append, List.length_zip]; omega
  have hq2 : ps.length + us.length = (ps ++ ws.zip us).length := by rw [List.length_append, List.length_zip]; omega
  have hqk : (ps ++ ws.zip us).take ps.length = ps := by simp
  rw [hfr] at hqd
  rw [← hqd] at hmf hmt hq1 hq2 hqk
  refine AWp.exit ?_
  apply AWp.frzs [400]
  · conv => lhs; simp
  refine AWp.dw [] [] mixed ?_ (hr := by conv => lhs; simp [hmf, hmt, hq1, hq2])
  refine AWp.rg [] [.c [] [.d (strsD us), .ptr 1001 0, .ptr 1002 0] [(1000, .blk 113 [.arr 500 0 qs.length, .arr 501 0 qs.length, .d (.int k)]), (500, .arr 9 1 (qs.map frR)), (501, .arr 9 1 (qs.map toR)), (1001, .blk 34 [.d (.int tk), .d (.int tn), .d (.str ta), .d (.str tb), .d (strsD tvs), .arr 1003 0 2, .arr 1004 0 tcs.length]), (1002, .blk 111 [.ptr 1000 0]), (1003, .arr 34 7 R), (1004, .arr 40 9 (tcs.map Cs.row))] (.tuple []) [(1000, .blk 113 [.arr 500 0 qs.length, .arr 501 0 qs.length, .d (.int c2)]), (500, .arr 9 1 (qs.map frR)), (501, .arr 9 1 (qs.map toR)), (1001, .blk 34 [.d (.int tk), .d (.int tn), .d (.str ta2), .d (.str tb), .d (strsD tvs), .arr 1003 0 2, .arr 1004 0 tcs.length]), (1002, .blk 111 [.ptr 1000 0]), (1003, .arr 34 7 R2), (1004, .arr 40 9 (tcs.map Cs.row))]] ?_
  refine AWp.dw [] [] mixed ?_
  try dsimp only [thenQ, blockQ]
  apply endC.le (Le.low [] [] (fr := []) (mem := [(1001, some (.blk 34 [.d (.int tk), .d (.int tn), .d (.str ta2), .d (.str tb), .d (strsD tvs), .arr 1003 0 2, .arr 1004 0 tcs.length])), (1002, some (.blk 111 [.ptr 1000 0])), (1003, some (.arr 34 7 R2)), (1004, some (.arr 40 9 (tcs.map Cs.row))), (1000, some (.blk 113 [.arr 500 0 ps.length, .arr 501 0 ps.length, .d (.int c2)])), (500, some (.arr 9 1 (qs.map frR))), (501, some (.arr 9 1 (qs.map toR)))]) rfl (by simp) (by simp))
  apply endC.le (Le.cut 500 ps.length rfl (by rw [← List.map_take, hqk]) (by rw [List.length_map]; omega) (by simp [frInK, AV.inK, AV.inKL]) (by simp [memInK, AV.inK, AV.inKL]))
  apply endC.le (Le.cut 501 ps.length rfl (by rw [← List.map_take, hqk]) (by rw [List.length_map]; omega) (by simp [frInK, AV.inK, AV.inKL]) (by simp [memInK, AV.inK, AV.inKL]))
  try dsimp only [thenQ, blockQ]
  apply endC.normal
  · rfl
  · conv => lhs; simp [resAV, Tryd.results104]
  · rfl
  · simp [moEnd, memGet]
set_option maxRecDepth 20000 in
set_option maxHeartbeats 16000000 in
theorem cs_bind2 (ps qs : Ps) (ws : List ByteArray) (c c2 : Int) (j : Nat) (R R2 : List (List D)) (hRl : R2.length = R.length) (hw6 : ws.length ≤ 6) (hps : ps.length + ws.length ≤ 1000) (hqd : qs = ps ++ ws.zip (freshL ws c))
    (hcl : CSpec Tryd.prog 152 [strsAV (freshL ws c), .ptr 1001 0, .ptr 1002 0] [(1000, .blk 113 [.arr 500 0 qs.length, .arr 501 0 qs.length, .d (.int (freshC ws c))]), (500, .arr 9 1 (qs.map frR)), (501, .arr 9 1 (qs.map toR)), (1001, .blk 153 [.eptr 1003 j 0]), (1002, .blk 111 [.ptr 1000 0]), (1003, .arr 40 9 R)] (.tuple []) [(1000, .blk 113 [.arr 500 0 qs.length, .arr 501 0 qs.length, .d (.int c2)]), (500, .arr 9 1 (qs.map frR)), (501, .arr 9 1 (qs.map toR)), (1001, .blk 153 [.eptr 1003 j 0]), (1002, .blk 111 [.ptr 1000 0]), (1003, .arr 40 9 R2)]) :
    CSpec Tryd.prog 104 [.ptr 1000 0, strsAV ws, .clo 152 [.ptr 1001 0, .ptr 1002 0]] [(1000, .blk 113 [.arr 500 0 ps.length, .arr 501 0 ps.length, .d (.int c)]), (500, .arr 9 1 (ps.map frR)), (501, .arr 9 1 (ps.map toR)), (1001, .blk 153 [.eptr 1003 j 0]), (1002, .blk 111 [.ptr 1000 0]), (1003, .arr 40 9 R)] (.tuple []) [(1000, .blk 113 [.arr 500 0 ps.length, .arr 501 0 ps.length, .d (.int c2)]), (500, .arr 9 1 (ps.map frR)), (501, .arr 9 1 (ps.map toR)), (1001, .blk 153 [.eptr 1003 j 0]), (1002, .blk 111 [.ptr 1000 0]), (1003, .arr 40 9 R2)] := by
  refine CSpec.of Tryd.func104 rfl rfl (Nat.le_of_ble_eq_true rfl) ?_
  show AWp _ _ (endC _ Tryd.f104 _ _) (startC 62 _ _)
  refine AWp.rg [] [] ?_
  refine AWp.rg [] [] ?_
  refine AWp.rg [] [] ?_
  repeat (first | refine AWp.seq ?_ | refine AWp.block ?_)
  refine AWp.le (Le.low [400] [] (fr := [(0, .ptr 1000 0), (1, .d (strsD ws)), (2, .clo 152 [.ptr 1001 0, .ptr 1002 0]), (6, .d (.int ps.length)), (7, .arr 400 0 ([] : List ByteArray).length), (14, .d (.int (ws.length : Int))), (15, .d (.int (0 : Int)))]) (mem := [(400, some (.arr 9 1 (([] : List ByteArray).map strR))), (500, some (.arr 9 1 (ps.map frR))), (501, some (.arr 9 1 (ps.map toR))), (1000, some (.blk 113 [.arr 500 0 ps.length, .arr 501 0 ps.length, .d (.int (c : Int))])), (1001, some (.blk 153 [.eptr 1003 j 0])), (1002, some (.blk 111 [.ptr 1000 0])), (1003, some (.arr 40 9 R))]) rfl (by simp) (by simp)) ?_
  refine AWp.loop (σ := fun u : {u : Nat × List ByteArray × Int // u.1 ≤ ws.length ∧ (freshL ws c = u.2.1 ++ freshL (ws.drop u.1) u.2.2 ∧ freshC ws c = freshC (ws.drop u.1) u.2.2 ∧ u.2.1.length = u.1)} => ⟨62, [(0, .ptr 1000 0), (1, .d (strsD ws)), (2, .clo 152 [.ptr 1001 0, .ptr 1002 0]), (6, .d (.int ps.length)), (7, .arr 400 0 u.1.2.1.length), (14, .d (.int (ws.length : Int))), (15, .d (.int (u.1.1 : Int)))], [(400, some (.arr 9 1 (u.1.2.1.map strR))), (500, some (.arr 9 1 (ps.map frR))), (501, some (.arr 9 1 (ps.map toR))), (1000, some (.blk 113 [.arr 500 0 ps.length, .arr 501 0 ps.length, .d (.int u.1.2.2)])), (1001, some (.blk 153 [.eptr 1003 j 0])), (1002, some (.blk 111 [.ptr 1000 0])), (1003, some (.arr 40 9 R))]⟩)
    (μ := fun u => ws.length - u.1.1) ⟨(0, [], c), ⟨Nat.zero_le _, ⟨by simp, by simp, rfl⟩⟩⟩ (Le.sub (by simp) (by simp)) (fun ⟨(i, us, k), ⟨hi3, hw⟩⟩ => ?_)
  dsimp only at hi3 hw ⊢
  refine AWp.rg [] [] ?_
  repeat (first | refine AWp.seq ?_ | refine AWp.block ?_)
  refine AWp.cond rfl (fun hc => ?_) (fun hc => ?_)
  · have hi1 : i < ws.length := by have := of_decide_eq_true hc; omega
    clear hc
    have h1x : ws[i]? = some ws[i] := List.getElem?_eq_getElem hi1
    have hmx : ws[i] ∈ ws := List.getElem_mem hi1
    have hdx : ws.drop i = ws[i] :: ws.drop (i + 1) := List.drop_eq_getElem_cons hi1
    generalize ws[i] = x at h1x hmx hdx
    obtain ⟨hfr, hfc, hul⟩ := hw
    obtain ⟨e, he⟩ : ∃ e : Int, wr (k + 1) = e := ⟨_, rfl⟩
    have hfs := cs_chFresh ps k
    rw [he] at hfs
    refine AWp.skip ?_
    refine AWp.rg [] [.c [] [.ptr 1000 0] [(1000, .blk 113 [.arr 500 0 ps.length, .arr 501 0 ps.length, .d (.int k)]), (500, .arr 9 1 (ps.map frR)), (501, .arr 9 1 (ps.map toR))] (.d (.str (vNm e))) [(1000, .blk 113 [.arr 500 0 ps.length, .arr 501 0 ps.length, .d (.int e)]), (500, .arr 9 1 (ps.map frR)), (501, .arr 9 1 (ps.map toR))]] ?_ (hr := by conv => lhs; simp [h1x])
    refine AWp.rg [] [] ?_ (hr := by conv => lhs; simp [h1x])
    refine ⟨⟨(i + 1, us ++ [vNm e], e), hi1, ⟨by rw [hfr, hdx, freshL, he]; simp, by rw [hfc, hdx, freshC, he], by simp [hul]⟩⟩, by simp; omega, ?_⟩
    dsimp only
    exact Le.sub (by simp) (by simp)
  have hi1 : i = ws.length := by have := of_decide_eq_false hc; omega
  subst hi1
  clear hc
  obtain ⟨hfr, hfc, hul⟩ := hw
  rw [List.drop_length, freshL, List.append_nil] at hfr
  rw [List.drop_length, freshC] at hfc
  rw [hfr, hfc] at hcl
  have hmf := map_frR ps ws us hul
  have hmt := map_toR ps ws us hul
  have hq1 : ps.length + ws.length = (ps ++ ws.zip us).length := by rw [List.length_append, List.length_zip]; omega
  have hq2 : ps.length + us.length = (ps ++ ws.zip us).length := by rw [List.length_append, List.length_zip]; omega
  have hqk : (ps ++ ws.zip us).take ps.length = ps := by simp
  rw [hfr] at hqd
  rw [← hqd] at hmf hmt hq1 hq2 hqk
  refine AWp.exit ?_
  apply AWp.frzs [400]
  · conv => lhs; simp
  refine AWp.dw [] [] mixed ?_ (hr := by conv => lhs; simp [hmf, hmt, hq1, hq2])
  refine AWp.rg [] [.c [] [.d (strsD us), .ptr 1001 0, .ptr 1002 0] [(1000, .blk 113 [.arr 500 0 qs.length, .arr 501 0 qs.length, .d (.int k)]), (500, .arr 9 1 (qs.map frR)), (501, .arr 9 1 (qs.map toR)), (1001, .blk 153 [.eptr 1003 j 0]), (1002, .blk 111 [.ptr 1000 0]), (1003, .arr 40 9 R)] (.tuple []) [(1000, .blk 113 [.arr 500 0 qs.length, .arr 501 0 qs.length, .d (.int c2)]), (500, .arr 9 1 (qs.map frR)), (501, .arr 9 1 (qs.map toR)), (1001, .blk 153 [.eptr 1003 j 0]), (1002, .blk 111 [.ptr 1000 0]), (1003, .arr 40 9 R2)]] ?_
  refine AWp.dw [] [] mixed ?_
  try dsimp only [thenQ, blockQ]
  apply endC.le (Le.low [] [] (fr := []) (mem := [(1001, some (.blk 153 [.eptr 1003 j 0])), (1002, some (.blk 111 [.ptr 1000 0])), (1003, some (.arr 40 9 R2)), (1000, some (.blk 113 [.arr 500 0 ps.length, .arr 501 0 ps.length, .d (.int c2)])), (500, some (.arr 9 1 (qs.map frR))), (501, some (.arr 9 1 (qs.map toR)))]) rfl (by simp) (by simp))
  apply endC.le (Le.cut 500 ps.length rfl (by rw [← List.map_take, hqk]) (by rw [List.length_map]; omega) (by simp [frInK, AV.inK, AV.inKL]) (by simp [memInK, AV.inK, AV.inKL]))
  apply endC.le (Le.cut 501 ps.length rfl (by rw [← List.map_take, hqk]) (by rw [List.length_map]; omega) (by simp [frInK, AV.inK, AV.inKL]) (by simp [memInK, AV.inK, AV.inKL]))
  try dsimp only [thenQ, blockQ]
  apply endC.normal
  · rfl
  · conv => lhs; simp [resAV, Tryd.results104]
  · rfl
  · simp [moEnd, memGet]
set_option maxRecDepth 20000 in
set_option maxHeartbeats 16000000 in
theorem cs_bind0 (ps qs : Ps) (ws : List ByteArray) (c c2 : Int) (fg : ByteArray) (fps us2 : List ByteArray) (fk fn zk zn : Int) (fa fb za zb : ByteArray) (fvs zvs : List ByteArray) (fxs zxs : List Tm) (fcs zcs : List Cs)  (hw6 : ws.length ≤ 6) (hps : ps.length + ws.length ≤ 1000) (hqd : qs = ps ++ ws.zip (freshL ws c))
    (hcl : CSpec Tryd.prog 105 [strsAV (freshL ws c), .ptr 1001 0, .ptr 1002 0, .ptr 1003 0] [(1000, .blk 113 [.arr 500 0 qs.length, .arr 501 0 qs.length, .d (.int (freshC ws c))]), (500, .arr 9 1 (qs.map frR)), (501, .arr 9 1 (qs.map toR)), (1001, .blk 36 [.d (.str fg), .lit (.slice none 0 0), .d (.int 0), .d (.int 0), .d (.str ByteArray.empty), .d (.str ByteArray.empty), .lit (.slice none 0 0), .lit (.slice none 0 0), .lit (.slice none 0 0)]), (1002, .blk 111 [.ptr 1000 0]), (1003, .blk 36 [.d (.str fg), .d (strsD fps), .d (.int fk), .d (.int fn), .d (.str fa), .d (.str fb), .d (strsD fvs), .d (.sl (fxs.map Tm.row)), .d (.sl (fcs.map Cs.row))])] (.tuple []) [(1000, .blk 113 [.arr 500 0 qs.length, .arr 501 0 qs.length, .d (.int c2)]), (500, .arr 9 1 (qs.map frR)), (501, .arr 9 1 (qs.map toR)), (1001, .blk 36 [.d (.str fg), .d (strsD us2), .d (.int zk), .d (.int zn), .d (.str za), .d (.str zb), .d (strsD zvs), .d (.sl (zxs.map Tm.row)), .d (.sl (zcs.map Cs.row))]), (1002, .blk 111 [.ptr 1000 0]), (1003, .blk 36 [.d (.str fg), .d (strsD fps), .d (.int fk), .d (.int fn), .d (.str fa), .d (.str fb), .d (strsD fvs), .d (.sl (fxs.map Tm.row)), .d (.sl (fcs.map Cs.row))])]) :
    CSpec Tryd.prog 104 [.ptr 1000 0, strsAV ws, .clo 105 [.ptr 1001 0, .ptr 1002 0, .ptr 1003 0]] [(1000, .blk 113 [.arr 500 0 ps.length, .arr 501 0 ps.length, .d (.int c)]), (500, .arr 9 1 (ps.map frR)), (501, .arr 9 1 (ps.map toR)), (1001, .blk 36 [.d (.str fg), .lit (.slice none 0 0), .d (.int 0), .d (.int 0), .d (.str ByteArray.empty), .d (.str ByteArray.empty), .lit (.slice none 0 0), .lit (.slice none 0 0), .lit (.slice none 0 0)]), (1002, .blk 111 [.ptr 1000 0]), (1003, .blk 36 [.d (.str fg), .d (strsD fps), .d (.int fk), .d (.int fn), .d (.str fa), .d (.str fb), .d (strsD fvs), .d (.sl (fxs.map Tm.row)), .d (.sl (fcs.map Cs.row))])] (.tuple []) [(1000, .blk 113 [.arr 500 0 ps.length, .arr 501 0 ps.length, .d (.int c2)]), (500, .arr 9 1 (ps.map frR)), (501, .arr 9 1 (ps.map toR)), (1001, .blk 36 [.d (.str fg), .d (strsD us2), .d (.int zk), .d (.int zn), .d (.str za), .d (.str zb), .d (strsD zvs), .d (.sl (zxs.map Tm.row)), .d (.sl (zcs.map Cs.row))]), (1002, .blk 111 [.ptr 1000 0]), (1003, .blk 36 [.d (.str fg), .d (strsD fps), .d (.int fk), .d (.int fn), .d (.str fa), .d (.str fb), .d (strsD fvs), .d (.sl (fxs.map Tm.row)), .d (.sl (fcs.map Cs.row))])] := by
  refine CSpec.of Tryd.func104 rfl rfl (Nat.le_of_ble_eq_true rfl) ?_
  show AWp _ _ (endC _ Tryd.f104 _ _) (startC 62 _ _)
  refine AWp.rg [] [] ?_
  refine AWp.rg [] [] ?_
  refine AWp.rg [] [] ?_
  repeat (first | refine AWp.seq ?_ | refine AWp.block ?_)
  refine AWp.le (Le.low [400] [] (fr := [(0, .ptr 1000 0), (1, .d (strsD ws)), (2, .clo 105 [.ptr 1001 0, .ptr 1002 0, .ptr 1003 0]), (6, .d (.int ps.length)), (7, .arr 400 0 ([] : List ByteArray).length), (14, .d (.int (ws.length : Int))), (15, .d (.int (0 : Int)))]) (mem := [(400, some (.arr 9 1 (([] : List ByteArray).map strR))), (500, some (.arr 9 1 (ps.map frR))), (501, some (.arr 9 1 (ps.map toR))), (1000, some (.blk 113 [.arr 500 0 ps.length, .arr 501 0 ps.length, .d (.int (c : Int))])), (1001, some (.blk 36 [.d (.str fg), .lit (.slice none 0 0), .d (.int 0), .d (.int 0), .d (.str ByteArray.empty), .d (.str ByteArray.empty), .lit (.slice none 0 0), .lit (.slice none 0 0), .lit (.slice none 0 0)])), (1002, some (.blk 111 [.ptr 1000 0])), (1003, some (.blk 36 [.d (.str fg), .d (strsD fps), .d (.int fk), .d (.int fn), .d (.str fa), .d (.str fb), .d (strsD fvs), .d (.sl (fxs.map Tm.row)), .d (.sl (fcs.map Cs.row))]))]) rfl (by simp) (by simp)) ?_
  refine AWp.loop (σ := fun u : {u : Nat × List ByteArray × Int // u.1 ≤ ws.length ∧ (freshL ws c = u.2.1 ++ freshL (ws.drop u.1) u.2.2 ∧ freshC ws c = freshC (ws.drop u.1) u.2.2 ∧ u.2.1.length = u.1)} => ⟨62, [(0, .ptr 1000 0), (1, .d (strsD ws)), (2, .clo 105 [.ptr 1001 0, .ptr 1002 0, .ptr 1003 0]), (6, .d (.int ps.length)), (7, .arr 400 0 u.1.2.1.length), (14, .d (.int (ws.length : Int))), (15, .d (.int (u.1.1 : Int)))], [(400, some (.arr 9 1 (u.1.2.1.map strR))), (500, some (.arr 9 1 (ps.map frR))), (501, some (.arr 9 1 (ps.map toR))), (1000, some (.blk 113 [.arr 500 0 ps.length, .arr 501 0 ps.length, .d (.int u.1.2.2)])), (1001, some (.blk 36 [.d (.str fg), .lit (.slice none 0 0), .d (.int 0), .d (.int 0), .d (.str ByteArray.empty), .d (.str ByteArray.empty), .lit (.slice none 0 0), .lit (.slice none 0 0), .lit (.slice none 0 0)])), (1002, some (.blk 111 [.ptr 1000 0])), (1003, some (.blk 36 [.d (.str fg), .d (strsD fps), .d (.int fk), .d (.int fn), .d (.str fa), .d (.str fb), .d (strsD fvs), .d (.sl (fxs.map Tm.row)), .d (.sl (fcs.map Cs.row))]))]⟩)
    (μ := fun u => ws.length - u.1.1) ⟨(0, [], c), ⟨Nat.zero_le _, ⟨by simp, by simp, rfl⟩⟩⟩ (Le.sub (by simp) (by simp)) (fun ⟨(i, us, k), ⟨hi3, hw⟩⟩ => ?_)
  dsimp only at hi3 hw ⊢
  refine AWp.rg [] [] ?_
  repeat (first | refine AWp.seq ?_ | refine AWp.block ?_)
  refine AWp.cond rfl (fun hc => ?_) (fun hc => ?_)
  · have hi1 : i < ws.length := by have := of_decide_eq_true hc; omega
    clear hc
    have h1x : ws[i]? = some ws[i] := List.getElem?_eq_getElem hi1
    have hmx : ws[i] ∈ ws := List.getElem_mem hi1
    have hdx : ws.drop i = ws[i] :: ws.drop (i + 1) := List.drop_eq_getElem_cons hi1
    generalize ws[i] = x at h1x hmx hdx
    obtain ⟨hfr, hfc, hul⟩ := hw
    obtain ⟨e, he⟩ : ∃ e : Int, wr (k + 1) = e := ⟨_, rfl⟩
    have hfs := cs_chFresh ps k
    rw [he] at hfs
    refine AWp.skip ?_
    refine AWp.rg [] [.c [] [.ptr 1000 0] [(1000, .blk 113 [.arr 500 0 ps.length, .arr 501 0 ps.length, .d (.int k)]), (500, .arr 9 1 (ps.map frR)), (501, .arr 9 1 (ps.map toR))] (.d (.str (vNm e))) [(1000, .blk 113 [.arr 500 0 ps.length, .arr 501 0 ps.length, .d (.int e)]), (500, .arr 9 1 (ps.map frR)), (501, .arr 9 1 (ps.map toR))]] ?_ (hr := by conv => lhs; simp [h1x])
    refine AWp.rg [] [] ?_ (hr := by conv => lhs; simp [h1x])
    refine ⟨⟨(i + 1, us ++ [vNm e], e), hi1, ⟨by rw [hfr, hdx, freshL, he]; simp, by rw [hfc, hdx, freshC, he], by simp [hul]⟩⟩, by simp; omega, ?_⟩
    dsimp only
    exact Le.sub (by simp) (by simp)
  have hi1 : i = ws.length := by have := of_decide_eq_false hc; omega
  subst hi1
  clear hc
  obtain ⟨hfr, hfc, hul⟩ := hw
  rw [List.drop_length, freshL, List.append_nil] at hfr
  rw [List.drop_length, freshC] at hfc
  rw [hfr, hfc] at hcl
  have hmf := map_frR ps ws us hul
  have hmt := map_toR ps ws us hul
  have hq1 : ps.length + ws.length = (ps ++ ws.zip us).length := by rw [List.length_append, List.length_zip]; omega
  have hq2 : ps.length + us.length = (ps ++ ws.zip us).length := by rw [List.length_append, List.length_zip]; omega
  have hqk : (ps ++ ws.zip us).take ps.length = ps := by simp
  rw [hfr] at hqd
  rw [← hqd] at hmf hmt hq1 hq2 hqk
  refine AWp.exit ?_
  apply AWp.frzs [400]
  · conv => lhs; simp
  refine AWp.dw [] [] mixed ?_ (hr := by conv => lhs; simp [hmf, hmt, hq1, hq2])
  refine AWp.rg [] [.c [] [.d (strsD us), .ptr 1001 0, .ptr 1002 0, .ptr 1003 0] [(1000, .blk 113 [.arr 500 0 qs.length, .arr 501 0 qs.length, .d (.int k)]), (500, .arr 9 1 (qs.map frR)), (501, .arr 9 1 (qs.map toR)), (1001, .blk 36 [.d (.str fg), .lit (.slice none 0 0), .d (.int 0), .d (.int 0), .d (.str ByteArray.empty), .d (.str ByteArray.empty), .lit (.slice none 0 0), .lit (.slice none 0 0), .lit (.slice none 0 0)]), (1002, .blk 111 [.ptr 1000 0]), (1003, .blk 36 [.d (.str fg), .d (strsD fps), .d (.int fk), .d (.int fn), .d (.str fa), .d (.str fb), .d (strsD fvs), .d (.sl (fxs.map Tm.row)), .d (.sl (fcs.map Cs.row))])] (.tuple []) [(1000, .blk 113 [.arr 500 0 qs.length, .arr 501 0 qs.length, .d (.int c2)]), (500, .arr 9 1 (qs.map frR)), (501, .arr 9 1 (qs.map toR)), (1001, .blk 36 [.d (.str fg), .d (strsD us2), .d (.int zk), .d (.int zn), .d (.str za), .d (.str zb), .d (strsD zvs), .d (.sl (zxs.map Tm.row)), .d (.sl (zcs.map Cs.row))]), (1002, .blk 111 [.ptr 1000 0]), (1003, .blk 36 [.d (.str fg), .d (strsD fps), .d (.int fk), .d (.int fn), .d (.str fa), .d (.str fb), .d (strsD fvs), .d (.sl (fxs.map Tm.row)), .d (.sl (fcs.map Cs.row))])]] ?_
  refine AWp.dw [] [] mixed ?_
  try dsimp only [thenQ, blockQ]
  apply endC.le (Le.low [] [] (fr := []) (mem := [(1001, some (.blk 36 [.d (.str fg), .d (strsD us2), .d (.int zk), .d (.int zn), .d (.str za), .d (.str zb), .d (strsD zvs), .d (.sl (zxs.map Tm.row)), .d (.sl (zcs.map Cs.row))])), (1002, some (.blk 111 [.ptr 1000 0])), (1003, some (.blk 36 [.d (.str fg), .d (strsD fps), .d (.int fk), .d (.int fn), .d (.str fa), .d (.str fb), .d (strsD fvs), .d (.sl (fxs.map Tm.row)), .d (.sl (fcs.map Cs.row))])), (1000, some (.blk 113 [.arr 500 0 ps.length, .arr 501 0 ps.length, .d (.int c2)])), (500, some (.arr 9 1 (qs.map frR))), (501, some (.arr 9 1 (qs.map toR)))]) rfl (by simp) (by simp))
  apply endC.le (Le.cut 500 ps.length rfl (by rw [← List.map_take, hqk]) (by rw [List.length_map]; omega) (by simp [frInK, AV.inK, AV.inKL]) (by simp [memInK, AV.inK, AV.inKL]))
  apply endC.le (Le.cut 501 ps.length rfl (by rw [← List.map_take, hqk]) (by rw [List.length_map]; omega) (by simp [frInK, AV.inK, AV.inKL]) (by simp [memInK, AV.inK, AV.inKL]))
  try dsimp only [thenQ, blockQ]
  apply endC.normal
  · rfl
  · conv => lhs; simp [resAV, Tryd.results104]
  · rfl
  · simp [moEnd, memGet]
end Go.Proofs.YtapiiklnnkkdlaaDoor

namespace Go.Proofs.YtapiiklnnkkdlaaDoor
open Go.RowKit
attribute [local simp] runD mkRc ldOf stOf stOk ldArg noAny dstOk guardOk opEff opEff0 effOp pureOp callOp zEff evA constAV scalAV Value.oneCell' frGet memGet startAS frOf isGoCall idIn AS.after nextR opnIds objIds AV.ids idsL AObj.ids frNo memNo opnAny isAny mkVal rdCells wrCells fldAddr idxAddr srcRows litRows toD1 toDs setAt sliceAV optI partAV bldAV fillAV binAV binI AV.cells callEff calleeOf frKill memKill AV.kill AObj.kill AV.has AV.hasL Op.operands Call.operands keepF keepM viewIds cChk renOf moGet moWs moQ cEff moLike moHave AV.ren renL AObj.ren AObj.like kept startC moMem AV.frz frz1 frzL frSub memSub frzs AS.frz frFrz memFrz AObj.frz takeMap takeLen bleF Nat.ble_eq memAny objAny mapOp D.keyOk rowAV valRow extOp wrapOp phO
set_option linter.unusedVariables false
set_option linter.unusedSimpArgs false
def TermN (N : Nat) : Prop := ∀ (t : Tm) (ps : Ps) (c : Int), t.Rt N → t.Ok → ps.length + 6 * N ≤ 1000 →
  CSpec Tryd.prog 106 [.ptr 1000 0, tmAV t] [(1000, chO ps.length c), (500, frO ps), (501, toO ps)] (tmAV (t.rn ps c).1) [(1000, chO ps.length (t.rn ps c).2), (500, frO ps), (501, toO ps)]
set_option maxRecDepth 20000 in
set_option maxHeartbeats 16000000 in
theorem cs_term1 (ps : Ps) (c c2 : Int) (v : ByteArray) (tk tn : Int) (ta tb : ByteArray) (tvs : List ByteArray) (tcs : List Cs) (r0 : List D) (yk yn zk zn : Int) (ya yb za zb : ByteArray) (yvs zvs : List ByteArray) (yxs zxs : List Tm) (ycs zcs : List Cs)
    (hx : CSpec Tryd.prog 106 [.ptr 1000 0, tmAV (.mk yk yn ya yb yvs yxs ycs)] [(1000, chO ps.length c), (500, frO ps), (501, toO ps)] (tmAV (.mk zk zn za zb zvs zxs zcs)) [(1000, chO ps.length c2), (500, frO ps), (501, toO ps)]) :
    CSpec Tryd.prog 151 [.d (.sl [[.str v]]), .ptr 1001 0, .ptr 1002 0] [(1000, .blk 113 [.arr 500 0 ps.length, .arr 501 0 ps.length, .d (.int c)]), (500, .arr 9 1 (ps.map frR)), (501, .arr 9 1 (ps.map toR)), (1001, .blk 34 [.d (.int tk), .d (.int tn), .d (.str ta), .d (.str tb), .d (strsD tvs), .arr 1003 0 2, .arr 1004 0 tcs.length]), (1002, .blk 111 [.ptr 1000 0]), (1003, .arr 34 7 ([r0, Tm.row (.mk yk yn ya yb yvs yxs ycs)])), (1004, .arr 40 9 (tcs.map Cs.row))] (.tuple []) [(1000, .blk 113 [.arr 500 0 ps.length, .arr 501 0 ps.length, .d (.int c2)]), (500, .arr 9 1 (ps.map frR)), (501, .arr 9 1 (ps.map toR)), (1001, .blk 34 [.d (.int tk), .d (.int tn), .d (.str v), .d (.str tb), .d (strsD tvs), .arr 1003 0 2, .arr 1004 0 tcs.length]), (1002, .blk 111 [.ptr 1000 0]), (1003, .arr 34 7 ([r0, Tm.row (.mk zk zn za zb zvs zxs zcs)])), (1004, .arr 40 9 (tcs.map Cs.row))] := by
  refine CSpec.of Tryd.func151 rfl rfl (Nat.le_of_ble_eq_true rfl) ?_
  show AWp _ _ (endC _ Tryd.f151 _ _) (startC 17 _ _)
  refine AWp.rg [] [] ?_ (hr := by conv => lhs; simp [Tm.row, Tm.rows_eq, Cs.rows_eq])
  refine AWp.dw [] [.c [] [.ptr 1000 0, .agg [.d (.int yk), .d (.int yn), .d (.str ya), .d (.str yb), .d (strsD yvs), .d (.sl (yxs.map Tm.row)), .d (.sl (ycs.map Cs.row))]] [(1000, .blk 113 [.arr 500 0 ps.length, .arr 501 0 ps.length, .d (.int c)]), (500, .arr 9 1 (ps.map frR)), (501, .arr 9 1 (ps.map toR))] (.agg [.d (.int zk), .d (.int zn), .d (.str za), .d (.str zb), .d (strsD zvs), .d (.sl (zxs.map Tm.row)), .d (.sl (zcs.map Cs.row))]) [(1000, .blk 113 [.arr 500 0 ps.length, .arr 501 0 ps.length, .d (.int c2)]), (500, .arr 9 1 (ps.map frR)), (501, .arr 9 1 (ps.map toR))]] mixed ?_ (hr := by conv => lhs; simp [Tm.row, Tm.rows_eq, Cs.rows_eq])
  try dsimp only [thenQ, blockQ]
  apply endC.normal
  · rfl
  · conv => lhs; simp [resAV, Tryd.results151]
  · rfl
  · simp [moEnd, memGet, Tm.row, Tm.rows_eq, Cs.rows_eq]
set_option maxRecDepth 20000 in
set_option maxHeartbeats 16000000 in
theorem cs_term2 (ps : Ps) (c c2 : Int) (us dws : List ByteArray) (dt : Int) (j : Nat) (R R1 R2 : List (List D)) (yk yn zk zn : Int) (ya yb za zb : ByteArray) (yvs zvs : List ByteArray) (yxs zxs : List Tm) (ycs zcs : List Cs)
    (hR0 : R[j]? = some [.int dt, strsD dws, .int yk, .int yn, .str ya, .str yb, strsD yvs, .sl (yxs.map Tm.row), .sl (ycs.map Cs.row)]) (hR1 : R.set j [.int dt, strsD us, .int yk, .int yn, .str ya, .str yb, strsD yvs, .sl (yxs.map Tm.row), .sl (ycs.map Cs.row)] = R1) (hR1g : R1[j]? = some [.int dt, strsD us, .int yk, .int yn, .str ya, .str yb, strsD yvs, .sl (yxs.map Tm.row), .sl (ycs.map Cs.row)]) (hR2 : R1.set j [.int dt, strsD us, .int zk, .int zn, .str za, .str zb, strsD zvs, .sl (zxs.map Tm.row), .sl (zcs.map Cs.row)] = R2)
    (hx : CSpec Tryd.prog 106 [.ptr 1000 0, tmAV (.mk yk yn ya yb yvs yxs ycs)] [(1000, chO ps.length c), (500, frO ps), (501, toO ps)] (tmAV (.mk zk zn za zb zvs zxs zcs)) [(1000, chO ps.length c2), (500, frO ps), (501, toO ps)]) :
    CSpec Tryd.prog 152 [strsAV us, .ptr 1001 0, .ptr 1002 0] [(1000, .blk 113 [.arr 500 0 ps.length, .arr 501 0 ps.length, .d (.int c)]), (500, .arr 9 1 (ps.map frR)), (501, .arr 9 1 (ps.map toR)), (1001, .blk 153 [.eptr 1003 j 0]), (1002, .blk 111 [.ptr 1000 0]), (1003, .arr 40 9 R)] (.tuple []) [(1000, .blk 113 [.arr 500 0 ps.length, .arr 501 0 ps.length, .d (.int c2)]), (500, .arr 9 1 (ps.map frR)), (501, .arr 9 1 (ps.map toR)), (1001, .blk 153 [.eptr 1003 j 0]), (1002, .blk 111 [.ptr 1000 0]), (1003, .arr 40 9 R2)] := by
  refine CSpec.of Tryd.func152 rfl rfl (Nat.le_of_ble_eq_true rfl) ?_
  show AWp _ _ (endC _ Tryd.f152 _ _) (startC 17 _ _)
  refine AWp.rg [] [] ?_ (hr := by conv => lhs; simp [Tm.row, Tm.rows_eq, Cs.rows_eq, hR0, hR1])
  refine AWp.dw [] [.c [] [.ptr 1000 0, .agg [.d (.int yk), .d (.int yn), .d (.str ya), .d (.str yb), .d (strsD yvs), .d (.sl (yxs.map Tm.row)), .d (.sl (ycs.map Cs.row))]] [(1000, .blk 113 [.arr 500 0 ps.length, .arr 501 0 ps.length, .d (.int c)]), (500, .arr 9 1 (ps.map frR)), (501, .arr 9 1 (ps.map toR))] (.agg [.d (.int zk), .d (.int zn), .d (.str za), .d (.str zb), .d (strsD zvs), .d (.sl (zxs.map Tm.row)), .d (.sl (zcs.map Cs.row))]) [(1000, .blk 113 [.arr 500 0 ps.length, .arr 501 0 ps.length, .d (.int c2)]), (500, .arr 9 1 (ps.map frR)), (501, .arr 9 1 (ps.map toR))]] mixed ?_ (hr := by conv => lhs; simp [Tm.row, Tm.rows_eq, Cs.rows_eq, hR1g, hR2])
  try dsimp only [thenQ, blockQ]
  apply endC.normal
  · rfl
  · conv => lhs; simp [resAV, Tryd.results152]
  · rfl
  · simp [moEnd, memGet]
end Go.Proofs.YtapiiklnnkkdlaaDoor
