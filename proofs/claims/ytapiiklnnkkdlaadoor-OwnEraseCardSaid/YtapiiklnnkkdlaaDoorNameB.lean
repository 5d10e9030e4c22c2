import Derived.Test.YtapiiklnnkkdlaaDoorNameP
import Derived.Test.YtapiiklnnkkdlaaDoorItoa
import Derived.Test.YtapiiklnnkkdlaaDoorOpen
/- xcref4.N: fresh, Term; Named, Each. Printed by a small program. -/
namespace Go.Proofs.YtapiiklnnkkdlaaDoor
open Go.RowKit
attribute [local simp] runD mkRc ldOf stOf stOk ldArg noAny dstOk guardOk opEff opEff0 effOp pureOp callOp zEff evA constAV scalAV Value.oneCell' frGet memGet startAS frOf isGoCall idIn AS.after nextR opnIds objIds AV.ids idsL AObj.ids frNo memNo opnAny isAny mkVal rdCells wrCells fldAddr idxAddr srcRows litRows toD1 toDs setAt sliceAV optI partAV bldAV fillAV binAV binI AV.cells callEff calleeOf frKill memKill AV.kill AObj.kill AV.has AV.hasL Op.operands Call.operands keepF keepM viewIds cChk renOf moGet moWs moQ cEff moLike moHave AV.ren renL AObj.ren AObj.like kept startC moMem AV.frz frz1 frzL frSub memSub frzs AS.frz frFrz memFrz AObj.frz takeMap takeLen bleF Nat.ble_eq memAny objAny mapOp D.keyOk rowAV valRow extOp wrapOp phO frLow memLow memLow1 objLow memEmpty Low LowL
set_option linter.unusedVariables false
set_option linter.unusedSimpArgs false
abbrev nObj (c : Int) : AObj := .blk 129 [.d (.int c)]
theorem vsz (e : Int) (h : inI e) : (vNm e).size ≤ 22 := by
  have := itoaB_size h
  show (⟨#[118]⟩ ++ itoaB e : ByteArray).size ≤ 22
  rw [ByteArray.size_append]
  have h1 : (⟨#[118]⟩ : ByteArray).size = 1 := rfl
  omega
set_option maxRecDepth 20000 in
set_option maxHeartbeats 16000000 in
theorem cs_fresh (ws : List ByteArray) (c : Int) (hw6 : ws.length ≤ 6) : CSpec Tryd.prog 117 [.ptr 1000 0, strsAV ws] [(1000, nObj c)] (.tuple [strsAV (freshL ws c), psAV (ws.zip (freshL ws c))]) [(1000, nObj (freshC ws c))] := by
  obtain ⟨US, hUS⟩ : ∃ US, US = freshL ws c := ⟨_, rfl⟩
  obtain ⟨PS, hPS⟩ : ∃ PS, PS = ws.zip US := ⟨_, rfl⟩
  obtain ⟨E, hE⟩ : ∃ E, E = freshC ws c := ⟨_, rfl⟩
  rw [← hUS, ← hPS, ← hE]
  refine CSpec.of Tryd.func117 rfl rfl (Nat.le_of_ble_eq_true rfl) ?_
  show AWp _ _ (endC _ Tryd.f117 _ _) (startC 43 _ _)
  refine AWp.rg [] [] ?_ (hr := by conv => lhs; simp [psR, lit118])
  refine AWp.rg [] [] ?_ (hr := by conv => lhs; simp [psR, lit118])
  refine AWp.rg [] [] ?_ (hr := by conv => lhs; simp [psR, lit118])
  refine AWp.rg [] [] ?_ (hr := by conv => lhs; simp [psR, lit118])
  repeat (first | refine AWp.seq ?_ | refine AWp.block ?_)
  refine AWp.le (Le.low [400, 401] [] (fr := [(0, .ptr 1000 0), (6, .arr 400 0 ([] : List ByteArray).length), (7, .arr 401 0 ([] : Ps).length), (11, .d (strsD ws)), (12, .d (.int (ws.length : Int))), (13, .d (.int (0 : Int)))]) (mem := [(400, some (.arr 9 1 (([] : List ByteArray).map strR))), (401, some (.arr 165 2 (([] : Ps).map psR))), (1000, some (.blk 129 [.d (.int (c : Int))]))]) rfl (by simp) (by simp)) ?_
  refine AWp.loop (σ := fun u : {u : Nat × List ByteArray × Ps × Int // u.1 ≤ ws.length ∧ (freshL ws c = u.2.1 ++ freshL (ws.drop u.1) u.2.2.2 ∧ freshC ws c = freshC (ws.drop u.1) u.2.2.2 ∧ u.2.1.length = u.1 ∧ u.2.2.1 = (ws.take u.1).zip u.2.1)} => ⟨43, [(0, .ptr 1000 0), (6, .arr 400 0 u.1.2.1.length), (7, .arr 401 0 u.1.2.2.1.length), (11, .d (strsD ws)), (12, .d (.int (ws.length : Int))), (13, .d (.int (u.1.1 : Int)))], [(400, some (.arr 9 1 (u.1.2.1.map strR))), (401, some (.arr 165 2 (u.1.2.2.1.map psR))), (1000, some (.blk 129 [.d (.int u.1.2.2.2)]))]⟩)
    (μ := fun u => ws.length - u.1.1) ⟨(0, [], [], c), ⟨Nat.zero_le _, ⟨by simp, by simp, rfl, by simp⟩⟩⟩ (Le.sub (by simp) (by simp)) (fun ⟨(i, us, ps, k), ⟨hi4, hw⟩⟩ => ?_)
  dsimp only at hi4 hw ⊢
  refine AWp.rg [] [] ?_ (hr := by conv => lhs; simp [psR, lit118])
  repeat (first | refine AWp.seq ?_ | refine AWp.block ?_)
  refine AWp.cond rfl (fun hc => ?_) (fun hc => ?_)
  · have hi1 : i < ws.length := by have := of_decide_eq_true hc; omega
    clear hc
    have h1x : ws[i]? = some ws[i] := List.getElem?_eq_getElem hi1
    have hmx : ws[i] ∈ ws := List.getElem_mem hi1
    have hdx : ws.drop i = ws[i] :: ws.drop (i + 1) := List.drop_eq_getElem_cons hi1
    generalize ws[i] = x at h1x hmx hdx
    obtain ⟨hfr, hfc, hul, hps⟩ := hw
    obtain ⟨e, he⟩ : ∃ e : Int, wr (k + 1) = e := ⟨_, rfl⟩
    have heI : inI e := by rw [← he]; exact wr_in _
    have hit := sp_Itoa e heI
    have hsz := itoaB_size heI
    have h1s : (⟨#[118]⟩ : ByteArray).size = 1 := rfl
    have hpl : ps.length = i := by rw [hps, List.length_zip, hul, List.length_take]; omega
    refine AWp.skip ?_
    refine AWp.rg [] [] ?_ (hr := by conv => lhs; simp [psR, lit118, h1x, he])
    refine AWp.rg [4] [] ?_ (hr := by conv => lhs; simp [psR, lit118, h1x, he])
    refine AWp.rg [] [.p (fun _ => .d (.str (itoaB e))) none] ?_ (hr := by conv => lhs; simp [psR, lit118, h1x, he])
    refine AWp.rg [] [] ?_ (hr := by conv => lhs; simp [psR, lit118, h1x, he])
    refine AWp.rg [] [] ?_ (hr := by conv => lhs; simp [psR, lit118, h1x, he])
    refine AWp.rg [] [] ?_ (hr := by conv => lhs; simp [psR, lit118, h1x, he])
    refine ⟨⟨(i + 1, us ++ [vNm e], ps ++ [(x, vNm e)], e), hi1, ⟨by rw [hfr, hdx, freshL, he]; simp, by rw [hfc, hdx, freshC, he], by simp [hul], by rw [hps, List.take_add_one, h1x, List.zip_append (by rw [List.length_take, hul]; omega)]; rfl⟩⟩, by simp; omega, ?_⟩
    dsimp only
    exact Le.sub (by simp [vNm, psR]) (by simp [vNm, psR])
  have hi1 : i = ws.length := by have := of_decide_eq_false hc; omega
  subst hi1
  clear hc
  obtain ⟨hfr, hfc, hul, hps⟩ := hw
  rw [List.drop_length, freshL, List.append_nil] at hfr
  rw [List.drop_length, freshC] at hfc
  rw [List.take_length] at hps
  obtain rfl : us = US := by rw [hUS, hfr]
  obtain rfl : ps = PS := by rw [hPS, hps]
  obtain rfl : k = E := by rw [hE, hfc]
  clear hfr hfc hps hPS hUS hE
  refine AWp.exit ?_
  refine AWp.rg [] [] ?_ (hr := by conv => lhs; simp [psR, lit118])
  refine AWp.ret ?_
  try dsimp only [thenQ, blockQ]
  apply endC.retF [400, 401]
  · rfl
  · conv => lhs; simp
  · conv => lhs; simp [resAV, Tryd.results117]
  · rfl
  · simp [moEnd, memGet]
theorem cs_fresh1 (s : ByteArray) (c : Int) : CSpec Tryd.prog 117 [.ptr 1000 0, .d (.sl [[.str s]])] [(1000, nObj c)] (.tuple [.d (.sl [[.str (vNm (wr (c + 1)))]]), .d (.sl [[.str s, .str (vNm (wr (c + 1)))]])]) [(1000, nObj (wr (c + 1)))] := by
  exact cs_fresh [s] c (by simp)
theorem nowP_snoc {ps : Ps} {i : Nat} {p : ByteArray × ByteArray} (h : ps[i]? = some p) (s : ByteArray) : nowP (ps.take (i + 1)) s = if p.1 = s then p.2 else nowP (ps.take i) s := by
  unfold nowP
  rw [List.take_add_one, h, List.foldl_append]
  rfl
def RnE (N : Nat) : Prop := ∀ (t : Tm) (ps : Ps) (c : Int), t.Rt N → t.Ok → ps.length + 6 * N ≤ 1000 →
  CSpec Tryd.prog 118 [.ptr 1000 0, tmAV t, psAV ps] [(1000, nObj c)] (tmAV (t.rn ps c).1) [(1000, nObj (t.rn ps c).2)]
set_option maxRecDepth 20000 in
set_option maxHeartbeats 16000000 in
theorem rn_step (N : Nat) (ih : RnE N) : RnE (N + 1) := by
  intro t ps c hRt hO hps
  obtain ⟨R, hR⟩ : ∃ R, R = t.rn ps c := ⟨_, rfl⟩
  rw [← hR]
  obtain ⟨tk, tn, ta, tb, tvs, txs, tcs⟩ := t
  obtain ⟨hkk, hmany, h6, hxR, hcR⟩ := hRt
  have hxO : ∀ x ∈ txs, x.Ok := fun x hx => Tm.Oks_iff.1 hO.2.2.1 x hx
  refine CSpec.of Tryd.func118 rfl rfl (Nat.le_of_ble_eq_true rfl) ?_
  show AWp _ _ (endC _ Tryd.f118 _ _) (startC 118 _ _)
  refine AWp.rg [] [] ?_ (hr := by conv => lhs; simp [Tm.row, Tm.rows_eq, Cs.rows_eq, psR])
  refine AWp.rg [] [] ?_ (hr := by conv => lhs; simp [Tm.row, Tm.rows_eq, Cs.rows_eq, psR])
  refine AWp.rg [] [] ?_ (hr := by conv => lhs; simp [Tm.row, Tm.rows_eq, Cs.rows_eq, psR])
  by_cases q1 : tk = 1
  · refine AWp.rg [] [] ?_ (hr := by conv => lhs; simp [Tm.row, Tm.rows_eq, Cs.rows_eq, psR, q1])
    refine AWp.cy ?_
    subst q1
    obtain rfl : R = (.mk 1 tn (nowP ps ta) tb tvs [] [], c) := by rw [hR, Tm.rn, if_pos rfl]
    refine AWp.rg [] [] ?_ (hr := by conv => lhs; simp [Tm.row, Tm.rows_eq, Cs.rows_eq, psR])
    repeat (first | refine AWp.seq ?_ | refine AWp.block ?_)
    refine AWp.loop (σ := fun u : {u : Nat // u ≤ ps.length} => ⟨118, [(4, .ptr 4 0), (6, .ptr 6 0), (7, .ptr 7 0), (25, .d (.sl (ps.map psR))), (26, .d (.int (ps.length : Int))), (27, .d (.int (u.1 : Int)))], [(4, some (.blk 34 [.d (.int 1), .d (.int tn), .d (.str ta), .d (.str tb), .d (strsD tvs), .d (.sl (txs.map Tm.row)), .d (.sl (tcs.map Cs.row))])), (6, some (.blk 34 [.d (.int 0), .d (.int 0), .d (.str ByteArray.empty), .d (.str ByteArray.empty), .lit (.slice none 0 0), .lit (.slice none 0 0), .lit (.slice none 0 0)])), (7, some (.blk 34 [.d (.int 1), .d (.int tn), .d (.str (nowP (ps.take u.1) ta)), .d (.str tb), .d (strsD tvs), .lit (.slice none 0 0), .lit (.slice none 0 0)])), (1000, some (.blk 129 [.d (.int c)]))]⟩)
      (μ := fun u => ps.length - u.1) ⟨0, Nat.zero_le _⟩ (Le.sub (by simp [nowP]) (by simp [nowP])) (fun ⟨i, hi5⟩ => ?_)
    dsimp only
    refine AWp.rg [] [] ?_ (hr := by conv => lhs; simp [Tm.row, Tm.rows_eq, Cs.rows_eq, psR])
    repeat (first | refine AWp.seq ?_ | refine AWp.block ?_)
    refine AWp.cond rfl (fun hc => ?_) (fun hc => ?_)
    · have hi1 : i < ps.length := by have := of_decide_eq_true hc; omega
      clear hc
      have h1p : ps[i]? = some ps[i] := List.getElem?_eq_getElem hi1
      have hmp : ps[i] ∈ ps := List.getElem_mem hi1
      have hdp : ps.drop i = ps[i] :: ps.drop (i + 1) := List.drop_eq_getElem_cons hi1
      generalize ps[i] = p at h1p hmp hdp
      have hsn := nowP_snoc h1p ta
      generalize nowP (ps.take i) ta = nw at hsn ⊢
      obtain ⟨pf, pg⟩ := p
      refine AWp.skip ?_
      refine AWp.rg [] [] ?_ (hr := by conv => lhs; simp [Tm.row, Tm.rows_eq, Cs.rows_eq, psR, h1p])
      by_cases q2 : pf = ta
      · refine AWp.rg [] [] ?_ (hr := by conv => lhs; simp [Tm.row, Tm.rows_eq, Cs.rows_eq, psR, h1p, q2])
        refine AWp.cy ?_
        refine AWp.rg [] [] ?_ (hr := by conv => lhs; simp [Tm.row, Tm.rows_eq, Cs.rows_eq, psR, h1p, q2])
        refine AWp.rg [] [] ?_ (hr := by conv => lhs; simp [Tm.row, Tm.rows_eq, Cs.rows_eq, psR, h1p, q2])
        refine ⟨⟨i + 1, hi1⟩, by simp; omega, ?_⟩
        dsimp only
        rw [if_pos (by assumption)] at hsn
        rw [hsn]
        exact Le.sub (by simp) (by simp)
      refine AWp.rg [] [] ?_ (hr := by conv => lhs; simp [Tm.row, Tm.rows_eq, Cs.rows_eq, psR, h1p, q2])
      refine AWp.cn ?_
      refine AWp.skip ?_
      refine AWp.rg [] [] ?_ (hr := by conv => lhs; simp [Tm.row, Tm.rows_eq, Cs.rows_eq, psR, h1p, q2])
      refine ⟨⟨i + 1, hi1⟩, by simp; omega, ?_⟩
      dsimp only
      rw [if_neg (by assumption)] at hsn
      rw [hsn]
      exact Le.sub (by simp) (by simp)
    have hi1 : i = ps.length := by have := of_decide_eq_false hc; omega
    subst hi1
    clear hc
    rw [List.take_length]
    refine AWp.exit ?_
    refine AWp.rg [] [] ?_ (hr := by conv => lhs; simp [Tm.row, Tm.rows_eq, Cs.rows_eq, psR])
    refine AWp.ret ?_
    try dsimp only [thenQ, blockQ]
    apply endC.ret
    · rfl
    · conv => lhs; simp [resAV, Tryd.results118]
    · rfl
    · simp [moEnd, memGet]
  refine AWp.rg [] [] ?_ (hr := by conv => lhs; simp [Tm.row, Tm.rows_eq, Cs.rows_eq, psR, q1])
  refine AWp.cn ?_
  refine AWp.skip ?_
  rw [Tm.rn, if_neg q1] at hR
  refine AWp.rg [] [] ?_ (hr := by conv => lhs; simp [Tm.row, Tm.rows_eq, Cs.rows_eq, psR, q1])
  repeat (first | refine AWp.seq ?_ | refine AWp.block ?_)
  refine AWp.le (Le.low [400] [] (fr := [(0, .ptr 1000 0), (2, .d (.sl (ps.map psR))), (4, .ptr 4 0), (6, .ptr 6 0), (7, .ptr 7 0), (42, .d (.sl (txs.map Tm.row))), (43, .d (.int (txs.length : Int))), (44, .d (.int (0 : Int)))]) (mem := [(4, some (.blk 34 [.d (.int tk), .d (.int tn), .d (.str ta), .d (.str tb), .d (strsD tvs), .d (.sl (txs.map Tm.row)), .d (.sl (tcs.map Cs.row))])), (6, some (.blk 34 [.d (.int 0), .d (.int 0), .d (.str ByteArray.empty), .d (.str ByteArray.empty), .lit (.slice none 0 0), .lit (.slice none 0 0), .lit (.slice none 0 0)])), (7, some (.blk 34 [.d (.int tk), .d (.int tn), .d (.str (ta : ByteArray)), .d (.str tb), .d (strsD tvs), .arr 400 0 ([] : List Tm).length, .lit (.slice none 0 0)])), (400, some (.arr 34 7 (([] : List Tm).map Tm.row))), (1000, some (.blk 129 [.d (.int (c : Int))]))]) rfl (by simp) (by simp)) ?_
  refine AWp.loop (σ := fun u : {u : Nat × List Tm × ByteArray × Int // u.1 ≤ txs.length ∧ (Tm.rns tk ta ps 0 txs ta c = (u.2.1 ++ (Tm.rns tk ta ps u.1 (txs.drop u.1) u.2.2.1 u.2.2.2).1, (Tm.rns tk ta ps u.1 (txs.drop u.1) u.2.2.1 u.2.2.2).2) ∧ u.2.1.length = u.1)} => ⟨118, [(0, .ptr 1000 0), (2, .d (.sl (ps.map psR))), (4, .ptr 4 0), (6, .ptr 6 0), (7, .ptr 7 0), (42, .d (.sl (txs.map Tm.row))), (43, .d (.int (txs.length : Int))), (44, .d (.int (u.1.1 : Int)))], [(4, some (.blk 34 [.d (.int tk), .d (.int tn), .d (.str ta), .d (.str tb), .d (strsD tvs), .d (.sl (txs.map Tm.row)), .d (.sl (tcs.map Cs.row))])), (6, some (.blk 34 [.d (.int 0), .d (.int 0), .d (.str ByteArray.empty), .d (.str ByteArray.empty), .lit (.slice none 0 0), .lit (.slice none 0 0), .lit (.slice none 0 0)])), (7, some (.blk 34 [.d (.int tk), .d (.int tn), .d (.str u.1.2.2.1), .d (.str tb), .d (strsD tvs), .arr 400 0 u.1.2.1.length, .lit (.slice none 0 0)])), (400, some (.arr 34 7 (u.1.2.1.map Tm.row))), (1000, some (.blk 129 [.d (.int u.1.2.2.2)]))]⟩)
    (μ := fun u => txs.length - u.1.1) ⟨(0, [], ta, c), ⟨Nat.zero_le _, ⟨by simp, rfl⟩⟩⟩ (Le.sub (by simp) (by simp)) (fun ⟨(i, ys, nm, c1), ⟨hi12, hw⟩⟩ => ?_)
  dsimp only at hi12 hw ⊢
  refine AWp.rg [] [] ?_ (hr := by conv => lhs; simp [Tm.row, Tm.rows_eq, Cs.rows_eq, psR, q1])
  repeat (first | refine AWp.seq ?_ | refine AWp.block ?_)
  refine AWp.cond rfl (fun hc => ?_) (fun hc => ?_)
  · have hi1 : i < txs.length := by have := of_decide_eq_true hc; omega
    clear hc
    have h1y : txs[i]? = some txs[i] := List.getElem?_eq_getElem hi1
    have hmy : txs[i] ∈ txs := List.getElem_mem hi1
    have hdy : txs.drop i = txs[i] :: txs.drop (i + 1) := List.drop_eq_getElem_cons hi1
    generalize txs[i] = y at h1y hmy hdy
    obtain ⟨hap, hyl⟩ := hw
    have hyR := hxR y hmy
    rw [hdy] at hap
    refine AWp.skip ?_
    by_cases hk6 : tk = 6
    · by_cases hi1e : (i : Int) = 1
      · have hi1t := eq_true hi1e
        rw [Tm.rns, if_pos ⟨hk6, by omega⟩] at hap
        obtain ⟨e, he⟩ : ∃ e : Int, e = wr (c1 + 1) := ⟨_, rfl⟩
        rw [← he] at hap
        have hfr := cs_fresh1 ta c1
        rw [← he] at hfr
        obtain ⟨v, hv⟩ : ∃ v, v = vNm e := ⟨_, rfl⟩
        rw [← hv] at hfr hap
        obtain ⟨nw, hnw⟩ : ∃ nw, nw = ps ++ [(ta, v)] := ⟨_, rfl⟩
        rw [← hnw] at hap
        have hnw2 : List.take (ps.length + 1) (List.map psR ps ++ [[D.str ta, D.str v]]) = List.map psR nw := by rw [hnw, List.map_append, List.take_of_length_le (by simp)]; rfl
        have hx := ih y nw e hyR (hxO y hmy) (by rw [hnw, List.length_append, List.length_singleton]; omega)
        generalize y.rn nw e = o at hx hap
        obtain ⟨z, c2⟩ := o
        dsimp only at hx hap
        obtain ⟨yk, yn, ya, yb, yvs, yxs, ycs⟩ := y
        obtain ⟨zk, zn, za, zb, zvs, zxs, zcs⟩ := z
        refine AWp.rg [] [] ?_ (hr := by conv => lhs; simp [Tm.row, Tm.rows_eq, Cs.rows_eq, psR, h1y, hnw2, q1, hk6, hi1t])
        refine AWp.rg [] [] ?_ (hr := by conv => lhs; simp [Tm.row, Tm.rows_eq, Cs.rows_eq, psR, h1y, hnw2, q1, hk6, hi1t])
        refine AWp.rg [] [] ?_ (hr := by conv => lhs; simp [Tm.row, Tm.rows_eq, Cs.rows_eq, psR, h1y, hnw2, q1, hk6, hi1t])
        refine AWp.cy ?_
        refine AWp.rg [3] [.c [] [.ptr 1000 0, .d (.sl [[.str ta]])] [(1000, .blk 129 [.d (.int c1)])] (.tuple [.d (.sl [[.str v]]), .d (.sl [[.str ta, .str v]])]) [(1000, .blk 129 [.d (.int e)])]] ?_ (hr := by conv => lhs; simp [Tm.row, Tm.rows_eq, Cs.rows_eq, psR, h1y, hnw2, q1, hk6, hi1t])
        refine AWp.rg [] [] ?_ (hr := by conv => lhs; simp [Tm.row, Tm.rows_eq, Cs.rows_eq, psR, h1y, hnw2, q1, hk6, hi1t])
        refine AWp.rg [4] [] ?_ (hr := by conv => lhs; simp [Tm.row, Tm.rows_eq, Cs.rows_eq, psR, h1y, hnw2, q1, hk6, hi1t])
        refine AWp.dw [] [.c [] [.ptr 1000 0, .agg [.d (.int yk), .d (.int yn), .d (.str ya), .d (.str yb), .d (strsD yvs), .d (.sl (yxs.map Tm.row)), .d (.sl (ycs.map Cs.row))], .d (.sl (nw.map psR))] [(1000, .blk 129 [.d (.int e)])] (.agg [.d (.int zk), .d (.int zn), .d (.str za), .d (.str zb), .d (strsD zvs), .d (.sl (zxs.map Tm.row)), .d (.sl (zcs.map Cs.row))]) [(1000, .blk 129 [.d (.int c2)])]] mixed ?_ (hr := by conv => lhs; simp [Tm.row, Tm.rows_eq, Cs.rows_eq, psR, h1y, hnw2, q1, hk6, hi1t])
        refine AWp.rg [] [] ?_ (hr := by conv => lhs; simp [Tm.row, Tm.rows_eq, Cs.rows_eq, psR, h1y, hnw2, q1, hk6, hi1t])
        refine ⟨⟨(i + 1, ys ++ [.mk zk zn za zb zvs zxs zcs], v, c2), hi1, ⟨by rw [hap]; simp, by simp [hyl]⟩⟩, by simp; omega, ?_⟩
        dsimp only
        exact Le.sub (by simp [Tm.row, Tm.rows_eq, Cs.rows_eq, hyl, hk6]) (by simp [Tm.row, Tm.rows_eq, Cs.rows_eq, hyl, hk6])
      have hi1n := hi1e
      rw [Tm.rns, if_neg (fun h => hi1e (by have := h.2; omega))] at hap
      have hx := ih y ps c1 hyR (hxO y hmy) (by omega)
      generalize y.rn ps c1 = o at hx hap
      obtain ⟨z, c2⟩ := o
      dsimp only at hx hap
      obtain ⟨yk, yn, ya, yb, yvs, yxs, ycs⟩ := y
      obtain ⟨zk, zn, za, zb, zvs, zxs, zcs⟩ := z
      refine AWp.rg [] [] ?_ (hr := by conv => lhs; simp [Tm.row, Tm.rows_eq, Cs.rows_eq, psR, h1y, q1, hk6, hi1n])
      refine AWp.rg [] [] ?_ (hr := by conv => lhs; simp [Tm.row, Tm.rows_eq, Cs.rows_eq, psR, h1y, q1, hk6, hi1n])
      refine AWp.rg [] [] ?_ (hr := by conv => lhs; simp [Tm.row, Tm.rows_eq, Cs.rows_eq, psR, h1y, q1, hk6, hi1n])
      refine AWp.cn ?_
      refine AWp.skip ?_
      refine AWp.dw [] [.c [] [.ptr 1000 0, .agg [.d (.int yk), .d (.int yn), .d (.str ya), .d (.str yb), .d (strsD yvs), .d (.sl (yxs.map Tm.row)), .d (.sl (ycs.map Cs.row))], .d (.sl (ps.map psR))] [(1000, .blk 129 [.d (.int c1)])] (.agg [.d (.int zk), .d (.int zn), .d (.str za), .d (.str zb), .d (strsD zvs), .d (.sl (zxs.map Tm.row)), .d (.sl (zcs.map Cs.row))]) [(1000, .blk 129 [.d (.int c2)])]] mixed ?_ (hr := by conv => lhs; simp [Tm.row, Tm.rows_eq, Cs.rows_eq, psR, h1y, q1, hk6, hi1n])
      refine AWp.rg [] [] ?_ (hr := by conv => lhs; simp [Tm.row, Tm.rows_eq, Cs.rows_eq, psR, h1y, q1, hk6, hi1n])
      refine ⟨⟨(i + 1, ys ++ [.mk zk zn za zb zvs zxs zcs], nm, c2), hi1, ⟨by rw [hap]; simp, by simp [hyl]⟩⟩, by simp; omega, ?_⟩
      dsimp only
      exact Le.sub (by simp [Tm.row, Tm.rows_eq, Cs.rows_eq, hyl, hk6]) (by simp [Tm.row, Tm.rows_eq, Cs.rows_eq, hyl, hk6])
    rw [Tm.rns, if_neg (fun h => hk6 h.1)] at hap
    have hx := ih y ps c1 hyR (hxO y hmy) (by omega)
    generalize y.rn ps c1 = o at hx hap
    obtain ⟨z, c2⟩ := o
    dsimp only at hx hap
    obtain ⟨yk, yn, ya, yb, yvs, yxs, ycs⟩ := y
    obtain ⟨zk, zn, za, zb, zvs, zxs, zcs⟩ := z
    refine AWp.rg [] [] ?_ (hr := by conv => lhs; simp [Tm.row, Tm.rows_eq, Cs.rows_eq, psR, h1y, q1, hk6])
    refine AWp.rg [] [] ?_ (hr := by conv => lhs; simp [Tm.row, Tm.rows_eq, Cs.rows_eq, psR, h1y, q1, hk6])
    refine AWp.rg [] [] ?_ (hr := by conv => lhs; simp [Tm.row, Tm.rows_eq, Cs.rows_eq, psR, h1y, q1, hk6])
    refine AWp.cn ?_
    refine AWp.skip ?_
    refine AWp.dw [] [.c [] [.ptr 1000 0, .agg [.d (.int yk), .d (.int yn), .d (.str ya), .d (.str yb), .d (strsD yvs), .d (.sl (yxs.map Tm.row)), .d (.sl (ycs.map Cs.row))], .d (.sl (ps.map psR))] [(1000, .blk 129 [.d (.int c1)])] (.agg [.d (.int zk), .d (.int zn), .d (.str za), .d (.str zb), .d (strsD zvs), .d (.sl (zxs.map Tm.row)), .d (.sl (zcs.map Cs.row))]) [(1000, .blk 129 [.d (.int c2)])]] mixed ?_ (hr := by conv => lhs; simp [Tm.row, Tm.rows_eq, Cs.rows_eq, psR, h1y, q1, hk6])
    refine AWp.rg [] [] ?_ (hr := by conv => lhs; simp [Tm.row, Tm.rows_eq, Cs.rows_eq, psR, h1y, q1, hk6])
    refine ⟨⟨(i + 1, ys ++ [.mk zk zn za zb zvs zxs zcs], nm, c2), hi1, ⟨by rw [hap]; simp, by simp [hyl]⟩⟩, by simp; omega, ?_⟩
    dsimp only
    exact Le.sub (by simp [Tm.row, Tm.rows_eq, Cs.rows_eq, hyl]) (by simp [Tm.row, Tm.rows_eq, Cs.rows_eq, hyl])
  have hi1 : i = txs.length := by have := of_decide_eq_false hc; omega
  subst hi1
  clear hc
  obtain ⟨hap, hyl⟩ := hw
  rw [List.drop_length, Tm.rns] at hap
  simp only [List.append_nil] at hap
  rw [hap] at hR
  dsimp only at hR
  clear hap
  refine AWp.exit ?_
  refine AWp.rg [] [] ?_ (hr := by conv => lhs; simp [Tm.row, Tm.rows_eq, Cs.rows_eq, psR, q1])
  repeat (first | refine AWp.seq ?_ | refine AWp.block ?_)
  refine AWp.le (Le.low [401] [] (fr := [(0, .ptr 1000 0), (2, .d (.sl (ps.map psR))), (6, .ptr 6 0), (7, .ptr 7 0), (85, .d (.sl (tcs.map Cs.row))), (86, .d (.int (tcs.length : Int))), (87, .d (.int (0 : Int)))]) (mem := [(6, some (.blk 34 [.d (.int 0), .d (.int 0), .d (.str ByteArray.empty), .d (.str ByteArray.empty), .lit (.slice none 0 0), .lit (.slice none 0 0), .lit (.slice none 0 0)])), (7, some (.blk 34 [.d (.int tk), .d (.int tn), .d (.str nm), .d (.str tb), .d (strsD tvs), .arr 400 0 ys.length, .arr 401 0 ([] : List Cs).length])), (400, some (.arr 34 7 (ys.map Tm.row))), (401, some (.arr 40 9 (([] : List Cs).map Cs.row))), (1000, some (.blk 129 [.d (.int (c1 : Int))]))]) rfl (by simp) (by simp)) ?_
  refine AWp.loop (σ := fun u : {u : Nat × List Cs × Int // u.1 ≤ tcs.length ∧ (Cs.rnL tcs ps c1 = (u.2.1 ++ (Cs.rnL (tcs.drop u.1) ps u.2.2).1, (Cs.rnL (tcs.drop u.1) ps u.2.2).2) ∧ u.2.1.length = u.1)} => ⟨118, [(0, .ptr 1000 0), (2, .d (.sl (ps.map psR))), (6, .ptr 6 0), (7, .ptr 7 0), (85, .d (.sl (tcs.map Cs.row))), (86, .d (.int (tcs.length : Int))), (87, .d (.int (u.1.1 : Int)))], [(6, some (.blk 34 [.d (.int 0), .d (.int 0), .d (.str ByteArray.empty), .d (.str ByteArray.empty), .lit (.slice none 0 0), .lit (.slice none 0 0), .lit (.slice none 0 0)])), (7, some (.blk 34 [.d (.int tk), .d (.int tn), .d (.str nm), .d (.str tb), .d (strsD tvs), .arr 400 0 ys.length, .arr 401 0 u.1.2.1.length])), (400, some (.arr 34 7 (ys.map Tm.row))), (401, some (.arr 40 9 (u.1.2.1.map Cs.row))), (1000, some (.blk 129 [.d (.int u.1.2.2)]))]⟩)
    (μ := fun u => tcs.length - u.1.1) ⟨(0, [], c1), ⟨Nat.zero_le _, ⟨by simp, rfl⟩⟩⟩ (Le.sub (by simp) (by simp)) (fun ⟨(i, ds, c3), ⟨hi22, hw2⟩⟩ => ?_)
  dsimp only at hi22 hw2 ⊢
  refine AWp.rg [] [] ?_ (hr := by conv => lhs; simp [Tm.row, Tm.rows_eq, Cs.rows_eq, psR, q1])
  repeat (first | refine AWp.seq ?_ | refine AWp.block ?_)
  refine AWp.cond rfl (fun hc => ?_) (fun hc => ?_)
  · have hi1 : i < tcs.length := by have := of_decide_eq_true hc; omega
    clear hc
    have h1d : tcs[i]? = some tcs[i] := List.getElem?_eq_getElem hi1
    have hmd : tcs[i] ∈ tcs := List.getElem_mem hi1
    have hdd : tcs.drop i = tcs[i] :: tcs.drop (i + 1) := List.drop_eq_getElem_cons hi1
    generalize tcs[i] = d at h1d hmd hdd
    obtain ⟨hap, hdl⟩ := hw2
    rw [hdd, Cs.rnL] at hap
    have hdR := hcR d hmd
    obtain ⟨dt, dws, y⟩ := d
    obtain ⟨hw6, hyR⟩ := hdR
    dsimp only at hw6 hyR
    rw [Cs.rn] at hap
    have hfr := cs_fresh dws c3 hw6
    obtain ⟨e, he⟩ : ∃ e : Int, e = freshC dws c3 := ⟨_, rfl⟩
    rw [← he] at hfr hap
    have hul := freshL_len dws c3
    generalize freshL dws c3 = us at hfr hap hul
    have hpxl : (dws.zip us).length = dws.length := by rw [List.length_zip]; omega
    generalize dws.zip us = PX at hfr hap hpxl
    obtain ⟨nw, hnw⟩ : ∃ nw, nw = ps ++ PX := ⟨_, rfl⟩
    rw [← hnw] at hap
    have hnw2 : List.take (ps.length + PX.length) (List.map psR ps ++ List.map psR PX) = List.map psR nw := by rw [hnw, List.map_append, List.take_of_length_le (by simp)]
    have hx := ih y nw e hyR (Cs.Oks_iff.1 hO.2.2.2 _ hmd).2.2 (by rw [hnw, List.length_append]; omega)
    generalize y.rn nw e = o at hx hap
    obtain ⟨z, c2⟩ := o
    dsimp only at hx hap
    obtain ⟨dk, dn, da, db, dvs, dxs, dcs⟩ := y
    obtain ⟨zk, zn, za, zb, zvs, zxs, zcs⟩ := z
    refine AWp.skip ?_
    refine AWp.rg [] [] ?_ (hr := by conv => lhs; simp [Tm.row, Tm.rows_eq, Cs.rows_eq, psR, h1d, Cs.row, hnw2, q1])
    refine AWp.rg [] [.c [] [.ptr 1000 0, .d (strsD dws)] [(1000, .blk 129 [.d (.int c3)])] (.tuple [.d (strsD us), .d (.sl (PX.map psR))]) [(1000, .blk 129 [.d (.int e)])]] ?_ (hr := by conv => lhs; simp [Tm.row, Tm.rows_eq, Cs.rows_eq, psR, h1d, Cs.row, hnw2, q1])
    refine AWp.dw [12] [.c [] [.ptr 1000 0, .agg [.d (.int dk), .d (.int dn), .d (.str da), .d (.str db), .d (strsD dvs), .d (.sl (dxs.map Tm.row)), .d (.sl (dcs.map Cs.row))], .d (.sl (nw.map psR))] [(1000, .blk 129 [.d (.int e)])] (.agg [.d (.int zk), .d (.int zn), .d (.str za), .d (.str zb), .d (strsD zvs), .d (.sl (zxs.map Tm.row)), .d (.sl (zcs.map Cs.row))]) [(1000, .blk 129 [.d (.int c2)])]] mixed ?_ (hr := by conv => lhs; simp [Tm.row, Tm.rows_eq, Cs.rows_eq, psR, h1d, Cs.row, hnw2, q1])
    refine AWp.rg [] [] ?_ (hr := by conv => lhs; simp [Tm.row, Tm.rows_eq, Cs.rows_eq, psR, h1d, Cs.row, hnw2, q1])
    refine ⟨⟨(i + 1, ds ++ [.mk dt us (.mk zk zn za zb zvs zxs zcs)], c2), hi1, ⟨by rw [hap]; simp, by simp [hdl]⟩⟩, by simp; omega, ?_⟩
    dsimp only
    exact Le.sub (by simp [Cs.row, Tm.row, Tm.rows_eq, Cs.rows_eq, hdl]) (by simp [Cs.row, Tm.row, Tm.rows_eq, Cs.rows_eq, hdl])
  have hi1 : i = tcs.length := by have := of_decide_eq_false hc; omega
  subst hi1
  clear hc
  obtain ⟨hap, hdl⟩ := hw2
  rw [List.drop_length, Cs.rnL] at hap
  simp only [List.append_nil] at hap
  rw [hap] at hR
  dsimp only at hR
  subst hR
  refine AWp.exit ?_
  refine AWp.rg [] [] ?_ (hr := by conv => lhs; simp [Tm.row, Tm.rows_eq, Cs.rows_eq, psR, q1])
  refine AWp.ret ?_
  try dsimp only [thenQ, blockQ]
  apply endC.retF [400, 401]
  · rfl
  · conv => lhs; simp
  · conv => lhs; simp [resAV, Tryd.results118]
  · rfl
  · simp [moEnd, memGet]
theorem rn_all : ∀ N, RnE N
  | 0 => fun _ _ _ h => h.elim
  | N + 1 => rn_step N (rn_all N)

set_option maxRecDepth 20000 in
set_option maxHeartbeats 16000000 in
theorem sp_in (l o : List ByteArray) (hl : l.length ≤ 8796093022207) (ho : o.length ≤ 8796093022208) : PSpec Tryd.prog 79 [strsAV l, strsAV o] (fun d => .arr d 0 (inN l o).length) (some (.arr 9 1 ((inN l o).map strR))) := by
  refine PSpec.ofArrX Tryd.func79 rfl rfl _ (Nat.le_of_ble_eq_true rfl) (fun d => by simp [AV.has, AV.hasL]) ?_
  show AWp _ _ (endX _ Tryd.f79 _ _) (startAS 23 _)
  refine AWp.rg [] [] ?_
  refine AWp.rg [] [] ?_
  refine AWp.rg [] [] ?_
  repeat (first | refine AWp.seq ?_ | refine AWp.block ?_)
  refine AWp.le (Le.low [400] [] (fr := [(1, .d (strsD o)), (5, .arr 400 0 ([] : List ByteArray).length), (8, .d (strsD l)), (9, .d (.int (l.length : Int))), (10, .d (.int (0 : Int)))]) (mem := [(400, some (.arr 9 1 (([] : List ByteArray).map strR)))]) rfl (by simp) (by simp)) ?_
  refine AWp.loop (σ := fun u : {u : Nat × List ByteArray // u.1 ≤ l.length ∧ u.2 = inN (l.take u.1) o} => ⟨23, [(1, .d (strsD o)), (5, .arr 400 0 u.1.2.length), (8, .d (strsD l)), (9, .d (.int (l.length : Int))), (10, .d (.int (u.1.1 : Int)))], [(400, some (.arr 9 1 (u.1.2.map strR)))]⟩)
    (μ := fun u => l.length - u.1.1) ⟨(0, []), ⟨Nat.zero_le _, by simp [inN]⟩⟩ (Le.sub (by simp) (by simp)) (fun ⟨(i, us), ⟨hi3, hw⟩⟩ => ?_)
  dsimp only at hi3 hw ⊢
  refine AWp.rg [] [] ?_
  repeat (first | refine AWp.seq ?_ | refine AWp.block ?_)
  refine AWp.cond rfl (fun hc => ?_) (fun hc => ?_)
  · have hi1 : i < l.length := by have := of_decide_eq_true hc; omega
    clear hc
    have h1x : l[i]? = some l[i] := List.getElem?_eq_getElem hi1
    have hmx : l[i] ∈ l := List.getElem_mem hi1
    have hdx : l.drop i = l[i] :: l.drop (i + 1) := List.drop_eq_getElem_cons hi1
    generalize l[i] = x at h1x hmx hdx
    have hul : us.length ≤ i := by have := inN_len (l.take i) o; rw [hw]; rw [List.length_take] at this; omega
    have hsn := inN_snoc o h1x
    rw [← hw] at hsn
    have hc := sp_Contains o x ho
    generalize hasB o x = q at hc hsn
    refine AWp.skip ?_
    refine AWp.rg [] [] ?_ (hr := by conv => lhs; simp [h1x])
    cases q with
    | true =>
      refine AWp.rg [] [.p (fun _ => .d (.bool true)) none] ?_ (hr := by conv => lhs; simp [h1x])
      refine AWp.cy ?_
      refine AWp.rg [] [] ?_ (hr := by conv => lhs; simp [h1x])
      refine AWp.rg [] [] ?_ (hr := by conv => lhs; simp [h1x])
      refine ⟨⟨(i + 1, us ++ [x]), hi1, by rw [hsn]; rfl⟩, by simp; omega, ?_⟩
      dsimp only
      exact Le.sub (by simp) (by simp)
    | false =>
      refine AWp.rg [] [.p (fun _ => .d (.bool false)) none] ?_ (hr := by conv => lhs; simp [h1x])
      refine AWp.cn ?_
      refine AWp.skip ?_
      refine AWp.rg [] [] ?_ (hr := by conv => lhs; simp [h1x])
      refine ⟨⟨(i + 1, us), hi1, by rw [hsn]; rfl⟩, by simp; omega, ?_⟩
      dsimp only
      exact Le.sub (by simp) (by simp)
  have hi1 : i = l.length := by have := of_decide_eq_false hc; omega
  subst hi1
  clear hc
  rw [List.take_length] at hw
  subst hw
  refine AWp.exit ?_
  refine AWp.rg [] [] ?_
  refine AWp.ret ?_
  try dsimp only [thenQ, blockQ]
  apply endX.ret 400
  · conv => lhs; simp [resAV, Tryd.results79]
  · rfl
  · rfl
  · rfl
theorem cs_out1 (gone : List ByteArray) (s : ByteArray) (hg : gone.length ≤ 8796093022208) : CSpec Tryd.prog 124 [.d (.str s), .ptr 1000 0] [(1000, .blk 30 [.d (strsD gone)])] (.d (.bool (hasB gone s))) [(1000, .blk 30 [.d (strsD gone)])] := by
  have hc := sp_Contains gone s hg
  refine CSpec.of Tryd.func124 rfl rfl (Nat.le_of_ble_eq_true rfl) ?_
  show AWp _ _ (endC _ Tryd.f124 _ _) (startC 7 _ _)
  repeat (first | refine AWp.seq ?_ | refine AWp.block ?_)
  apply AWp.reg [] []
  · conv => lhs; simp
  · trivial
  repeat (first | refine AWp.seq ?_ | refine AWp.block ?_)
  apply AWp.reg [] [.p (fun _ => .d (.bool (hasB gone s))) none]
  · conv => lhs; simp
  · exact hc
  refine AWp.ret ?_
  try dsimp only [thenQ, blockQ]
  apply endC.ret
  · rfl
  · conv => lhs; simp [resAV, Tryd.results124]
  · rfl
  · simp [moEnd, memGet]
set_option maxHeartbeats 2000000 in
theorem sp_out (l gone : List ByteArray) (hl : l.length ≤ 8796093022207) (hg : gone.length ≤ 8796093022208) : PSpec Tryd.prog 78 [strsAV l, strsAV gone] (fun _ => strsAV (woN l gone)) none := by
  have hcl := sp_Clone l (by omega)
  have hdf := cs_DeleteFunc l (by omega) (hasB gone) 124 30 (strsD gone) (fun s _ => cs_out1 gone s hg)
  obtain ⟨n, hn⟩ : ∃ n, n = (l.filter fun s => !hasB gone s).length := ⟨_, rfl⟩
  obtain ⟨R, hR⟩ : ∃ R, R = delRows l (hasB gone) := ⟨_, rfl⟩
  have hRn : R.take n = (woN l gone).map strR := by
    rw [hR, hn, delRows, List.take_append_of_le_length (by simp), List.take_of_length_le (by simp), woN]
  have hRl : l.length ≤ R.length := by
    have := List.length_filter_le (fun s => !hasB gone s) l
    rw [hR, delRows]; simp; omega
  rw [← hn, ← hR] at hdf
  refine PSpec.of Tryd.func78 rfl rfl rfl (Nat.le_of_ble_eq_true rfl) ?_
  show AWp _ _ (endQ _ Tryd.f78 _ _ _) (startAS 9 _)
  repeat (first | refine AWp.seq ?_ | refine AWp.block ?_)
  apply AWp.reg [] []
  · conv => lhs; simp
  · trivial
  repeat (first | refine AWp.seq ?_ | refine AWp.block ?_)
  apply AWp.reg [] [.p (fun d => .arr d 0 l.length) (some (.arr 9 1 (l.map strR))), .c [(1000, 3), (1001, 6)] [.arr 1001 0 l.length, .clo 124 [.ptr 1000 0]] [(1000, .blk 30 [.d (strsD gone)]), (1001, .arr 9 1 (l.map strR))] (.arr 1001 0 n) [(1000, .blk 30 [.d (strsD gone)]), (1001, .arr 9 1 R)]]
  · conv => lhs; simp
  · exact ⟨hcl, hdf, hRl⟩
  refine AWp.ret ?_
  try dsimp only [thenQ, blockQ]
  apply endQ.retF [6]
  · rfl
  · conv => lhs; simp
  · conv => lhs; simp [resAV, Tryd.results78]
  simp [resVal, AV.nilD, hRn]
set_option maxRecDepth 20000 in
set_option maxHeartbeats 16000000 in
theorem sp_more (l : List Tm) (hl : l.length ≤ 1048576) : PSpec Tryd.prog 81 [.d (.sl (l.map Tm.row))] (fun _ => strsAV (moreN [] l)) none := by
  refine PSpec.of Tryd.func81 rfl rfl rfl (Nat.le_of_ble_eq_true rfl) ?_
  show AWp _ _ (endQ _ Tryd.f81 _ _ _) (startAS 29 _)
  refine AWp.rg [] [] ?_ (hr := by conv => lhs; simp [Tm.row, Tm.rows_eq, Cs.rows_eq])
  refine AWp.rg [] [] ?_ (hr := by conv => lhs; simp [Tm.row, Tm.rows_eq, Cs.rows_eq])
  refine AWp.rg [] [] ?_ (hr := by conv => lhs; simp [Tm.row, Tm.rows_eq, Cs.rows_eq])
  repeat (first | refine AWp.seq ?_ | refine AWp.block ?_)
  refine AWp.le (Le.low [400, 401] [] (fr := [(3, .arr 400 0 ([] : List ByteArray).length), (4, .arr 401 0 ([] : List ByteArray).length), (7, .d (.sl (l.map Tm.row))), (8, .d (.int (l.length : Int))), (9, .d (.int (0 : Int)))]) (mem := [(400, some (.arr 9 1 (([] : List ByteArray).map strR))), (401, some (.arr 9 1 (([] : List ByteArray).map strR)))]) rfl (by simp) (by simp)) ?_
  refine AWp.loop (σ := fun u : {u : Nat × List ByteArray × List ByteArray // u.1 ≤ l.length ∧ (moreN [] l = u.2.2 ++ moreN u.2.1 (l.drop u.1) ∧ u.2.2.length ≤ u.1 ∧ u.2.1.length = u.1)} => ⟨29, [(3, .arr 400 0 u.1.2.1.length), (4, .arr 401 0 u.1.2.2.length), (7, .d (.sl (l.map Tm.row))), (8, .d (.int (l.length : Int))), (9, .d (.int (u.1.1 : Int)))], [(400, some (.arr 9 1 (u.1.2.1.map strR))), (401, some (.arr 9 1 (u.1.2.2.map strR)))]⟩)
    (μ := fun u => l.length - u.1.1) ⟨(0, [], []), ⟨Nat.zero_le _, ⟨by simp, Nat.le_refl _, rfl⟩⟩⟩ (Le.sub (by simp) (by simp)) (fun ⟨(i, hd, us), ⟨hi3, hw⟩⟩ => ?_)
  dsimp only at hi3 hw ⊢
  refine AWp.rg [] [] ?_ (hr := by conv => lhs; simp [Tm.row, Tm.rows_eq, Cs.rows_eq])
  repeat (first | refine AWp.seq ?_ | refine AWp.block ?_)
  refine AWp.cond rfl (fun hc => ?_) (fun hc => ?_)
  · have hi1 : i < l.length := by have := of_decide_eq_true hc; omega
    clear hc
    have h1y : l[i]? = some l[i] := List.getElem?_eq_getElem hi1
    have hmy : l[i] ∈ l := List.getElem_mem hi1
    have hdy : l.drop i = l[i] :: l.drop (i + 1) := List.drop_eq_getElem_cons hi1
    generalize l[i] = y at h1y hmy hdy
    obtain ⟨hap, hul, hhl⟩ := hw
    rw [hdy, moreN] at hap
    have hc := cs_Contains 1000 hd y.nm (by omega)
    generalize hasB hd y.nm = q at hc hap
    obtain ⟨yk, yn, ya, yb, yvs, yxs, ycs⟩ := y
    rw [Tm.nm] at hc hap
    refine AWp.skip ?_
    refine AWp.rg [] [] ?_ (hr := by conv => lhs; simp [Tm.row, Tm.rows_eq, Cs.rows_eq, h1y])
    cases q with
    | true =>
      refine AWp.rg [] [.c [(1000, 400)] [.arr 1000 0 hd.length, .d (.str ya)] [(1000, .arr 9 1 (hd.map strR))] (.d (.bool true)) [(1000, .arr 9 1 (hd.map strR))]] ?_ (hr := by conv => lhs; simp [Tm.row, Tm.rows_eq, Cs.rows_eq, h1y])
      refine AWp.cy ?_
      refine AWp.rg [] [] ?_ (hr := by conv => lhs; simp [Tm.row, Tm.rows_eq, Cs.rows_eq, h1y])
      refine AWp.rg [] [] ?_ (hr := by conv => lhs; simp [Tm.row, Tm.rows_eq, Cs.rows_eq, h1y])
      refine AWp.rg [] [] ?_ (hr := by conv => lhs; simp [Tm.row, Tm.rows_eq, Cs.rows_eq, h1y])
      refine ⟨⟨(i + 1, hd ++ [ya], us ++ [ya]), hi1, ⟨by rw [hap]; simp, by dsimp only; first | omega | (simp; omega), by simp [hhl]⟩⟩, by simp; omega, ?_⟩
      dsimp only
      exact Le.sub (by simp [hhl]) (by simp [hhl])
    | false =>
      refine AWp.rg [] [.c [(1000, 400)] [.arr 1000 0 hd.length, .d (.str ya)] [(1000, .arr 9 1 (hd.map strR))] (.d (.bool false)) [(1000, .arr 9 1 (hd.map strR))]] ?_ (hr := by conv => lhs; simp [Tm.row, Tm.rows_eq, Cs.rows_eq, h1y])
      refine AWp.cn ?_
      refine AWp.skip ?_
      refine AWp.rg [] [] ?_ (hr := by conv => lhs; simp [Tm.row, Tm.rows_eq, Cs.rows_eq, h1y])
      refine AWp.rg [] [] ?_ (hr := by conv => lhs; simp [Tm.row, Tm.rows_eq, Cs.rows_eq, h1y])
      refine ⟨⟨(i + 1, hd ++ [ya], us), hi1, ⟨by rw [hap]; simp, by dsimp only; first | omega | (simp; omega), by simp [hhl]⟩⟩, by simp; omega, ?_⟩
      dsimp only
      exact Le.sub (by simp [hhl]) (by simp [hhl])
  have hi1 : i = l.length := by have := of_decide_eq_false hc; omega
  subst hi1
  clear hc
  obtain ⟨hap, hul, hhl⟩ := hw
  rw [List.drop_length, moreN, List.append_nil] at hap
  rw [hap]
  refine AWp.exit ?_
  refine AWp.rg [] [] ?_ (hr := by conv => lhs; simp [Tm.row, Tm.rows_eq, Cs.rows_eq])
  refine AWp.ret ?_
  try dsimp only [thenQ, blockQ]
  apply endQ.retF [401]
  · rfl
  · conv => lhs; simp
  · conv => lhs; simp [resAV, Tryd.results81]
  rfl
end Go.Proofs.YtapiiklnnkkdlaaDoor

namespace Go.Proofs.YtapiiklnnkkdlaaDoor
open Go.RowKit
set_option linter.unusedVariables false
mutual
def AV.inK (o k : Nat) : AV → Prop
  | .arr o' lo n => o' = o → lo + n ≤ k
  | .agg cs => AV.inKL o k cs
  | .tuple cs => AV.inKL o k cs
  | .clo _ cs => AV.inKL o k cs
  | _ => True
def AV.inKL (o k : Nat) : List AV → Prop
  | [] => True
  | x :: r => AV.inK o k x ∧ AV.inKL o k r
end
theorem AV.inKL_get {o k : Nat} {l : List AV} (h : AV.inKL o k l) (i : Nat) (c : AV) (hi : l[i]? = some c) : c.inK o k := by
  induction l generalizing i with
  | nil => simp at hi
  | cons x r ih =>
    rcases i with _ | i
    · simp at hi; subst hi; exact h.1
    · simp at hi; exact ih h.2 i hi
def frInK (o k : Nat) : List (Nat × AV) → Prop
  | [] => True
  | x :: r => x.2.inK o k ∧ frInK o k r
def memInK (o k : Nat) : List (Nat × Option AObj) → Prop
  | [] => True
  | x :: r => (match x.2 with | some (.blk _ cs) => AV.inKL o k cs | _ => True) ∧ memInK o k r
theorem frInK_get {o k : Nat} : ∀ {f : List (Nat × AV)} (h : frInK o k f) (t : Nat), (frGet f t).inK o k
  | [], _, t => by simp [frGet, AV.inK]
  | x :: r, h, t => by
    simp only [frGet]
    split
    · exact h.1
    · exact frInK_get h.2 t
theorem memInK_get {o k : Nat} : ∀ {f : List (Nat × Option AObj)} (h : memInK o k f) (i : Nat) (t : TypeId) (cs : List AV), memGet f i = some (.blk t cs) → AV.inKL o k cs
  | [], _, i, t, cs, hi => by simp [memGet] at hi
  | x :: r, h, i, t, cs, hi => by
    simp only [memGet] at hi
    split at hi
    · have := h.1
      rw [hi] at this
      exact this
    · exact memInK_get h.2 i t cs hi
section
variable {w : World} {ok : Nat → Prop} {g : Gh} {m m' : Me}
theorem VR.cut {o k : Nat} {e : TypeId} {sz : Nat} {rows : List (List D)} {c : AV} {v : Value} (h : VR w ok g m c v) (hx : m o = some (.arr e sz rows)) (hk : k ≤ rows.length)
    (hm : ∀ i, m' i = if i = o then some (.arr e sz (rows.take k)) else m i) : c.inK o k → VR w ok g m' c v := by
  induction h with
  | any v => exact fun _ => .any v
  | d d v h => exact fun _ => .d d v h
  | lit v h => exact fun _ => .lit v h
  | fl rows v h hr => exact fun _ => .fl rows v h hr
  | ptr o1 off v hv h =>
    refine fun _ => .ptr o1 off v hv fun x hx' => ?_
    rw [hm] at hx'
    split at hx'
    · rename_i h1; rw [h1] at h ⊢; exact h _ hx
    · exact h x hx'
  | arr o1 lo n v hv h =>
    refine fun hc => .arr o1 lo n v hv fun e' sz' rows' hx' => ?_
    rw [hm] at hx'
    split at hx'
    · rename_i h1
      simp only [Option.some.injEq, AObj.arr.injEq] at hx'
      obtain ⟨rfl, rfl, rfl⟩ := hx'
      have := hc h1
      rw [h1] at h ⊢
      refine ⟨by rw [List.length_take]; omega, (h _ _ _ hx).2⟩
    · exact h _ _ _ hx'
  | eptr o1 i j v hv h =>
    refine fun _ => .eptr o1 i j v hv fun e' sz' rows' hx' => ?_
    rw [hm] at hx'
    split at hx'
    · rename_i h1
      simp only [Option.some.injEq, AObj.arr.injEq] at hx'
      obtain ⟨rfl, rfl, rfl⟩ := hx'
      rw [h1] at h ⊢
      exact h _ _ _ hx
    · exact h _ _ _ hx'
  | mp o1 v hv h =>
    refine fun _ => .mp o1 v hv fun x hx' => ?_
    rw [hm] at hx'
    split at hx'
    · rename_i h1; rw [h1] at h ⊢; exact h _ hx
    · exact h x hx'
  | agg cs vs hl h h1 ih => exact fun hc => .agg cs vs hl (fun i c v hi hv => ih i c v hi hv (AV.inKL_get hc i c hi)) h1
  | tuple cs vs hl h ih => exact fun hc => .tuple cs vs hl (fun i c v hi hv => ih i c v hi hv (AV.inKL_get hc i c hi))
  | clo f cs vs hl h ih => exact fun hc => .clo f cs vs hl (fun i c v hi hv => ih i c v hi hv (AV.inKL_get hc i c hi))
end
theorem Le.cut {s : AS} (o k : Nat) {e : TypeId} {sz : Nat} {rows rows' : List (List D)} (hx : memGet s.mem o = some (.arr e sz rows)) (hr : rows.take k = rows') (hk : k ≤ rows.length)
    (hf : frInK o k s.fr) (hmm : memInK o k s.mem) : Le s ⟨s.n, s.fr, (o, some (.arr e sz rows')) :: s.mem⟩ := by
  subst hr
  rintro C a w ⟨ok, g, hM, h1, h2, h3⟩
  have em : ∀ i, memGet ((o, some (.arr e sz (rows.take k))) :: s.mem) i = if i = o then some (.arr e sz (rows.take k)) else memGet s.mem i := fun i => by
    simp only [memGet]
    by_cases h : i = o
    · rw [if_pos h, h]; simp
    · rw [if_neg h, if_neg (by simpa using fun h' => h h'.symm)]
  have vr : ∀ {c v}, VR w ok g (memGet s.mem) c v → c.inK o k → VR w ok g (memGet ((o, some (.arr e sz (rows.take k))) :: s.mem)) c v := fun h => h.cut hx hk em
  have inv : ∀ {i x}, memGet ((o, some (.arr e sz (rows.take k))) :: s.mem) i = some x → ∃ y, memGet s.mem i = some y := fun {i x} h => by
    rw [em] at h
    split at h
    · rename_i h1; exact ⟨_, h1 ▸ hx⟩
    · exact ⟨x, h⟩
  refine ⟨ok, g, ⟨fun i x hi => ?_, fun i j xi xj b hi hj hbi hbj => ?_, fun i x b hi hb => ?_, hM.okb, hM.okk, hM.size, hM.heap, hM.keep, hM.os, hM.tape, hM.output, hM.gi, hM.gb⟩, h1, h2, fun t => ?_⟩
  · rw [em] at hi
    split at hi
    · rename_i h1
      subst h1
      cases hi
      obtain ⟨k1, k2, k3⟩ := hM.obj _ _ hx
      have hlt : ∀ (j : Nat) (r : List D), (rows.take k)[j]? = some r → rows[j]? = some r := fun j r h => by
        rw [List.getElem?_take] at h
        split at h
        · exact h
        · cases h
      refine ⟨k1, fun j r hj => k2 j r (hlt j r hj), ?_⟩
      rcases k3 with ⟨k3, rfl⟩ | ⟨b, cur, k3, k4, k5, k6, k7, k8⟩
      · exact .inl ⟨k3, by simp⟩
      · exact .inr ⟨b, cur, k3, k4, by rw [List.length_take]; omega, k6, k7, fun i j r c v hi => k8 i j r c v (hlt i r hi)⟩
    · rename_i h1
      have hO := hM.obj _ _ hi
      cases x with
      | blk t cs =>
        obtain ⟨b, vs, k1, k2, k3, k4, k5⟩ := hO
        exact ⟨b, vs, k1, k2, k3, fun j c v hc hv => vr (k4 j c v hc hv) (AV.inKL_get (memInK_get hmm i t cs hi) j c hc), k5⟩
      | arr e sz rows => exact hO
      | map ks ag n ents => exact hO
      | raw r => exact hO
  · obtain ⟨_, hi⟩ := inv hi
    obtain ⟨_, hj⟩ := inv hj
    exact hM.inj _ _ _ _ b hi hj hbi hbj
  · obtain ⟨_, hi⟩ := inv hi
    exact hM.own _ _ b hi hb
  · exact vr (h3 t) (frInK_get hf t)
theorem endC.le {P : Program} {fn : Func} {r : AV} {m' : Mo} {x : Exit} {s s' : AS} (hl : Le s s') (h : endC P fn r m' x s') : endC P fn r m' x s := by
  obtain ⟨h1, s2, h2, h3⟩ := h
  exact ⟨h1, s2, hl.trans h2, h3⟩
end Go.Proofs.YtapiiklnnkkdlaaDoor

namespace Go.Proofs.YtapiiklnnkkdlaaDoor
open Go.RowKit
attribute [local simp] runD mkRc ldOf stOf stOk ldArg noAny dstOk guardOk opEff opEff0 effOp pureOp callOp zEff evA constAV scalAV Value.oneCell' frGet memGet startAS frOf isGoCall idIn AS.after nextR opnIds objIds AV.ids idsL AObj.ids frNo memNo opnAny isAny mkVal rdCells wrCells fldAddr idxAddr srcRows litRows toD1 toDs setAt sliceAV optI partAV bldAV fillAV binAV binI AV.cells callEff calleeOf frKill memKill AV.kill AObj.kill AV.has AV.hasL Op.operands Call.operands keepF keepM viewIds cChk renOf moGet moWs moQ cEff moLike moHave AV.ren renL AObj.ren AObj.like kept startC moMem AV.frz frz1 frzL frSub memSub frzs AS.frz frFrz memFrz AObj.frz takeMap takeLen bleF Nat.ble_eq memAny objAny mapOp D.keyOk rowAV valRow extOp wrapOp phO frLow memLow memLow1 objLow memEmpty Low LowL
set_option linter.unusedVariables false
set_option linter.unusedSimpArgs false
set_option maxRecDepth 20000 in
set_option maxHeartbeats 16000000 in
theorem cs_Own (t : Tm) (hO : t.Ok) : CSpec Tryd.prog 76 [tmAV t] [(500, .arr 0 1 []), (501, .arr 0 1 [])] (match t with | .mk k n a b vs xs cs => .agg [.d (.int k), .d (.int n), .d (.str a), .d (.str b), .d (strsD vs), .arr 500 0 xs.length, .arr 501 0 cs.length])
    (match t with | .mk k n a b vs xs cs => [(500, .arr 34 7 (xs.map Tm.row)), (501, .arr 40 9 (cs.map Cs.row))]) := by
  obtain ⟨tk, tn, ta, tb, tvs, txs, tcs⟩ := t
  dsimp only
  obtain ⟨o1, o2, o3, o4, o5⟩ := hO.vars
  have hxO : ∀ x ∈ txs, x.Ok := Tm.Oks_iff.1 hO.2.2.1
  have hcO := Cs.Oks_iff.1 hO.2.2.2
  have hcl := sp_Clone tvs (by omega)
  refine CSpec.of Tryd.func76 rfl rfl (Nat.le_of_ble_eq_true rfl) ?_
  show AWp _ _ (endC _ Tryd.f76 _ _) (startC 51 _ _)
  refine AWp.rg [] [] ?_ (hr := by conv => lhs; simp [Tm.row, Tm.rows_eq, Cs.row, Cs.rows_eq])
  refine AWp.rg [2] [.p (fun d => .arr d 0 tvs.length) (some (.arr 9 1 (tvs.map strR)))] ?_ (hr := by conv => lhs; simp [Tm.row, Tm.rows_eq, Cs.row, Cs.rows_eq])
  refine AWp.rg [] [] ?_ (hr := by conv => lhs; simp [Tm.row, Tm.rows_eq, Cs.row, Cs.rows_eq])
  refine AWp.rg [] [] ?_ (hr := by conv => lhs; simp [Tm.row, Tm.rows_eq, Cs.row, Cs.rows_eq])
  repeat (first | refine AWp.seq ?_ | refine AWp.block ?_)
  refine AWp.le (Le.low [400] [] (fr := [(1, .ptr 1 0), (2, .ptr 2 0), (3, .arr 400 0 ([] : List Tm).length), (14, .d (.sl (txs.map Tm.row))), (15, .d (.int (txs.length : Int))), (16, .d (.int (0 : Int)))]) (mem := [(1, some (.blk 34 [.d (.int tk), .d (.int tn), .d (.str ta), .d (.str tb), .d (strsD tvs), .d (.sl (txs.map Tm.row)), .d (.sl (tcs.map Cs.row))])), (2, some (.blk 34 [.d (.int 0), .d (.int 0), .d (.str ByteArray.empty), .d (.str ByteArray.empty), .lit (.slice none 0 0), .lit (.slice none 0 0), .lit (.slice none 0 0)])), (400, some (.arr 34 7 (([] : List Tm).map Tm.row)))]) rfl (by simp) (by simp)) ?_
  refine AWp.loop (σ := fun u : {u : Nat × List Tm // u.1 ≤ txs.length ∧ u.2 = txs.take u.1} => ⟨51, [(1, .ptr 1 0), (2, .ptr 2 0), (3, .arr 400 0 u.1.2.length), (14, .d (.sl (txs.map Tm.row))), (15, .d (.int (txs.length : Int))), (16, .d (.int (u.1.1 : Int)))], [(1, some (.blk 34 [.d (.int tk), .d (.int tn), .d (.str ta), .d (.str tb), .d (strsD tvs), .d (.sl (txs.map Tm.row)), .d (.sl (tcs.map Cs.row))])), (2, some (.blk 34 [.d (.int 0), .d (.int 0), .d (.str ByteArray.empty), .d (.str ByteArray.empty), .lit (.slice none 0 0), .lit (.slice none 0 0), .lit (.slice none 0 0)])), (400, some (.arr 34 7 (u.1.2.map Tm.row)))]⟩)
    (μ := fun u => txs.length - u.1.1) ⟨(0, []), ⟨Nat.zero_le _, by simp⟩⟩ (Le.sub (by simp) (by simp)) (fun ⟨(i, ys), ⟨hi4, hw⟩⟩ => ?_)
  dsimp only at hi4 hw ⊢
  refine AWp.rg [] [] ?_ (hr := by conv => lhs; simp [Tm.row, Tm.rows_eq, Cs.row, Cs.rows_eq])
  repeat (first | refine AWp.seq ?_ | refine AWp.block ?_)
  refine AWp.cond rfl (fun hc => ?_) (fun hc => ?_)
  · have hi1 : i < txs.length := by have := of_decide_eq_true hc; omega
    clear hc
    have h1y : txs[i]? = some txs[i] := List.getElem?_eq_getElem hi1
    have hmy : txs[i] ∈ txs := List.getElem_mem hi1
    have hdy : txs.drop i = txs[i] :: txs.drop (i + 1) := List.drop_eq_getElem_cons hi1
    generalize txs[i] = y at h1y hmy hdy
    have hyl : ys.length = i := by rw [hw, List.length_take]; omega
    have hx := sp_Own y (hxO y hmy)
    obtain ⟨yk, yn, ya, yb, yvs, yxs, ycs⟩ := y
    refine AWp.skip ?_
    refine AWp.rg [] [] ?_ (hr := by conv => lhs; simp [Tm.row, Tm.rows_eq, Cs.row, Cs.rows_eq, h1y])
    refine AWp.rg [] [.p (fun _ => .agg [.d (.int yk), .d (.int yn), .d (.str ya), .d (.str yb), .d (strsD yvs), .d (.sl (yxs.map Tm.row)), .d (.sl (ycs.map Cs.row))]) none] ?_ (hr := by conv => lhs; simp [Tm.row, Tm.rows_eq, Cs.row, Cs.rows_eq, h1y])
    refine AWp.rg [] [] ?_ (hr := by conv => lhs; simp [Tm.row, Tm.rows_eq, Cs.row, Cs.rows_eq, h1y])
    refine ⟨⟨(i + 1, ys ++ [.mk yk yn ya yb yvs yxs ycs]), hi1, by rw [hw, List.take_add_one, h1y]; rfl⟩, by simp; omega, ?_⟩
    dsimp only
    exact Le.sub (by simp [Tm.row, Tm.rows_eq, Cs.rows_eq, hyl]) (by simp [Tm.row, Tm.rows_eq, Cs.rows_eq, hyl])
  have hi1 : i = txs.length := by have := of_decide_eq_false hc; omega
  subst hi1
  clear hc
  rw [List.take_length] at hw
  subst ys
  refine AWp.exit ?_
  refine AWp.rg [] [] ?_ (hr := by conv => lhs; simp [Tm.row, Tm.rows_eq, Cs.row, Cs.rows_eq])
  refine AWp.rg [] [] ?_ (hr := by conv => lhs; simp [Tm.row, Tm.rows_eq, Cs.row, Cs.rows_eq])
  repeat (first | refine AWp.seq ?_ | refine AWp.block ?_)
  refine AWp.le (Le.low [401] [] (fr := [(1, .ptr 1 0), (2, .ptr 2 0), (3, .arr 400 0 txs.length), (6, .arr 401 0 ([] : List Cs).length), (27, .d (.sl (tcs.map Cs.row))), (28, .d (.int (tcs.length : Int))), (29, .d (.int (0 : Int)))]) (mem := [(1, some (.blk 34 [.d (.int tk), .d (.int tn), .d (.str ta), .d (.str tb), .d (strsD tvs), .d (.sl (txs.map Tm.row)), .d (.sl (tcs.map Cs.row))])), (2, some (.blk 34 [.d (.int 0), .d (.int 0), .d (.str ByteArray.empty), .d (.str ByteArray.empty), .lit (.slice none 0 0), .lit (.slice none 0 0), .lit (.slice none 0 0)])), (400, some (.arr 34 7 (txs.map Tm.row))), (401, some (.arr 40 9 (([] : List Cs).map Cs.row)))]) rfl (by simp) (by simp)) ?_
  refine AWp.loop (σ := fun u : {u : Nat × List Cs // u.1 ≤ tcs.length ∧ u.2 = tcs.take u.1} => ⟨51, [(1, .ptr 1 0), (2, .ptr 2 0), (3, .arr 400 0 txs.length), (6, .arr 401 0 u.1.2.length), (27, .d (.sl (tcs.map Cs.row))), (28, .d (.int (tcs.length : Int))), (29, .d (.int (u.1.1 : Int)))], [(1, some (.blk 34 [.d (.int tk), .d (.int tn), .d (.str ta), .d (.str tb), .d (strsD tvs), .d (.sl (txs.map Tm.row)), .d (.sl (tcs.map Cs.row))])), (2, some (.blk 34 [.d (.int 0), .d (.int 0), .d (.str ByteArray.empty), .d (.str ByteArray.empty), .lit (.slice none 0 0), .lit (.slice none 0 0), .lit (.slice none 0 0)])), (400, some (.arr 34 7 (txs.map Tm.row))), (401, some (.arr 40 9 (u.1.2.map Cs.row)))]⟩)
    (μ := fun u => tcs.length - u.1.1) ⟨(0, []), ⟨Nat.zero_le _, by simp⟩⟩ (Le.sub (by simp) (by simp)) (fun ⟨(i, ds), ⟨hi10, hw2⟩⟩ => ?_)
  dsimp only at hi10 hw2 ⊢
  refine AWp.rg [] [] ?_ (hr := by conv => lhs; simp [Tm.row, Tm.rows_eq, Cs.row, Cs.rows_eq])
  repeat (first | refine AWp.seq ?_ | refine AWp.block ?_)
  refine AWp.cond rfl (fun hc => ?_) (fun hc => ?_)
  · have hi1 : i < tcs.length := by have := of_decide_eq_true hc; omega
    clear hc
    have h1d : tcs[i]? = some tcs[i] := List.getElem?_eq_getElem hi1
    have hmd : tcs[i] ∈ tcs := List.getElem_mem hi1
    have hdd : tcs.drop i = tcs[i] :: tcs.drop (i + 1) := List.drop_eq_getElem_cons hi1
    generalize tcs[i] = d at h1d hmd hdd
    obtain ⟨dt, dws, ⟨dk, dn, da, db, dvs, dxs, dcs⟩⟩ := d
    have hyl : ds.length = i := by rw [hw2, List.length_take]; omega
    obtain ⟨hc1, hc2, hc3⟩ := hcO _ hmd
    have hx := sp_Own (.mk dk dn da db dvs dxs dcs) hc3
    have hcw := sp_Clone dws (by omega)
    refine AWp.skip ?_
    refine AWp.rg [] [] ?_ (hr := by conv => lhs; simp [Tm.row, Tm.rows_eq, Cs.row, Cs.rows_eq, h1d])
    refine AWp.dw [5] [.p (fun d => .arr d 0 dws.length) (some (.arr 9 1 (dws.map strR))), .p (fun _ => .agg [.d (.int dk), .d (.int dn), .d (.str da), .d (.str db), .d (strsD dvs), .d (.sl (dxs.map Tm.row)), .d (.sl (dcs.map Cs.row))]) none] mixed ?_ (hr := by conv => lhs; simp [Tm.row, Tm.rows_eq, Cs.row, Cs.rows_eq, h1d])
    refine AWp.rg [] [] ?_ (hr := by conv => lhs; simp [Tm.row, Tm.rows_eq, Cs.row, Cs.rows_eq, h1d])
    refine ⟨⟨(i + 1, ds ++ [.mk dt dws (.mk dk dn da db dvs dxs dcs)]), hi1, by rw [hw2, List.take_add_one, h1d]; rfl⟩, by simp; omega, ?_⟩
    dsimp only
    exact Le.sub (by simp [Cs.row, Tm.row, Tm.rows_eq, Cs.rows_eq, hyl]) (by simp [Cs.row, Tm.row, Tm.rows_eq, Cs.rows_eq, hyl])
  have hi1 : i = tcs.length := by have := of_decide_eq_false hc; omega
  subst hi1
  clear hc
  rw [List.take_length] at hw2
  subst ds
  refine AWp.exit ?_
  refine AWp.rg [] [] ?_ (hr := by conv => lhs; simp [Tm.row, Tm.rows_eq, Cs.row, Cs.rows_eq])
  refine AWp.rg [] [] ?_ (hr := by conv => lhs; simp [Tm.row, Tm.rows_eq, Cs.row, Cs.rows_eq])
  refine AWp.ret ?_
  try dsimp only [thenQ, blockQ]
  apply endC.le (Le.give _ 400 500 rfl rfl rfl)
  apply endC.le (Le.give _ 401 501 rfl rfl rfl)
  try dsimp only [thenQ, blockQ]
  apply endC.ret
  · rfl
  · conv => lhs; simp [resAV, Tryd.results76, AS.swap, swN]
  · rfl
  · simp [moEnd, memGet, AS.swap, swN]
def Fn.rn (f : Fn) : Fn := ⟨f.name, freshL f.params 0, (f.body.rn (f.params.zip (freshL f.params 0)) (freshC f.params 0)).1⟩
abbrev fnAV : Fn → AV
  | ⟨g, ps, .mk k n a b vs xs cs⟩ => .agg [.d (.str g), .d (strsD ps), .d (.int k), .d (.int n), .d (.str a), .d (.str b), .d (strsD vs), .d (.sl (xs.map Tm.row)), .d (.sl (cs.map Cs.row))]
set_option maxRecDepth 20000 in
set_option maxHeartbeats 16000000 in
theorem sp_Named (f : Fn) (hb : f.body.Ok) (hr : f.body.Rt 25) (hp : f.params.length ≤ 6) : PSpec Tryd.prog 74 [fnAV f] (fun _ => fnAV f.rn) none := by
  have hfr := cs_fresh f.params 0 hp
  have hl := freshL_len f.params 0
  have hx := rn_all 25 f.body (f.params.zip (freshL f.params 0)) (freshC f.params 0) hr hb (by rw [List.length_zip]; omega)
  unfold Fn.rn
  obtain ⟨fg, fps, fy⟩ := f
  dsimp only at *
  generalize freshC fps 0 = e at hfr hx ⊢
  generalize freshL fps 0 = us at hfr hx hl ⊢
  generalize fps.zip us = px at hfr hx ⊢
  generalize fy.rn px e = o at hx ⊢
  obtain ⟨z, c2⟩ := o
  dsimp only at *
  obtain ⟨fk, fn, fa, fb, fvs, fxs, fcs⟩ := fy
  obtain ⟨zk, zn, za, zb, zvs, zxs, zcs⟩ := z
  refine PSpec.of Tryd.func74 rfl rfl rfl (Nat.le_of_ble_eq_true rfl) ?_
  show AWp _ _ (endQ _ Tryd.f74 _ _ _) (startAS 24 _)
  refine AWp.rg [] [] ?_ (hr := by conv => lhs; simp [fnAV, Fn.row, Tm.row, Tm.rows_eq, Cs.rows_eq, psR])
  refine AWp.rg [] [] ?_ (hr := by conv => lhs; simp [fnAV, Fn.row, Tm.row, Tm.rows_eq, Cs.rows_eq, psR])
  refine AWp.rg [] [.c [(1000, 7)] [.ptr 1000 0, .d (strsD fps)] [(1000, .blk 129 [.d (.int 0)])] (.tuple [.d (strsD us), .d (.sl (px.map psR))]) [(1000, .blk 129 [.d (.int e)])]] ?_ (hr := by conv => lhs; simp [fnAV, Fn.row, Tm.row, Tm.rows_eq, Cs.rows_eq, psR])
  refine AWp.dw [] [.c [(1000, 7)] [.ptr 1000 0, .agg [.d (.int fk), .d (.int fn), .d (.str fa), .d (.str fb), .d (strsD fvs), .d (.sl (fxs.map Tm.row)), .d (.sl (fcs.map Cs.row))], .d (.sl (px.map psR))] [(1000, .blk 129 [.d (.int e)])] (.agg [.d (.int zk), .d (.int zn), .d (.str za), .d (.str zb), .d (strsD zvs), .d (.sl (zxs.map Tm.row)), .d (.sl (zcs.map Cs.row))]) [(1000, .blk 129 [.d (.int c2)])]] mixed ?_ (hr := by conv => lhs; simp [fnAV, Fn.row, Tm.row, Tm.rows_eq, Cs.rows_eq, psR])
  refine AWp.ret ?_
  try dsimp only [thenQ, blockQ]
  apply endQ.ret
  · rfl
  · conv => lhs; simp [resAV, Tryd.results74]
  rfl
end Go.Proofs.YtapiiklnnkkdlaaDoor
