import Derived.Test.YtapiiklnnkkdlaaDoorPlainA
import Derived.Test.YtapiiklnnkkdlaaDoorNameB
/- plain.maker: term. Printed by a small program. -/
namespace Go.Proofs.YtapiiklnnkkdlaaDoor
open Go.RowKit
attribute [local simp] runD mkRc ldOf stOf stOk ldArg noAny dstOk guardOk opEff opEff0 effOp pureOp callOp zEff evA constAV scalAV Value.oneCell' frGet memGet startAS frOf isGoCall idIn AS.after nextR opnIds objIds AV.ids idsL AObj.ids frNo memNo opnAny isAny mkVal rdCells wrCells fldAddr idxAddr srcRows litRows toD1 toDs setAt sliceAV optI partAV bldAV fillAV binAV binI AV.cells callEff calleeOf frKill memKill AV.kill AObj.kill AV.has AV.hasL Op.operands Call.operands keepF keepM viewIds cChk renOf moGet moWs moQ cEff moLike moHave AV.ren renL AObj.ren AObj.like kept startC moMem AV.frz frz1 frzL frSub memSub frzs AS.frz frFrz memFrz AObj.frz takeMap takeLen bleF Nat.ble_eq memAny objAny mapOp D.keyOk rowAV valRow extOp wrapOp phO frLow memLow memLow1 objLow memEmpty Low LowL
set_option linter.unusedVariables false
set_option linter.unusedSimpArgs false
def PlN (N : Nat) : Prop := ∀ (t : Tm) (c : Int), t.Rt N → t.Ok →
  CSpec Tryd.prog 109 [.ptr 1000 0, tmAV t] [(1000, mkO c)] (tmAV (t.pl c).1) [(1000, mkO (t.pl c).2)]
theorem all_any (N : Nat) (ih : PlN N) (tk tn : Int) (ta tb : ByteArray) (tvs : List ByteArray) (txs : List Tm) (tcs : List Cs) : ∀ (l done : List Tm) (c : Int), (∀ x ∈ l, x.Rt N ∧ x.Ok) → done.length + l.length ≤ 6 →
    CSpec Tryd.prog 156 [.ptr 1000 0, .d (.sl (l.map Tm.row)), .d (.sl (done.map Tm.row)), .clo 157 [.ptr 1001 0]] [(1000, mkO c), (1001, .blk 34 [.d (.int tk), .d (.int tn), .d (.str ta), .d (.str tb), .d (strsD tvs), .d (.sl (txs.map Tm.row)), .d (.sl (tcs.map Cs.row))])]
      (tmAV (around (Tm.ats l c).2.1 (.mk tk tn ta .empty [] (done ++ (Tm.ats l c).1) []))) [(1000, mkO (Tm.ats l c).2.2), (1001, .blk 34 [.d (.int tk), .d (.int tn), .d (.str ta), .d (.str tb), .d (strsD tvs), .d (.sl (txs.map Tm.row)), .d (.sl (tcs.map Cs.row))])] := by
  intro l
  induction l with
  | nil =>
    intro done c _ _
    rw [Tm.ats]
    dsimp only [around]
    rw [List.append_nil]
    exact cs_allN c c [] done tk tn ta tb tvs txs tcs 0 0 .empty .empty [] [] [] tk tn ta .empty [] done [] (by simp) (cs_pterm1 done tk tn ta tb tvs txs tcs)
  | cons x r ih2 =>
    intro done c hl hn
    simp only [List.length_cons] at hn
    obtain ⟨hxR, hxO⟩ := hl x (List.mem_cons_self ..)
    have hr := fun y hy => hl y (List.mem_cons_of_mem _ hy)
    have hx := ih x (wr (c + 1)) hxR hxO
    obtain ⟨xk, xn, xa, xb, xvs, xxs, xcs⟩ := x
    rw [Tm.ats, Tm.tk]
    by_cases hk : xk = 1
    · subst hk
      rw [if_pos rfl]
      dsimp only
      have h2 := ih2 (done ++ [.mk 1 xn xa xb xvs xxs xcs]) c hr (by simp; omega)
      rw [List.append_assoc, List.singleton_append] at h2
      generalize (Tm.ats r c).2.2 = c2 at h2 ⊢
      generalize around (Tm.ats r c).2.1 (.mk tk tn ta .empty [] (done ++ (Tm.mk 1 xn xa xb xvs xxs xcs) :: (Tm.ats r c).1) []) = z at h2 ⊢
      obtain ⟨zk, zn, za, zb, zvs, zxs, zcs⟩ := z
      have h3 := cs_all1 c c2 (.mk 1 xn xa xb xvs xxs xcs) r done (done ++ [.mk 1 xn xa xb xvs xxs xcs]) tk tn ta tb tvs txs tcs 1 xn xa xb xvs xxs xcs zk zn za zb zvs zxs zcs (by omega) (by omega) (by rw [List.map_append]; simp [Tm.row, Tm.rows_eq, Cs.rows_eq]) h2
      have h4 := cs_simpleA1 c c c2 0 .empty (.mk 1 xn xa xb xvs xxs xcs :: r) done tk tn ta tb tvs txs tcs 0 xn xa xb xvs xxs xcs 0 0 .empty .empty [] [] [] zk zn za zb zvs zxs zcs h3
      exact cs_allC c c2 r done tk tn ta tb tvs txs tcs 1 xn xa xb xvs xxs xcs zk zn za zb zvs zxs zcs (by omega) h4
    · rw [if_neg hk]
      dsimp only [around]
      have hfr := cs_mkFresh c
      obtain ⟨e, he⟩ : ∃ e, e = wr (c + 1) := ⟨_, rfl⟩
      rw [← he] at hx hfr ⊢
      obtain ⟨s, hs⟩ : ∃ s, s = wNm e := ⟨_, rfl⟩
      rw [← hs] at hfr ⊢
      generalize (Tm.mk xk xn xa xb xvs xxs xcs).pl e = o at hx ⊢
      obtain ⟨y, c1⟩ := o
      dsimp only at hx ⊢
      have h2 := ih2 (done ++ [varT s]) c1 hr (by simp; omega)
      rw [List.append_assoc, List.singleton_append] at h2
      generalize (Tm.ats r c1).2.2 = c2 at h2 ⊢
      generalize around (Tm.ats r c1).2.1 (.mk tk tn ta .empty [] (done ++ varT s :: (Tm.ats r c1).1) []) = z at h2 ⊢
      obtain ⟨yk, yn, ya, yb, yvs, yxs, ycs⟩ := y
      obtain ⟨zk, zn, za, zb, zvs, zxs, zcs⟩ := z
      have h3 := cs_all1 c1 c2 (.mk xk xn xa xb xvs xxs xcs) r done (done ++ [varT s]) tk tn ta tb tvs txs tcs 1 0 s .empty [] [] [] zk zn za zb zvs zxs zcs (by omega) (by omega) (by rw [List.map_append]; simp [varT, Tm.row, Tm.rows_eq, Cs.rows_eq]) h2
      have h4 := cs_simpleA2 c c1 c2 e s (.mk xk xn xa xb xvs xxs xcs :: r) done tk tn ta tb tvs txs tcs xk xn xa xb xvs xxs xcs yk yn ya yb yvs yxs ycs zk zn za zb zvs zxs zcs hk hfr hx h3
      exact cs_allC c c2 r done tk tn ta tb tvs txs tcs xk xn xa xb xvs xxs xcs 6 0 s .empty [] [.mk yk yn ya yb yvs yxs ycs, .mk zk zn za zb zvs zxs zcs] [] (by omega) h4
set_option maxRecDepth 20000 in
set_option maxHeartbeats 16000000 in
theorem cs_pterm2 (N : Nat) (ih : PlN N) (c : Int) (tk tn : Int) (ta tb : ByteArray) (tvs : List ByteArray) (txs : List Tm) (tcs : List Cs) (yk yn : Int) (ya yb : ByteArray) (yvs : List ByteArray) (yxs : List Tm) (ycs : List Cs) (hcl : tcs.length ≤ 6) (hcR : ∀ d ∈ tcs, d.3.Rt N ∧ d.3.Ok) :
    CSpec Tryd.prog 159 [tmAV (.mk yk yn ya yb yvs yxs ycs), .ptr 1001 0, .ptr 1002 0] [(1000, .blk 117 [.d (.int c)]), (1001, .blk 34 [.d (.int tk), .d (.int tn), .d (.str ta), .d (.str tb), .d (strsD tvs), .d (.sl (txs.map Tm.row)), .d (.sl (tcs.map Cs.row))]), (1002, .blk 115 [.ptr 1000 0])] (tmAV (.mk 7 0 .empty .empty [] [.mk yk yn ya yb yvs yxs ycs] (Cs.plL tcs c).1)) [(1000, .blk 117 [.d (.int ((Cs.plL tcs c).2))]), (1001, .blk 34 [.d (.int tk), .d (.int tn), .d (.str ta), .d (.str tb), .d (strsD tvs), .d (.sl (txs.map Tm.row)), .d (.sl (tcs.map Cs.row))]), (1002, .blk 115 [.ptr 1000 0])] := by
  obtain ⟨R, hR⟩ : ∃ R, R = Cs.plL tcs c := ⟨_, rfl⟩
  rw [← hR]
  refine CSpec.of Tryd.func159 rfl rfl (Nat.le_of_ble_eq_true rfl) ?_
  show AWp _ _ (endC _ Tryd.f159 _ _) (startC 34 _ _)
  refine AWp.rg [] [] ?_ (hr := by conv => lhs; simp [Tm.row, Tm.rows_eq, Cs.rows_eq])
  refine AWp.rg [1] [] ?_ (hr := by conv => lhs; simp [Tm.row, Tm.rows_eq, Cs.rows_eq])
  refine AWp.rg [] [] ?_ (hr := by conv => lhs; simp [Tm.row, Tm.rows_eq, Cs.rows_eq])
  repeat (first | refine AWp.seq ?_ | refine AWp.block ?_)
  refine AWp.le (Le.low [400] [] (fr := [(2, .ptr 1002 0), (4, .ptr 4 0), (5, .ptr 5 0), (12, .d (.sl (tcs.map Cs.row))), (13, .d (.int (tcs.length : Int))), (14, .d (.int (0 : Int)))]) (mem := [(4, some (.blk 34 [.d (.int 0), .d (.int 0), .d (.str ByteArray.empty), .d (.str ByteArray.empty), .lit (.slice none 0 0), .lit (.slice none 0 0), .lit (.slice none 0 0)])), (5, some (.blk 34 [.d (.int 7), .d (.int 0), .d (.str ByteArray.empty), .d (.str ByteArray.empty), .lit (.slice none 0 0), .d (.sl [[.int yk, .int yn, .str ya, .str yb, strsD yvs, .sl (yxs.map Tm.row), .sl (ycs.map Cs.row)]]), .arr 400 0 ([] : List Cs).length])), (400, some (.arr 40 9 (([] : List Cs).map Cs.row))), (1000, some (.blk 117 [.d (.int (c : Int))])), (1001, some (.blk 34 [.d (.int tk), .d (.int tn), .d (.str ta), .d (.str tb), .d (strsD tvs), .d (.sl (txs.map Tm.row)), .d (.sl (tcs.map Cs.row))])), (1002, some (.blk 115 [.ptr 1000 0]))]) rfl (by simp) (by simp)) ?_
  refine AWp.loop (σ := fun u : {u : Nat × List Cs × Int // u.1 ≤ tcs.length ∧ (Cs.plL tcs c = (u.2.1 ++ (Cs.plL (tcs.drop u.1) u.2.2).1, (Cs.plL (tcs.drop u.1) u.2.2).2) ∧ u.2.1.length = u.1)} => ⟨34, [(2, .ptr 1002 0), (4, .ptr 4 0), (5, .ptr 5 0), (12, .d (.sl (tcs.map Cs.row))), (13, .d (.int (tcs.length : Int))), (14, .d (.int (u.1.1 : Int)))], [(4, some (.blk 34 [.d (.int 0), .d (.int 0), .d (.str ByteArray.empty), .d (.str ByteArray.empty), .lit (.slice none 0 0), .lit (.slice none 0 0), .lit (.slice none 0 0)])), (5, some (.blk 34 [.d (.int 7), .d (.int 0), .d (.str ByteArray.empty), .d (.str ByteArray.empty), .lit (.slice none 0 0), .d (.sl [[.int yk, .int yn, .str ya, .str yb, strsD yvs, .sl (yxs.map Tm.row), .sl (ycs.map Cs.row)]]), .arr 400 0 u.1.2.1.length])), (400, some (.arr 40 9 (u.1.2.1.map Cs.row))), (1000, some (.blk 117 [.d (.int u.1.2.2)])), (1001, some (.blk 34 [.d (.int tk), .d (.int tn), .d (.str ta), .d (.str tb), .d (strsD tvs), .d (.sl (txs.map Tm.row)), .d (.sl (tcs.map Cs.row))])), (1002, some (.blk 115 [.ptr 1000 0]))]⟩)
    (μ := fun u => tcs.length - u.1.1) ⟨(0, [], c), ⟨Nat.zero_le _, ⟨by simp, rfl⟩⟩⟩ (Le.sub (by simp) (by simp)) (fun ⟨(i, ds, c3), ⟨hi3, hw⟩⟩ => ?_)
  dsimp only at hi3 hw ⊢
  refine AWp.rg [] [] ?_ (hr := by conv => lhs; simp [Tm.row, Tm.rows_eq, Cs.rows_eq])
  repeat (first | refine AWp.seq ?_ | refine AWp.block ?_)
  refine AWp.cond rfl (fun hc => ?_) (fun hc => ?_)
  · have hi1 : i < tcs.length := by have := of_decide_eq_true hc; omega
    clear hc
    have h1d : tcs[i]? = some tcs[i] := List.getElem?_eq_getElem hi1
    have hmd : tcs[i] ∈ tcs := List.getElem_mem hi1
    have hdd : tcs.drop i = tcs[i] :: tcs.drop (i + 1) := List.drop_eq_getElem_cons hi1
    generalize tcs[i] = d at h1d hmd hdd
    obtain ⟨hap, hdl⟩ := hw
    rw [hdd, Cs.plL] at hap
    obtain ⟨hyR, hyO⟩ := hcR d hmd
    obtain ⟨dt, dws, y⟩ := d
    try dsimp only at hyR hyO
    rw [Cs.pl] at hap
    have hx := ih y c3 hyR hyO
    generalize y.pl c3 = o at hx hap
    obtain ⟨z, c2⟩ := o
    dsimp only at hx hap
    obtain ⟨dk, dn, da, db, dvs, dxs, dcs⟩ := y
    obtain ⟨zk, zn, za, zb, zvs, zxs, zcs⟩ := z
    refine AWp.skip ?_
    refine AWp.rg [] [] ?_ (hr := by conv => lhs; simp [Tm.row, Tm.rows_eq, Cs.rows_eq, h1d, Cs.row])
    refine AWp.dw [] [.c [] [.ptr 1000 0, .agg [.d (.int dk), .d (.int dn), .d (.str da), .d (.str db), .d (strsD dvs), .d (.sl (dxs.map Tm.row)), .d (.sl (dcs.map Cs.row))]] [(1000, .blk 117 [.d (.int c3)])] (.agg [.d (.int zk), .d (.int zn), .d (.str za), .d (.str zb), .d (strsD zvs), .d (.sl (zxs.map Tm.row)), .d (.sl (zcs.map Cs.row))]) [(1000, .blk 117 [.d (.int c2)])]] mixed ?_ (hr := by conv => lhs; simp [Tm.row, Tm.rows_eq, Cs.rows_eq, h1d, Cs.row])
    refine AWp.rg [] [] ?_ (hr := by conv => lhs; simp [Tm.row, Tm.rows_eq, Cs.rows_eq, h1d, Cs.row])
    refine ⟨⟨(i + 1, ds ++ [.mk dt dws (.mk zk zn za zb zvs zxs zcs)], c2), hi1, ⟨by rw [hap]; simp, by simp [hdl]⟩⟩, by simp; omega, ?_⟩
    dsimp only
    exact Le.sub (by simp [Cs.row, Tm.row, Tm.rows_eq, Cs.rows_eq, hdl]) (by simp [Cs.row, Tm.row, Tm.rows_eq, Cs.rows_eq, hdl])
  have hi1 : i = tcs.length := by have := of_decide_eq_false hc; omega
  subst hi1
  clear hc
  obtain ⟨hap, hdl⟩ := hw
  rw [List.drop_length, Cs.plL] at hap
  simp only [List.append_nil] at hap
  rw [hap] at hR
  try dsimp only at hR
  subst hR
  refine AWp.exit ?_
  refine AWp.rg [] [] ?_ (hr := by conv => lhs; simp [Tm.row, Tm.rows_eq, Cs.rows_eq])
  refine AWp.ret ?_
  try dsimp only [thenQ, blockQ]
  apply endC.retF [400]
  · rfl
  · conv => lhs; simp
  · conv => lhs; simp [resAV, Tryd.results159]
  · first | rfl | simp [resVal, tmAV, Tm.row, Tm.rows_eq, Cs.rows_eq, AV.nilD, nilDL, strsD]
  · simp [moEnd, memGet]
set_option maxRecDepth 20000 in
set_option maxHeartbeats 16000000 in
theorem pl_step (N : Nat) (ih : PlN N) : PlN (N + 1) := by
  intro t c hRt hO
  obtain ⟨R, hR⟩ : ∃ R, R = t.pl c := ⟨_, rfl⟩
  rw [← hR]
  obtain ⟨tk, tn, ta, tb, tvs, txs, tcs⟩ := t
  obtain ⟨hkk, hmany, h6, hxR, hcR0⟩ := hRt
  have hxO : ∀ x ∈ txs, x.Ok := fun x hx => Tm.Oks_iff.1 hO.2.2.1 x hx
  have hcR : ∀ d ∈ tcs, d.3.Rt N ∧ d.3.Ok := fun d hd => ⟨(hcR0 d hd).2, by
    obtain ⟨dt, dws, y⟩ := d
    exact (Cs.Oks_iff.1 hO.2.2.2 _ hd).2.2⟩
  refine CSpec.of Tryd.func109 rfl rfl (Nat.le_of_ble_eq_true rfl) ?_
  show AWp _ _ (endC _ Tryd.f109 _ _) (startC 46 _ _)
  refine AWp.rg [] [] ?_ (hr := by conv => lhs; simp [Tm.row, Tm.rows_eq, Cs.rows_eq])
  refine AWp.rg [] [] ?_ (hr := by conv => lhs; simp [Tm.row, Tm.rows_eq, Cs.rows_eq])
  by_cases q1 : tk = 3
  · refine AWp.rg [] [] ?_ (hr := by conv => lhs; simp [Tm.row, Tm.rows_eq, Cs.rows_eq, q1])
    refine AWp.cy ?_
    refine AWp.skip ?_
    refine AWp.cy ?_
    subst q1
    rw [Tm.pl, if_pos (by omega)] at hR
    have hal := all_any N ih 3 tn ta tb tvs txs tcs txs [] c (fun x hx => ⟨hxR x hx, hxO x hx⟩) (by simp; omega)
    simp only [List.nil_append] at hal
    generalize (Tm.ats txs c).2.2 = c2 at hal hR
    generalize around (Tm.ats txs c).2.1 (.mk 3 tn ta .empty [] (Tm.ats txs c).1 []) = z at hal hR
    subst hR
    obtain ⟨zk, zn, za, zb, zvs, zxs, zcs⟩ := z
    replace hal := CSpec.nilArgs (args := [.ptr 1000 0, .d (.sl (txs.map Tm.row)), .lit (.slice none 0 0), .clo 157 [.ptr 1001 0]]) hal
    refine AWp.rg [] [.c [(1001, 3)] [.ptr 1000 0, .d (.sl (txs.map Tm.row)), .lit (.slice none 0 0), .clo 157 [.ptr 1001 0]] [(1000, .blk 117 [.d (.int c)]), (1001, .blk 34 [.d (.int 3), .d (.int tn), .d (.str ta), .d (.str tb), .d (strsD tvs), .d (.sl (txs.map Tm.row)), .d (.sl (tcs.map Cs.row))])] (.agg [.d (.int zk), .d (.int zn), .d (.str za), .d (.str zb), .d (strsD zvs), .d (.sl (zxs.map Tm.row)), .d (.sl (zcs.map Cs.row))]) [(1000, .blk 117 [.d (.int c2)]), (1001, .blk 34 [.d (.int 3), .d (.int tn), .d (.str ta), .d (.str tb), .d (strsD tvs), .d (.sl (txs.map Tm.row)), .d (.sl (tcs.map Cs.row))])]] ?_ (hr := by conv => lhs; simp [Tm.row, Tm.rows_eq, Cs.rows_eq])
    refine AWp.ret ?_
    try dsimp only [thenQ, blockQ]
    apply endC.ret
    · rfl
    · conv => lhs; simp [resAV, Tryd.results109]
    · first | rfl | simp [resVal, tmAV, Tm.row, Tm.rows_eq, Cs.rows_eq, AV.nilD, nilDL, strsD]
    · simp [moEnd, memGet]
  refine AWp.rg [] [] ?_ (hr := by conv => lhs; simp [Tm.row, Tm.rows_eq, Cs.rows_eq, q1])
  refine AWp.cn ?_
  by_cases q2 : tk = 4
  · refine AWp.rg [] [] ?_ (hr := by conv => lhs; simp [Tm.row, Tm.rows_eq, Cs.rows_eq, q1, q2])
    refine AWp.cy ?_
    refine AWp.skip ?_
    refine AWp.cy ?_
    subst q2
    rw [Tm.pl, if_pos (by omega)] at hR
    have hal := all_any N ih 4 tn ta tb tvs txs tcs txs [] c (fun x hx => ⟨hxR x hx, hxO x hx⟩) (by simp; omega)
    simp only [List.nil_append] at hal
    generalize (Tm.ats txs c).2.2 = c2 at hal hR
    generalize around (Tm.ats txs c).2.1 (.mk 4 tn ta .empty [] (Tm.ats txs c).1 []) = z at hal hR
    subst hR
    obtain ⟨zk, zn, za, zb, zvs, zxs, zcs⟩ := z
    replace hal := CSpec.nilArgs (args := [.ptr 1000 0, .d (.sl (txs.map Tm.row)), .lit (.slice none 0 0), .clo 157 [.ptr 1001 0]]) hal
    refine AWp.rg [] [.c [(1001, 3)] [.ptr 1000 0, .d (.sl (txs.map Tm.row)), .lit (.slice none 0 0), .clo 157 [.ptr 1001 0]] [(1000, .blk 117 [.d (.int c)]), (1001, .blk 34 [.d (.int 4), .d (.int tn), .d (.str ta), .d (.str tb), .d (strsD tvs), .d (.sl (txs.map Tm.row)), .d (.sl (tcs.map Cs.row))])] (.agg [.d (.int zk), .d (.int zn), .d (.str za), .d (.str zb), .d (strsD zvs), .d (.sl (zxs.map Tm.row)), .d (.sl (zcs.map Cs.row))]) [(1000, .blk 117 [.d (.int c2)]), (1001, .blk 34 [.d (.int 4), .d (.int tn), .d (.str ta), .d (.str tb), .d (strsD tvs), .d (.sl (txs.map Tm.row)), .d (.sl (tcs.map Cs.row))])]] ?_ (hr := by conv => lhs; simp [Tm.row, Tm.rows_eq, Cs.rows_eq, q1])
    refine AWp.ret ?_
    try dsimp only [thenQ, blockQ]
    apply endC.ret
    · rfl
    · conv => lhs; simp [resAV, Tryd.results109]
    · first | rfl | simp [resVal, tmAV, Tm.row, Tm.rows_eq, Cs.rows_eq, AV.nilD, nilDL, strsD]
    · simp [moEnd, memGet]
  refine AWp.rg [] [] ?_ (hr := by conv => lhs; simp [Tm.row, Tm.rows_eq, Cs.rows_eq, q1, q2])
  refine AWp.cn ?_
  by_cases q3 : tk = 5
  · refine AWp.rg [] [] ?_ (hr := by conv => lhs; simp [Tm.row, Tm.rows_eq, Cs.rows_eq, q1, q2, q3])
    refine AWp.cy ?_
    subst q3
    rw [Tm.pl, if_pos (by omega)] at hR
    have hal := all_any N ih 5 tn ta tb tvs txs tcs txs [] c (fun x hx => ⟨hxR x hx, hxO x hx⟩) (by simp; omega)
    simp only [List.nil_append] at hal
    generalize (Tm.ats txs c).2.2 = c2 at hal hR
    generalize around (Tm.ats txs c).2.1 (.mk 5 tn ta .empty [] (Tm.ats txs c).1 []) = z at hal hR
    subst hR
    obtain ⟨zk, zn, za, zb, zvs, zxs, zcs⟩ := z
    replace hal := CSpec.nilArgs (args := [.ptr 1000 0, .d (.sl (txs.map Tm.row)), .lit (.slice none 0 0), .clo 157 [.ptr 1001 0]]) hal
    refine AWp.rg [] [.c [(1001, 3)] [.ptr 1000 0, .d (.sl (txs.map Tm.row)), .lit (.slice none 0 0), .clo 157 [.ptr 1001 0]] [(1000, .blk 117 [.d (.int c)]), (1001, .blk 34 [.d (.int 5), .d (.int tn), .d (.str ta), .d (.str tb), .d (strsD tvs), .d (.sl (txs.map Tm.row)), .d (.sl (tcs.map Cs.row))])] (.agg [.d (.int zk), .d (.int zn), .d (.str za), .d (.str zb), .d (strsD zvs), .d (.sl (zxs.map Tm.row)), .d (.sl (zcs.map Cs.row))]) [(1000, .blk 117 [.d (.int c2)]), (1001, .blk 34 [.d (.int 5), .d (.int tn), .d (.str ta), .d (.str tb), .d (strsD tvs), .d (.sl (txs.map Tm.row)), .d (.sl (tcs.map Cs.row))])]] ?_ (hr := by conv => lhs; simp [Tm.row, Tm.rows_eq, Cs.rows_eq, q1, q2])
    refine AWp.ret ?_
    try dsimp only [thenQ, blockQ]
    apply endC.ret
    · rfl
    · conv => lhs; simp [resAV, Tryd.results109]
    · first | rfl | simp [resVal, tmAV, Tm.row, Tm.rows_eq, Cs.rows_eq, AV.nilD, nilDL, strsD]
    · simp [moEnd, memGet]
  refine AWp.rg [] [] ?_ (hr := by conv => lhs; simp [Tm.row, Tm.rows_eq, Cs.rows_eq, q1, q2, q3])
  refine AWp.cn ?_
  by_cases q4 : tk = 6
  · refine AWp.rg [] [] ?_ (hr := by conv => lhs; simp [Tm.row, Tm.rows_eq, Cs.rows_eq, q1, q2, q3, q4])
    refine AWp.cy ?_
    subst q4
    have hx2 : txs.length = 2 ∧ tcs = [] := by
      unfold manyB at hmany
      simp at hmany
      exact hmany
    obtain ⟨hx2, rfl⟩ := hx2
    obtain ⟨x, y, rfl⟩ : ∃ x y, txs = [x, y] := by
      rcases txs with _ | ⟨x, _ | ⟨y, _ | ⟨z, l⟩⟩⟩
      · cases hx2
      · cases hx2
      · exact ⟨x, y, rfl⟩
      · simp at hx2
    have hxx := ih x c (hxR x (by simp)) (hxO x (by simp))
    rw [Tm.pl, if_neg (by omega), if_pos rfl, Tm.plL, Tm.plL, Tm.plL] at hR
    dsimp only at hR
    generalize x.pl c = o at hxx hR
    obtain ⟨z, c1⟩ := o
    dsimp only at hxx hR
    have hyy := ih y c1 (hxR y (by simp)) (hxO y (by simp))
    generalize y.pl c1 = o at hyy hR
    obtain ⟨u, c2⟩ := o
    dsimp only at hyy hR
    subst hR
    obtain ⟨xk, xn, xa, xb, xvs, xxs, xcs⟩ := x
    obtain ⟨yk, yn, ya, yb, yvs, yxs, ycs⟩ := y
    obtain ⟨zk, zn, za, zb, zvs, zxs, zcs⟩ := z
    obtain ⟨uk, un, ua, ub, uvs, uxs, ucs⟩ := u
    refine AWp.dw [] [.c [] [.ptr 1000 0, .agg [.d (.int xk), .d (.int xn), .d (.str xa), .d (.str xb), .d (strsD xvs), .d (.sl (xxs.map Tm.row)), .d (.sl (xcs.map Cs.row))]] [(1000, .blk 117 [.d (.int c)])] (.agg [.d (.int zk), .d (.int zn), .d (.str za), .d (.str zb), .d (strsD zvs), .d (.sl (zxs.map Tm.row)), .d (.sl (zcs.map Cs.row))]) [(1000, .blk 117 [.d (.int c1)])]] mixed ?_ (hr := by conv => lhs; simp [Tm.row, Tm.rows_eq, Cs.rows_eq, q1, q2, q3])
    refine AWp.dw [9] [.c [] [.ptr 1000 0, .agg [.d (.int yk), .d (.int yn), .d (.str ya), .d (.str yb), .d (strsD yvs), .d (.sl (yxs.map Tm.row)), .d (.sl (ycs.map Cs.row))]] [(1000, .blk 117 [.d (.int c1)])] (.agg [.d (.int uk), .d (.int un), .d (.str ua), .d (.str ub), .d (strsD uvs), .d (.sl (uxs.map Tm.row)), .d (.sl (ucs.map Cs.row))]) [(1000, .blk 117 [.d (.int c2)])]] mixed ?_ (hr := by conv => lhs; simp [Tm.row, Tm.rows_eq, Cs.rows_eq, q1, q2, q3])
    refine AWp.ret ?_
    try dsimp only [thenQ, blockQ]
    apply endC.ret
    · rfl
    · conv => lhs; simp [resAV, Tryd.results109]
    · first | rfl | simp [resVal, tmAV, Tm.row, Tm.rows_eq, Cs.rows_eq, AV.nilD, nilDL, strsD]
    · simp [moEnd, memGet]
  refine AWp.rg [] [] ?_ (hr := by conv => lhs; simp [Tm.row, Tm.rows_eq, Cs.rows_eq, q1, q2, q3, q4])
  refine AWp.cn ?_
  by_cases q5 : tk = 7
  · refine AWp.rg [] [] ?_ (hr := by conv => lhs; simp [Tm.row, Tm.rows_eq, Cs.rows_eq, q1, q2, q3, q4, q5])
    refine AWp.cy ?_
    subst q5
    have hx1 : txs.length = 1 := by
      unfold manyB at hmany
      simp at hmany
      exact hmany
    obtain ⟨x, rfl⟩ : ∃ x, txs = [x] := by
      rcases txs with _ | ⟨x, _ | ⟨y, l⟩⟩
      · cases hx1
      · exact ⟨x, rfl⟩
      · simp at hx1
    have hxx := ih x (wr (c + 1)) (hxR x (by simp)) (hxO x (by simp))
    rw [Tm.pl, if_neg (by omega), if_neg (by omega), if_pos rfl, Tm.ats] at hR
    obtain ⟨xk, xn, xa, xb, xvs, xxs, xcs⟩ := x
    have hsm : ∃ z c2, R = (z, c2) ∧ CSpec Tryd.prog 158 [.ptr 1000 0, tmAV (.mk xk xn xa xb xvs xxs xcs), .clo 159 [.ptr 1001 0, .ptr 1002 0]] [(1000, .blk 117 [.d (.int c)]), (1001, .blk 34 [.d (.int 7), .d (.int tn), .d (.str ta), .d (.str tb), .d (strsD tvs), .d (.sl (([.mk xk xn xa xb xvs xxs xcs]).map Tm.row)), .d (.sl (tcs.map Cs.row))]), (1002, .blk 115 [.ptr 1000 0])] (tmAV z) [(1000, .blk 117 [.d (.int c2)]), (1001, .blk 34 [.d (.int 7), .d (.int tn), .d (.str ta), .d (.str tb), .d (strsD tvs), .d (.sl (([.mk xk xn xa xb xvs xxs xcs]).map Tm.row)), .d (.sl (tcs.map Cs.row))]), (1002, .blk 115 [.ptr 1000 0])] := by
      rw [Tm.tk] at hR
      by_cases hk1 : xk = 1
      · subst hk1
        rw [if_pos rfl, Tm.ats] at hR
        dsimp only [around] at hR
        refine ⟨_, _, hR, ?_⟩
        have h3 := cs_pterm2 N ih c 7 tn ta tb tvs [.mk 1 xn xa xb xvs xxs xcs] tcs 1 xn xa xb xvs xxs xcs (by simp at h6; omega) hcR
        generalize Cs.plL tcs c = o at h3 ⊢
        obtain ⟨u, c2⟩ := o
        exact cs_simpleB1 c c c2 0 .empty 7 tn ta tb tvs [.mk 1 xn xa xb xvs xxs xcs] tcs 0 xn xa xb xvs xxs xcs 0 0 .empty .empty [] [] [] 7 0 .empty .empty [] [.mk 1 xn xa xb xvs xxs xcs] u h3
      · rw [if_neg hk1] at hR
        have hfr := cs_mkFresh c
        obtain ⟨e, he⟩ : ∃ e, e = wr (c + 1) := ⟨_, rfl⟩
        rw [← he] at hxx hfr hR
        obtain ⟨s, hs⟩ : ∃ s, s = wNm e := ⟨_, rfl⟩
        rw [← hs] at hfr hR
        generalize (Tm.mk xk xn xa xb xvs xxs xcs).pl e = o at hxx hR
        obtain ⟨y, c1⟩ := o
        dsimp only at hxx hR
        rw [Tm.ats] at hR
        dsimp only [around] at hR
        refine ⟨_, _, hR, ?_⟩
        have h3 := cs_pterm2 N ih c1 7 tn ta tb tvs [.mk xk xn xa xb xvs xxs xcs] tcs 1 0 s .empty [] [] [] (by simp at h6; omega) hcR
        generalize Cs.plL tcs c1 = o at h3 ⊢
        obtain ⟨u, c2⟩ := o
        obtain ⟨yk, yn, ya, yb, yvs, yxs, ycs⟩ := y
        exact cs_simpleB2 c c1 c2 e s 7 tn ta tb tvs [.mk xk xn xa xb xvs xxs xcs] tcs xk xn xa xb xvs xxs xcs yk yn ya yb yvs yxs ycs 7 0 .empty .empty [] [varT s] u hk1 hfr hxx h3
    obtain ⟨z, c2, rfl, hsm⟩ := hsm
    obtain ⟨zk, zn, za, zb, zvs, zxs, zcs⟩ := z
    clear hR
    simp only [List.map_cons, List.map_nil, Tm.row, Tm.rows_eq, Cs.rows_eq] at hsm
    refine AWp.dw [] [.c [(1001, 3), (1002, 2)] [.ptr 1000 0, .agg [.d (.int xk), .d (.int xn), .d (.str xa), .d (.str xb), .d (strsD xvs), .d (.sl (xxs.map Tm.row)), .d (.sl (xcs.map Cs.row))], .clo 159 [.ptr 1001 0, .ptr 1002 0]] [(1000, .blk 117 [.d (.int c)]), (1001, .blk 34 [.d (.int 7), .d (.int tn), .d (.str ta), .d (.str tb), .d (strsD tvs), .d (.sl (([.mk xk xn xa xb xvs xxs xcs]).map Tm.row)), .d (.sl (tcs.map Cs.row))]), (1002, .blk 115 [.ptr 1000 0])] (.agg [.d (.int zk), .d (.int zn), .d (.str za), .d (.str zb), .d (strsD zvs), .d (.sl (zxs.map Tm.row)), .d (.sl (zcs.map Cs.row))]) [(1000, .blk 117 [.d (.int c2)]), (1001, .blk 34 [.d (.int 7), .d (.int tn), .d (.str ta), .d (.str tb), .d (strsD tvs), .d (.sl (([.mk xk xn xa xb xvs xxs xcs]).map Tm.row)), .d (.sl (tcs.map Cs.row))]), (1002, .blk 115 [.ptr 1000 0])]] mixed ?_ (hr := by conv => lhs; simp [Tm.row, Tm.rows_eq, Cs.rows_eq, q1, q2, q3, q4])
    refine AWp.ret ?_
    try dsimp only [thenQ, blockQ]
    apply endC.ret
    · rfl
    · conv => lhs; simp [resAV, Tryd.results109]
    · first | rfl | simp [resVal, tmAV, Tm.row, Tm.rows_eq, Cs.rows_eq, AV.nilD, nilDL, strsD]
    · simp [moEnd, memGet]
  refine AWp.rg [] [] ?_ (hr := by conv => lhs; simp [Tm.row, Tm.rows_eq, Cs.rows_eq, q1, q2, q3, q4, q5])
  refine AWp.cn ?_
  refine AWp.skip ?_
  obtain rfl : R = (.mk tk tn ta tb tvs txs tcs, c) := by rw [hR, Tm.pl, if_neg (by omega), if_neg (by omega), if_neg (by omega)]
  refine AWp.rg [] [] ?_ (hr := by conv => lhs; simp [Tm.row, Tm.rows_eq, Cs.rows_eq, q1, q2, q3, q4, q5])
  refine AWp.ret ?_
  try dsimp only [thenQ, blockQ]
  apply endC.ret
  · rfl
  · conv => lhs; simp [resAV, Tryd.results109]
  · first | rfl | simp [resVal, tmAV, Tm.row, Tm.rows_eq, Cs.rows_eq, AV.nilD, nilDL, strsD]
  · simp [moEnd, memGet]
theorem pl_all : ∀ N, PlN N
  | 0 => fun _ _ h => h.elim
  | N + 1 => pl_step N (pl_all N)


theorem map_frR (ps : Ps) (ws us : List ByteArray) (h : us.length = ws.length) : List.map frR ps ++ List.map strR ws = List.map frR (ps ++ ws.zip us) := by
  rw [List.map_append]
  congr 1
  induction ws generalizing us with
  | nil => rfl
  | cons w r ih =>
    rcases us with _ | ⟨u, us⟩
    · cases h
    · simp only [List.map_cons, List.zip_cons_cons]
      rw [ih us (by simpa using h)]
      rfl
theorem map_toR (ps : Ps) (ws us : List ByteArray) (h : us.length = ws.length) : List.map toR ps ++ List.map strR us = List.map toR (ps ++ ws.zip us) := by
  rw [List.map_append]
  congr 1
  induction ws generalizing us with
  | nil => rcases us with _ | ⟨u, us⟩ <;> first | rfl | cases h
  | cons w r ih =>
    rcases us with _ | ⟨u, us⟩
    · cases h
    · simp only [List.map_cons, List.zip_cons_cons]
      rw [← ih us (by simpa using h)]
      rfl
set_option maxRecDepth 20000 in
set_option maxHeartbeats 16000000 in
theorem cs_bind1 (ps qs : Ps) (ws : List ByteArray) (c c2 : Int) (tk tn : Int) (ta ta2 tb : ByteArray) (tvs : List ByteArray) (tcs : List Cs) (R R2 : List (List D)) (hRl : R.length = 2) (hR2l : R2.length = 2) (hw6 : ws.length ≤ 6) (hps : ps.length + ws.length ≤ 1000) (hqd : qs = ps ++ ws.zip (freshL ws c))
    (hcl : CSpec Tryd.prog 151 [strsAV (freshL ws c), .ptr 1001 0, .ptr 1002 0] [(1000, .blk 113 [.arr 500 0 qs.length, .arr 501 0 qs.length, .d (.int (freshC ws c))]), (500, .arr 9 1 (qs.map frR)), (501, .arr 9 1 (qs.map toR)), (1001, .blk 34 [.d (.int tk), .d (.int tn), .d (.str ta), .d (.str tb), .d (strsD tvs), .arr 1003 0 2, .arr 1004 0 tcs.length]), (1002, .blk 111 [.ptr 1000 0]), (1003, .arr 34 7 R), (1004, .arr 40 9 (tcs.map Cs.row))] (.tuple []) [(1000, .blk 113 [.arr 500 0 qs.length, .arr 501 0 qs.length, .d (.int c2)]), (500, .arr 9 1 (qs.map frR)), (501, .arr 9 1 (qs.map toR)), (1001, .blk 34 [.d (.int tk), .d (.int tn), .d (.str ta2), .d (.str tb), .d (strsD tvs), .arr 1003 0 2, .arr 1004 0 tcs.length]), (1002, .blk 111 [.ptr 1000 0]), (1003, .arr 34 7 R2), (1004, .arr 40 9 (tcs.map Cs.row))]) :
    CSpec Tryd.prog 104 [.ptr 1000 0, strsAV ws, .clo 151 [.ptr 1001 0, .ptr 1002 0]] [(1000, .blk 113 [.arr 500 0 ps.length, .arr 501 0 ps.length, .d (.int c)]), (500, .arr 9 1 (ps.map frR)), (501, .arr 9 1 (ps.map toR)), (1001, .blk 34 [.d (.int tk), .d (.int tn), .d (.str ta), .d (.str tb), .d (strsD tvs), .arr 1003 0 2, .arr 1004 0 tcs.length]), (1002, .blk 111 [.ptr 1000 0]), (1003, .arr 34 7 R), (1004, .arr 40 9 (tcs.map Cs.row))] (.tuple []) [(1000, .blk 113 [.arr 500 0 ps.length, .arr 501 0 ps.length, .d (.int c2)]), (500, .arr 9 1 (ps.map frR)), (501, .arr 9 1 (ps.map toR)), (1001, .blk 34 [.d (.int tk), .d (.int tn), .d (.str ta2), .d (.str tb), .d (strsD tvs), .arr 1003 0 2, .arr 1004 0 tcs.length]), (1002, .blk 111 [.ptr 1000 0]), (1003, .arr 34 7 R2), (1004, .arr 40 9 (tcs.map Cs.row))] := by
  refine CSpec.of Tryd.func104 rfl rfl (Nat.le_of_ble_eq_true rfl) ?_
  show AWp _ _ (endC _ Tryd.f104 _ _) (startC 62 _ _)
  refine AWp.rg [] [] ?_
  refine AWp.rg [] [] ?_
  refine AWp.rg [] [] ?_
  repeat (first | refine AWp.seq ?_ | refine AWp.block ?_)
  refine AWp.le (Le.low [400] [] (fr := [(0, .ptr 1000 0), (1, .d (strsD ws)), (2, .clo 151 [.ptr 1001 0, .ptr 1002 0]), (6, .d (.int ps.length)), (7, .arr 400 0 ([] : List ByteArray).length), (14, .d (.int (ws.length : Int))), (15, .d (.int (0 : Int)))]) (mem := [(400, some (.arr 9 1 (([] : List ByteArray).map strR))), (500, some (.arr 9 1 (ps.map frR))), (501, some (.arr 9 1 (ps.map toR))), (1000, some (.blk 113 [.arr 500 0 ps.length, .arr 501 0 ps.length, .d (.int (c : Int))])), (1001, some (.blk 34 [.d (.int tk), .d (.int tn), .d (.str ta), .d (.str tb), .d (strsD tvs), .arr 1003 0 2, .arr 1004 0 tcs.length])), (1002, some (.blk 111 [.ptr 1000 0])), (1003, some (.arr 34 7 R)), (1004, some (.arr 40 9 (tcs.map Cs.row)))]) rfl (by simp) (by simp)) ?_
  refine AWp.loop (σ := fun u : {u : Nat × List ByteArray × Int // u.1 ≤ ws.length ∧ (freshL ws c = u.2.1 ++ freshL (ws.drop u.1) u.2.2 ∧ freshC ws c = freshC (ws.drop u.1) u.2.2 ∧ u.2.1.length = u.1)} => ⟨62, [(0, .ptr 1000 0), (1, .d (strsD ws)), (2, .clo 151 [.ptr 1001 0, .ptr 1002 0]), (6, .d (.int ps.length)), (7, .arr 400 0 u.1.2.1.length), (14, .d (.int (ws.length : Int))), (15, .d (.int (u.1.1 : Int)))], [(400, some (.arr 9 1 (u.1.2.1.map strR))), (500, some (.arr 9 1 (ps.map frR))), (501, some (.arr 9 1 (ps.map toR))), (1000, some (.blk 113 [.arr 500 0 ps.length, .arr 501 0 ps.length, .d (.int u.1.2.2)])), (1001, some (.blk 34 [.d (.int tk), .d (.int tn), .d (.str ta), .d (.str tb), .d (strsD tvs), .arr 1003 0 2, .arr 1004 0 tcs.length])), (1002, some (.blk 111 [.ptr 1000 0])), (1003, some (.arr 34 7 R)), (1004, some (.arr 40 9 (tcs.map Cs.row)))]⟩)
    (μ := fun u => ws.length - u.1.1) ⟨(0, [], c), ⟨Nat.zero_le _, ⟨by simp, by simp, rfl⟩⟩⟩ (Le.sub (by simp) (by simp)) (fun ⟨(i, us, k), ⟨hi3, hw⟩⟩ => ?_)
  dsimp only at hi3 hw ⊢
  refine AWp.rg [] [] ?_
  repeat (first | refine AWp.seq ?_ | refine AWp.block ?_)
  refine AWp.cond rfl (fun hc => ?_) (fun hc => ?_)
  · have hi1 : i < ws.length := by have := of_decide_eq_true hc; omega
    clear hc
    have h1x : ws[i]? = some ws[i] := List.getElem?_eq_getElem hi1
    have hmx : ws[i] ∈ ws := List.getElem_mem hi1
    have hdx : ws.drop i = ws[i] :: ws.drop (i + 1) := List.drop_eq_getElem_cons hi1
    generalize ws[i] = x at h1x hmx hdx
    obtain ⟨hfr, hfc, hul⟩ := hw
    obtain ⟨e, he⟩ : ∃ e : Int, wr (k + 1) = e := ⟨_, rfl⟩
    have hfs := cs_chFresh ps k
    rw [he] at hfs
    refine AWp.skip ?_
    refine AWp.rg [] [.c [] [.ptr 1000 0] [(1000, .blk 113 [.arr 500 0 ps.length, .arr 501 0 ps.length, .d (.int k)]), (500, .arr 9 1 (ps.map frR)), (501, .arr 9 1 (ps.map toR))] (.d (.str (vNm e))) [(1000, .blk 113 [.arr 500 0 ps.length, .arr 501 0 ps.length, .d (.int e)]), (500, .arr 9 1 (ps.map frR)), (501, .arr 9 1 (ps.map toR))]] ?_ (hr := by conv => lhs; simp [h1x])
    refine AWp.rg [] [] ?_ (hr := by conv => lhs; simp [h1x])
    refine ⟨⟨(i + 1, us ++ [vNm e], e), hi1, ⟨by rw [hfr, hdx, freshL, he]; simp, by rw [hfc, hdx, freshC, he], by simp [hul]⟩⟩, by simp; omega, ?_⟩
    dsimp only
    exact Le.sub (by simp) (by simp)
  have hi1 : i = ws.length := by have := of_decide_eq_false hc; omega
  subst hi1
  clear hc
  obtain ⟨hfr, hfc, hul⟩ := hw
  rw [List.drop_length, freshL, List.append_nil] at hfr
  rw [List.drop_length, freshC] at hfc
  rw [hfr, hfc] at hcl
  have hmf := map_frR ps ws us hul
  have hmt := map_toR ps ws us hul
  have hq1 : ps.length + ws.length = (ps ++ ws.zip us).length := by rw [List.length_append, List.length_zip]; omega
  have hq2 : ps.length + us.length = (ps ++ ws.zip us).length := by rw [List.length_append, List.length_zip]; omega
  have hqk : (ps ++ ws.zip us).take ps.length = ps := by simp
  rw [hfr] at hqd
  rw [← hqd] at hmf hmt hq1 hq2 hqk
  refine AWp.exit ?_
  apply AWp.frzs [400]
  · conv => lhs; simp
  refine AWp.dw [] [] mixed ?_ (hr := by conv => lhs; simp [hmf, hmt, hq1, hq2])
  refine AWp.rg [] [.c [] [.d (strsD us), .ptr 1001 0, .ptr 1002 0] [(1000, .blk 113 [.arr 500 0 qs.length, .arr 501 0 qs.length, .d (.int k)]), (500, .arr 9 1 (qs.map frR)), (501, .arr 9 1 (qs.map toR)), (1001, .blk 34 [.d (.int tk), .d (.int tn), .d (.str ta), .d (.str tb), .d (strsD tvs), .arr 1003 0 2, .arr 1004 0 tcs.length]), (1002, .blk 111 [.ptr 1000 0]), (1003, .arr 34 7 R), (1004, .arr 40 9 (tcs.map Cs.row))] (.tuple []) [(1000, .blk 113 [.arr 500 0 qs.length, .arr 501 0 qs.length, .d (.int c2)]), (500, .arr 9 1 (qs.map frR)), (501, .arr 9 1 (qs.map toR)), (1001, .blk 34 [.d (.int tk), .d (.int tn), .d (.str ta2), .d (.str tb), .d (strsD tvs), .arr 1003 0 2, .arr 1004 0 tcs.length]), (1002, .blk 111 [.ptr 1000 0]), (1003, .arr 34 7 R2), (1004, .arr 40 9 (tcs.map Cs.row))]] ?_
  refine AWp.dw [] [] mixed ?_
  try dsimp only [thenQ, blockQ]
  apply endC.le (Le.low [] [] (fr := []) (mem := [(1001, some (.blk 34 [.d (.int tk), .d (.int tn), .d (.str ta2), .d (.str tb), .d (strsD tvs), .arr 1003 0 2, .arr 1004 0 tcs.length])), (1002, some (.blk 111 [.ptr 1000 0])), (1003, some (.arr 34 7 R2)), (1004, some (.arr 40 9 (tcs.map Cs.row))), (1000, some (.blk 113 [.arr 500 0 ps.length, .arr 501 0 ps.length, .d (.int c2)])), (500, some (.arr 9 1 (qs.map frR))), (501, some (.arr 9 1 (qs.map toR)))]) rfl (by simp) (by simp))
  apply endC.le (Le.cut 500 ps.length rfl (by rw [← List.map_take, hqk]) (by rw [List.length_map]; omega) (by simp [frInK, AV.inK, AV.inKL]) (by simp [memInK, AV.inK, AV.inKL]))
  apply endC.le (Le.cut 501 ps.length rfl (by rw [← List.map_take, hqk]) (by rw [List.length_map]; omega) (by simp [frInK, AV.inK, AV.inKL]) (by simp [memInK, AV.inK, AV.inKL]))
  try dsimp only [thenQ, blockQ]
  apply endC.normal
  · rfl
  · conv => lhs; simp [resAV, Tryd.results104]
  · rfl
  · simp [moEnd, memGet]
set_option maxRecDepth 20000 in
set_option maxHeartbeats 16000000 in
theorem cs_bind2 (ps qs : Ps) (ws : List ByteArray) (c c2 : Int) (j : Nat) (R R2 : List (List D)) (hRl : R2.length = R.length) (hw6 : ws.length ≤ 6) (hps : ps.length + ws.length ≤ 1000) (hqd : qs = ps ++ ws.zip (freshL ws c))
    (hcl : CSpec Tryd.prog 152 [strsAV (freshL ws c), .ptr 1001 0, .ptr 1002 0] [(1000, .blk 113 [.arr 500 0 qs.length, .arr 501 0 qs.length, .d (.int (freshC ws c))]), (500, .arr 9 1 (qs.map frR)), (501, .arr 9 1 (qs.map toR)), (1001, .blk 153 [.eptr 1003 j 0]), (1002, .blk 111 [.ptr 1000 0]), (1003, .arr 40 9 R)] (.tuple []) [(1000, .blk 113 [.arr 500 0 qs.length, .arr 501 0 qs.length, .d (.int c2)]), (500, .arr 9 1 (qs.map frR)), (501, .arr 9 1 (qs.map toR)), (1001, .blk 153 [.eptr 1003 j 0]), (1002, .blk 111 [.ptr 1000 0]), (1003, .arr 40 9 R2)]) :
    CSpec Tryd.prog 104 [.ptr 1000 0, strsAV ws, .clo 152 [.ptr 1001 0, .ptr 1002 0]] [(1000, .blk 113 [.arr 500 0 ps.length, .arr 501 0 ps.length, .d (.int c)]), (500, .arr 9 1 (ps.map frR)), (501, .arr 9 1 (ps.map toR)), (1001, .blk 153 [.eptr 1003 j 0]), (1002, .blk 111 [.ptr 1000 0]), (1003, .arr 40 9 R)] (.tuple []) [(1000, .blk 113 [.arr 500 0 ps.length, .arr 501 0 ps.length, .d (.int c2)]), (500, .arr 9 1 (ps.map frR)), (501, .arr 9 1 (ps.map toR)), (1001, .blk 153 [.eptr 1003 j 0]), (1002, .blk 111 [.ptr 1000 0]), (1003, .arr 40 9 R2)] := by
  refine CSpec.of Tryd.func104 rfl rfl (Nat.le_of_ble_eq_true rfl) ?_
  show AWp _ _ (endC _ Tryd.f104 _ _) (startC 62 _ _)
  refine AWp.rg [] [] ?_
  refine AWp.rg [] [] ?_
  refine AWp.rg [] [] ?_
  repeat (first | refine AWp.seq ?_ | refine AWp.block ?_)
  refine AWp.le (Le.low [400] [] (fr := [(0, .ptr 1000 0), (1, .d (strsD ws)), (2, .clo 152 [.ptr 1001 0, .ptr 1002 0]), (6, .d (.int ps.length)), (7, .arr 400 0 ([] : List ByteArray).length), (14, .d (.int (ws.length : Int))), (15, .d (.int (0 : Int)))]) (mem := [(400, some (.arr 9 1 (([] : List ByteArray).map strR))), (500, some (.arr 9 1 (ps.map frR))), (501, some (.arr 9 1 (ps.map toR))), (1000, some (.blk 113 [.arr 500 0 ps.length, .arr 501 0 ps.length, .d (.int (c : Int))])), (1001, some (.blk 153 [.eptr 1003 j 0])), (1002, some (.blk 111 [.ptr 1000 0])), (1003, some (.arr 40 9 R))]) rfl (by simp) (by simp)) ?_
  refine AWp.loop (σ := fun u : {u : Nat × List ByteArray × Int // u.1 ≤ ws.length ∧ (freshL ws c = u.2.1 ++ freshL (ws.drop u.1) u.2.2 ∧ freshC ws c = freshC (ws.drop u.1) u.2.2 ∧ u.2.1.length = u.1)} => ⟨62, [(0, .ptr 1000 0), (1, .d (strsD ws)), (2, .clo 152 [.ptr 1001 0, .ptr 1002 0]), (6, .d (.int ps.length)), (7, .arr 400 0 u.1.2.1.length), (14, .d (.int (ws.length : Int))), (15, .d (.int (u.1.1 : Int)))], [(400, some (.arr 9 1 (u.1.2.1.map strR))), (500, some (.arr 9 1 (ps.map frR))), (501, some (.arr 9 1 (ps.map toR))), (1000, some (.blk 113 [.arr 500 0 ps.length, .arr 501 0 ps.length, .d (.int u.1.2.2)])), (1001, some (.blk 153 [.eptr 1003 j 0])), (1002, some (.blk 111 [.ptr 1000 0])), (1003, some (.arr 40 9 R))]⟩)
    (μ := fun u => ws.length - u.1.1) ⟨(0, [], c), ⟨Nat.zero_le _, ⟨by simp, by simp, rfl⟩⟩⟩ (Le.sub (by simp) (by simp)) (fun ⟨(i, us, k), ⟨hi3, hw⟩⟩ => ?_)
  dsimp only at hi3 hw ⊢
  refine AWp.rg [] [] ?_
  repeat (first | refine AWp.seq ?_ | refine AWp.block ?_)
  refine AWp.cond rfl (fun hc => ?_) (fun hc => ?_)
  · have hi1 : i < ws.length := by have := of_decide_eq_true hc; omega
    clear hc
    have h1x : ws[i]? = some ws[i] := List.getElem?_eq_getElem hi1
    have hmx : ws[i] ∈ ws := List.getElem_mem hi1
    have hdx : ws.drop i = ws[i] :: ws.drop (i + 1) := List.drop_eq_getElem_cons hi1
    generalize ws[i] = x at h1x hmx hdx
    obtain ⟨hfr, hfc, hul⟩ := hw
    obtain ⟨e, he⟩ : ∃ e : Int, wr (k + 1) = e := ⟨_, rfl⟩
    have hfs := cs_chFresh ps k
    rw [he] at hfs
    refine AWp.skip ?_
    refine AWp.rg [] [.c [] [.ptr 1000 0] [(1000, .blk 113 [.arr 500 0 ps.length, .arr 501 0 ps.length, .d (.int k)]), (500, .arr 9 1 (ps.map frR)), (501, .arr 9 1 (ps.map toR))] (.d (.str (vNm e))) [(1000, .blk 113 [.arr 500 0 ps.length, .arr 501 0 ps.length, .d (.int e)]), (500, .arr 9 1 (ps.map frR)), (501, .arr 9 1 (ps.map toR))]] ?_ (hr := by conv => lhs; simp [h1x])
    refine AWp.rg [] [] ?_ (hr := by conv => lhs; simp [h1x])
    refine ⟨⟨(i + 1, us ++ [vNm e], e), hi1, ⟨by rw [hfr, hdx, freshL, he]; simp, by rw [hfc, hdx, freshC, he], by simp [hul]⟩⟩, by simp; omega, ?_⟩
    dsimp only
    exact Le.sub (by simp) (by simp)
  have hi1 : i = ws.length := by have := of_decide_eq_false hc; omega
  subst hi1
  clear hc
  obtain ⟨hfr, hfc, hul⟩ := hw
  rw [List.drop_length, freshL, List.append_nil] at hfr
  rw [List.drop_length, freshC] at hfc
  rw [hfr, hfc] at hcl
  have hmf := map_frR ps ws us hul
  have hmt := map_toR ps ws us hul
  have hq1 : ps.length + ws.length = (ps ++ ws.zip us).length := by rw [List.length_append, List.length_zip]; omega
  have hq2 : ps.length + us.length = (ps ++ ws.zip us).length := by rw [List.length_append, List.length_zip]; omega
  have hqk : (ps ++ ws.zip us).take ps.length = ps := by simp
  rw [hfr] at hqd
  rw [← hqd] at hmf hmt hq1 hq2 hqk
  refine AWp.exit ?_
  apply AWp.frzs [400]
  · conv => lhs; simp
  refine AWp.dw [] [] mixed ?_ (hr := by conv => lhs; simp [hmf, hmt, hq1, hq2])
  refine AWp.rg [] [.c [] [.d (strsD us), .ptr 1001 0, .ptr 1002 0] [(1000, .blk 113 [.arr 500 0 qs.length, .arr 501 0 qs.length, .d (.int k)]), (500, .arr 9 1 (qs.map frR)), (501, .arr 9 1 (qs.map toR)), (1001, .blk 153 [.eptr 1003 j 0]), (1002, .blk 111 [.ptr 1000 0]), (1003, .arr 40 9 R)] (.tuple []) [(1000, .blk 113 [.arr 500 0 qs.length, .arr 501 0 qs.length, .d (.int c2)]), (500, .arr 9 1 (qs.map frR)), (501, .arr 9 1 (qs.map toR)), (1001, .blk 153 [.eptr 1003 j 0]), (1002, .blk 111 [.ptr 1000 0]), (1003, .arr 40 9 R2)]] ?_
  refine AWp.dw [] [] mixed ?_
  try dsimp only [thenQ, blockQ]
  apply endC.le (Le.low [] [] (fr := []) (mem := [(1001, some (.blk 153 [.eptr 1003 j 0])), (1002, some (.blk 111 [.ptr 1000 0])), (1003, some (.arr 40 9 R2)), (1000, some (.blk 113 [.arr 500 0 ps.length, .arr 501 0 ps.length, .d (.int c2)])), (500, some (.arr 9 1 (qs.map frR))), (501, some (.arr 9 1 (qs.map toR)))]) rfl (by simp) (by simp))
  apply endC.le (Le.cut 500 ps.length rfl (by rw [← List.map_take, hqk]) (by rw [List.length_map]; omega) (by simp [frInK, AV.inK, AV.inKL]) (by simp [memInK, AV.inK, AV.inKL]))
  apply endC.le (Le.cut 501 ps.length rfl (by rw [← List.map_take, hqk]) (by rw [List.length_map]; omega) (by simp [frInK, AV.inK, AV.inKL]) (by simp [memInK, AV.inK, AV.inKL]))
  try dsimp only [thenQ, blockQ]
  apply endC.normal
  · rfl
  · conv => lhs; simp [resAV, Tryd.results104]
  · rfl
  · simp [moEnd, memGet]
set_option maxRecDepth 20000 in
set_option maxHeartbeats 16000000 in
theorem cs_bind0 (ps qs : Ps) (ws : List ByteArray) (c c2 : Int) (fg : ByteArray) (fps us2 : List ByteArray) (fk fn zk zn : Int) (fa fb za zb : ByteArray) (fvs zvs : List ByteArray) (fxs zxs : List Tm) (fcs zcs : List Cs)  (hw6 : ws.length ≤ 6) (hps : ps.length + ws.length ≤ 1000) (hqd : qs = ps ++ ws.zip (freshL ws c))
    (hcl : CSpec Tryd.prog 105 [strsAV (freshL ws c), .ptr 1001 0, .ptr 1002 0, .ptr 1003 0] [(1000, .blk 113 [.arr 500 0 qs.length, .arr 501 0 qs.length, .d (.int (freshC ws c))]), (500, .arr 9 1 (qs.map frR)), (501, .arr 9 1 (qs.map toR)), (1001, .blk 36 [.d (.str fg), .lit (.slice none 0 0), .d (.int 0), .d (.int 0), .d (.str ByteArray.empty), .d (.str ByteArray.empty), .lit (.slice none 0 0), .lit (.slice none 0 0), .lit (.slice none 0 0)]), (1002, .blk 111 [.ptr 1000 0]), (1003, .blk 36 [.d (.str fg), .d (strsD fps), .d (.int fk), .d (.int fn), .d (.str fa), .d (.str fb), .d (strsD fvs), .d (.sl (fxs.map Tm.row)), .d (.sl (fcs.map Cs.row))])] (.tuple []) [(1000, .blk 113 [.arr 500 0 qs.length, .arr 501 0 qs.length, .d (.int c2)]), (500, .arr 9 1 (qs.map frR)), (501, .arr 9 1 (qs.map toR)), (1001, .blk 36 [.d (.str fg), .d (strsD us2), .d (.int zk), .d (.int zn), .d (.str za), .d (.str zb), .d (strsD zvs), .d (.sl (zxs.map Tm.row)), .d (.sl (zcs.map Cs.row))]), (1002, .blk 111 [.ptr 1000 0]), (1003, .blk 36 [.d (.str fg), .d (strsD fps), .d (.int fk), .d (.int fn), .d (.str fa), .d (.str fb), .d (strsD fvs), .d (.sl (fxs.map Tm.row)), .d (.sl (fcs.map Cs.row))])]) :
    CSpec Tryd.prog 104 [.ptr 1000 0, strsAV ws, .clo 105 [.ptr 1001 0, .ptr 1002 0, .ptr 1003 0]] [(1000, .blk 113 [.arr 500 0 ps.length, .arr 501 0 ps.length, .d (.int c)]), (500, .arr 9 1 (ps.map frR)), (501, .arr 9 1 (ps.map toR)), (1001, .blk 36 [.d (.str fg), .lit (.slice none 0 0), .d (.int 0), .d (.int 0), .d (.str ByteArray.empty), .d (.str ByteArray.empty), .lit (.slice none 0 0), .lit (.slice none 0 0), .lit (.slice none 0 0)]), (1002, .blk 111 [.ptr 1000 0]), (1003, .blk 36 [.d (.str fg), .d (strsD fps), .d (.int fk), .d (.int fn), .d (.str fa), .d (.str fb), .d (strsD fvs), .d (.sl (fxs.map Tm.row)), .d (.sl (fcs.map Cs.row))])] (.tuple []) [(1000, .blk 113 [.arr 500 0 ps.length, .arr 501 0 ps.length, .d (.int c2)]), (500, .arr 9 1 (ps.map frR)), (501, .arr 9 1 (ps.map toR)), (1001, .blk 36 [.d (.str fg), .d (strsD us2), .d (.int zk), .d (.int zn), .d (.str za), .d (.str zb), .d (strsD zvs), .d (.sl (zxs.map Tm.row)), .d (.sl (zcs.map Cs.row))]), (1002, .blk 111 [.ptr 1000 0]), (1003, .blk 36 [.d (.str fg), .d (strsD fps), .d (.int fk), .d (.int fn), .d (.str fa), .d (.str fb), .d (strsD fvs), .d (.sl (fxs.map Tm.row)), .d (.sl (fcs.map Cs.row))])] := by
  refine CSpec.of Tryd.func104 rfl rfl (Nat.le_of_ble_eq_true rfl) ?_
  show AWp _ _ (endC _ Tryd.f104 _ _) (startC 62 _ _)
  refine AWp.rg [] [] ?_
  refine AWp.rg [] [] ?_
  refine AWp.rg [] [] ?_
  repeat (first | refine AWp.seq ?_ | refine AWp.block ?_)
  refine AWp.le (Le.low [400] [] (fr := [(0, .ptr 1000 0), (1, .d (strsD ws)), (2, .clo 105 [.ptr 1001 0, .ptr 1002 0, .ptr 1003 0]), (6, .d (.int ps.length)), (7, .arr 400 0 ([] : List ByteArray).length), (14, .d (.int (ws.length : Int))), (15, .d (.int (0 : Int)))]) (mem := [(400, some (.arr 9 1 (([] : List ByteArray).map strR))), (500, some (.arr 9 1 (ps.map frR))), (501, some (.arr 9 1 (ps.map toR))), (1000, some (.blk 113 [.arr 500 0 ps.length, .arr 501 0 ps.length, .d (.int (c : Int))])), (1001, some (.blk 36 [.d (.str fg), .lit (.slice none 0 0), .d (.int 0), .d (.int 0), .d (.str ByteArray.empty), .d (.str ByteArray.empty), .lit (.slice none 0 0), .lit (.slice none 0 0), .lit (.slice none 0 0)])), (1002, some (.blk 111 [.ptr 1000 0])), (1003, some (.blk 36 [.d (.str fg), .d (strsD fps), .d (.int fk), .d (.int fn), .d (.str fa), .d (.str fb), .d (strsD fvs), .d (.sl (fxs.map Tm.row)), .d (.sl (fcs.map Cs.row))]))]) rfl (by simp) (by simp)) ?_
  refine AWp.loop (σ := fun u : {u : Nat × List ByteArray × Int // u.1 ≤ ws.length ∧ (freshL ws c = u.2.1 ++ freshL (ws.drop u.1) u.2.2 ∧ freshC ws c = freshC (ws.drop u.1) u.2.2 ∧ u.2.1.length = u.1)} => ⟨62, [(0, .ptr 1000 0), (1, .d (strsD ws)), (2, .clo 105 [.ptr 1001 0, .ptr 1002 0, .ptr 1003 0]), (6, .d (.int ps.length)), (7, .arr 400 0 u.1.2.1.length), (14, .d (.int (ws.length : Int))), (15, .d (.int (u.1.1 : Int)))], [(400, some (.arr 9 1 (u.1.2.1.map strR))), (500, some (.arr 9 1 (ps.map frR))), (501, some (.arr 9 1 (ps.map toR))), (1000, some (.blk 113 [.arr 500 0 ps.length, .arr 501 0 ps.length, .d (.int u.1.2.2)])), (1001, some (.blk 36 [.d (.str fg), .lit (.slice none 0 0), .d (.int 0), .d (.int 0), .d (.str ByteArray.empty), .d (.str ByteArray.empty), .lit (.slice none 0 0), .lit (.slice none 0 0), .lit (.slice none 0 0)])), (1002, some (.blk 111 [.ptr 1000 0])), (1003, some (.blk 36 [.d (.str fg), .d (strsD fps), .d (.int fk), .d (.int fn), .d (.str fa), .d (.str fb), .d (strsD fvs), .d (.sl (fxs.map Tm.row)), .d (.sl (fcs.map Cs.row))]))]⟩)
    (μ := fun u => ws.length - u.1.1) ⟨(0, [], c), ⟨Nat.zero_le _, ⟨by simp, by simp, rfl⟩⟩⟩ (Le.sub (by simp) (by simp)) (fun ⟨(i, us, k), ⟨hi3, hw⟩⟩ => ?_)
  dsimp only at hi3 hw ⊢
  refine AWp.rg [] [] ?_
  repeat (first | refine AWp.seq ?_ | refine AWp.block ?_)
  refine AWp.cond rfl (fun hc => ?_) (fun hc => ?_)
  · have hi1 : i < ws.length := by have := of_decide_eq_true hc; omega
    clear hc
    have h1x : ws[i]? = some ws[i] := List.getElem?_eq_getElem hi1
    have hmx : ws[i] ∈ ws := List.getElem_mem hi1
    have hdx : ws.drop i = ws[i] :: ws.drop (i + 1) := List.drop_eq_getElem_cons hi1
    generalize ws[i] = x at h1x hmx hdx
    obtain ⟨hfr, hfc, hul⟩ := hw
    obtain ⟨e, he⟩ : ∃ e : Int, wr (k + 1) = e := ⟨_, rfl⟩
    have hfs := cs_chFresh ps k
    rw [he] at hfs
    refine AWp.skip ?_
    refine AWp.rg [] [.c [] [.ptr 1000 0] [(1000, .blk 113 [.arr 500 0 ps.length, .arr 501 0 ps.length, .d (.int k)]), (500, .arr 9 1 (ps.map frR)), (501, .arr 9 1 (ps.map toR))] (.d (.str (vNm e))) [(1000, .blk 113 [.arr 500 0 ps.length, .arr 501 0 ps.length, .d (.int e)]), (500, .arr 9 1 (ps.map frR)), (501, .arr 9 1 (ps.map toR))]] ?_ (hr := by conv => lhs; simp [h1x])
    refine AWp.rg [] [] ?_ (hr := by conv => lhs; simp [h1x])
    refine ⟨⟨(i + 1, us ++ [vNm e], e), hi1, ⟨by rw [hfr, hdx, freshL, he]; simp, by rw [hfc, hdx, freshC, he], by simp [hul]⟩⟩, by simp; omega, ?_⟩
    dsimp only
    exact Le.sub (by simp) (by simp)
  have hi1 : i = ws.length := by have := of_decide_eq_false hc; omega
  subst hi1
  clear hc
  obtain ⟨hfr, hfc, hul⟩ := hw
  rw [List.drop_length, freshL, List.append_nil] at hfr
  rw [List.drop_length, freshC] at hfc
  rw [hfr, hfc] at hcl
  have hmf := map_frR ps ws us hul
  have hmt := map_toR ps ws us hul
  have hq1 : ps.length + ws.length = (ps ++ ws.zip us).length := by rw [List.length_append, List.length_zip]; omega
  have hq2 : ps.length + us.length = (ps ++ ws.zip us).length := by rw [List.length_append, List.length_zip]; omega
  have hqk : (ps ++ ws.zip us).take ps.length = ps := by simp
  rw [hfr] at hqd
  rw [← hqd] at hmf hmt hq1 hq2 hqk
  refine AWp.exit ?_
  apply AWp.frzs [400]
  · conv => lhs; simp
  refine AWp.dw [] [] mixed ?_ (hr := by conv => lhs; simp [hmf, hmt, hq1, hq2])
  refine AWp.rg [] [.c [] [.d (strsD us), .ptr 1001 0, .ptr 1002 0, .ptr 1003 0] [(1000, .blk 113 [.arr 500 0 qs.length, .arr 501 0 qs.length, .d (.int k)]), (500, .arr 9 1 (qs.map frR)), (501, .arr 9 1 (qs.map toR)), (1001, .blk 36 [.d (.str fg), .lit (.slice none 0 0), .d (.int 0), .d (.int 0), .d (.str ByteArray.empty), .d (.str ByteArray.empty), .lit (.slice none 0 0), .lit (.slice none 0 0), .lit (.slice none 0 0)]), (1002, .blk 111 [.ptr 1000 0]), (1003, .blk 36 [.d (.str fg), .d (strsD fps), .d (.int fk), .d (.int fn), .d (.str fa), .d (.str fb), .d (strsD fvs), .d (.sl (fxs.map Tm.row)), .d (.sl (fcs.map Cs.row))])] (.tuple []) [(1000, .blk 113 [.arr 500 0 qs.length, .arr 501 0 qs.length, .d (.int c2)]), (500, .arr 9 1 (qs.map frR)), (501, .arr 9 1 (qs.map toR)), (1001, .blk 36 [.d (.str fg), .d (strsD us2), .d (.int zk), .d (.int zn), .d (.str za), .d (.str zb), .d (strsD zvs), .d (.sl (zxs.map Tm.row)), .d (.sl (zcs.map Cs.row))]), (1002, .blk 111 [.ptr 1000 0]), (1003, .blk 36 [.d (.str fg), .d (strsD fps), .d (.int fk), .d (.int fn), .d (.str fa), .d (.str fb), .d (strsD fvs), .d (.sl (fxs.map Tm.row)), .d (.sl (fcs.map Cs.row))])]] ?_
  refine AWp.dw [] [] mixed ?_
  try dsimp only [thenQ, blockQ]
  apply endC.le (Le.low [] [] (fr := []) (mem := [(1001, some (.blk 36 [.d (.str fg), .d (strsD us2), .d (.int zk), .d (.int zn), .d (.str za), .d (.str zb), .d (strsD zvs), .d (.sl (zxs.map Tm.row)), .d (.sl (zcs.map Cs.row))])), (1002, some (.blk 111 [.ptr 1000 0])), (1003, some (.blk 36 [.d (.str fg), .d (strsD fps), .d (.int fk), .d (.int fn), .d (.str fa), .d (.str fb), .d (strsD fvs), .d (.sl (fxs.map Tm.row)), .d (.sl (fcs.map Cs.row))])), (1000, some (.blk 113 [.arr 500 0 ps.length, .arr 501 0 ps.length, .d (.int c2)])), (500, some (.arr 9 1 (qs.map frR))), (501, some (.arr 9 1 (qs.map toR)))]) rfl (by simp) (by simp))
  apply endC.le (Le.cut 500 ps.length rfl (by rw [← List.map_take, hqk]) (by rw [List.length_map]; omega) (by simp [frInK, AV.inK, AV.inKL]) (by simp [memInK, AV.inK, AV.inKL]))
  apply endC.le (Le.cut 501 ps.length rfl (by rw [← List.map_take, hqk]) (by rw [List.length_map]; omega) (by simp [frInK, AV.inK, AV.inKL]) (by simp [memInK, AV.inK, AV.inKL]))
  try dsimp only [thenQ, blockQ]
  apply endC.normal
  · rfl
  · conv => lhs; simp [resAV, Tryd.results104]
  · rfl
  · simp [moEnd, memGet]
end Go.Proofs.YtapiiklnnkkdlaaDoor

namespace Go.Proofs.YtapiiklnnkkdlaaDoor
open Go.RowKit
attribute [local simp] runD mkRc ldOf stOf stOk ldArg noAny dstOk guardOk opEff opEff0 effOp pureOp callOp zEff evA constAV scalAV Value.oneCell' frGet memGet startAS frOf isGoCall idIn AS.after nextR opnIds objIds AV.ids idsL AObj.ids frNo memNo opnAny isAny mkVal rdCells wrCells fldAddr idxAddr srcRows litRows toD1 toDs setAt sliceAV optI partAV bldAV fillAV binAV binI AV.cells callEff calleeOf frKill memKill AV.kill AObj.kill AV.has AV.hasL Op.operands Call.operands keepF keepM viewIds cChk renOf moGet moWs moQ cEff moLike moHave AV.ren renL AObj.ren AObj.like kept startC moMem AV.frz frz1 frzL frSub memSub frzs AS.frz frFrz memFrz AObj.frz takeMap takeLen bleF Nat.ble_eq memAny objAny mapOp D.keyOk rowAV valRow extOp wrapOp phO
set_option linter.unusedVariables false
set_option linter.unusedSimpArgs false
def TermN (N : Nat) : Prop := ∀ (t : Tm) (ps : Ps) (c : Int), t.Rt N → t.Ok → ps.length + 6 * N ≤ 1000 →
  CSpec Tryd.prog 106 [.ptr 1000 0, tmAV t] [(1000, chO ps.length c), (500, frO ps), (501, toO ps)] (tmAV (t.rn ps c).1) [(1000, chO ps.length (t.rn ps c).2), (500, frO ps), (501, toO ps)]
set_option maxRecDepth 20000 in
set_option maxHeartbeats 16000000 in
theorem cs_term1 (ps : Ps) (c c2 : Int) (v : ByteArray) (tk tn : Int) (ta tb : ByteArray) (tvs : List ByteArray) (tcs : List Cs) (r0 : List D) (yk yn zk zn : Int) (ya yb za zb : ByteArray) (yvs zvs : List ByteArray) (yxs zxs : List Tm) (ycs zcs : List Cs)
    (hx : CSpec Tryd.prog 106 [.ptr 1000 0, tmAV (.mk yk yn ya yb yvs yxs ycs)] [(1000, chO ps.length c), (500, frO ps), (501, toO ps)] (tmAV (.mk zk zn za zb zvs zxs zcs)) [(1000, chO ps.length c2), (500, frO ps), (501, toO ps)]) :
    CSpec Tryd.prog 151 [.d (.sl [[.str v]]), .ptr 1001 0, .ptr 1002 0] [(1000, .blk 113 [.arr 500 0 ps.length, .arr 501 0 ps.length, .d (.int c)]), (500, .arr 9 1 (ps.map frR)), (501, .arr 9 1 (ps.map toR)), (1001, .blk 34 [.d (.int tk), .d (.int tn), .d (.str ta), .d (.str tb), .d (strsD tvs), .arr 1003 0 2, .arr 1004 0 tcs.length]), (1002, .blk 111 [.ptr 1000 0]), (1003, .arr 34 7 ([r0, Tm.row (.mk yk yn ya yb yvs yxs ycs)])), (1004, .arr 40 9 (tcs.map Cs.row))] (.tuple []) [(1000, .blk 113 [.arr 500 0 ps.length, .arr 501 0 ps.length, .d (.int c2)]), (500, .arr 9 1 (ps.map frR)), (501, .arr 9 1 (ps.map toR)), (1001, .blk 34 [.d (.int tk), .d (.int tn), .d (.str v), .d (.str tb), .d (strsD tvs), .arr 1003 0 2, .arr 1004 0 tcs.length]), (1002, .blk 111 [.ptr 1000 0]), (1003, .arr 34 7 ([r0, Tm.row (.mk zk zn za zb zvs zxs zcs)])), (1004, .arr 40 9 (tcs.map Cs.row))] := by
  refine CSpec.of Tryd.func151 rfl rfl (Nat.le_of_ble_eq_true rfl) ?_
  show AWp _ _ (endC _ Tryd.f151 _ _) (startC 17 _ _)
  refine AWp.rg [] [] ?_ (hr := by conv => lhs; simp [Tm.row, Tm.rows_eq, Cs.rows_eq])
  refine AWp.dw [] [.c [] [.ptr 1000 0, .agg [.d (.int yk), .d (.int yn), .d (.str ya), .d (.str yb), .d (strsD yvs), .d (.sl (yxs.map Tm.row)), .d (.sl (ycs.map Cs.row))]] [(1000, .blk 113 [.arr 500 0 ps.length, .arr 501 0 ps.length, .d (.int c)]), (500, .arr 9 1 (ps.map frR)), (501, .arr 9 1 (ps.map toR))] (.agg [.d (.int zk), .d (.int zn), .d (.str za), .d (.str zb), .d (strsD zvs), .d (.sl (zxs.map Tm.row)), .d (.sl (zcs.map Cs.row))]) [(1000, .blk 113 [.arr 500 0 ps.length, .arr 501 0 ps.length, .d (.int c2)]), (500, .arr 9 1 (ps.map frR)), (501, .arr 9 1 (ps.map toR))]] mixed ?_ (hr := by conv => lhs; simp [Tm.row, Tm.rows_eq, Cs.rows_eq])
  try dsimp only [thenQ, blockQ]
  apply endC.normal
  · rfl
  · conv => lhs; simp [resAV, Tryd.results151]
  · rfl
  · simp [moEnd, memGet, Tm.row, Tm.rows_eq, Cs.rows_eq]
set_option maxRecDepth 20000 in
set_option maxHeartbeats 16000000 in
theorem cs_term2 (ps : Ps) (c c2 : Int) (us dws : List ByteArray) (dt : Int) (j : Nat) (R R1 R2 : List (List D)) (yk yn zk zn : Int) (ya yb za zb : ByteArray) (yvs zvs : List ByteArray) (yxs zxs : List Tm) (ycs zcs : List Cs)
    (hR0 : R[j]? = some [.int dt, strsD dws, .int yk, .int yn, .str ya, .str yb, strsD yvs, .sl (yxs.map Tm.row), .sl (ycs.map Cs.row)]) (hR1 : R.set j [.int dt, strsD us, .int yk, .int yn, .str ya, .str yb, strsD yvs, .sl (yxs.map Tm.row), .sl (ycs.map Cs.row)] = R1) (hR1g : R1[j]? = some [.int dt, strsD us, .int yk, .int yn, .str ya, .str yb, strsD yvs, .sl (yxs.map Tm.row), .sl (ycs.map Cs.row)]) (hR2 : R1.set j [.int dt, strsD us, .int zk, .int zn, .str za, .str zb, strsD zvs, .sl (zxs.map Tm.row), .sl (zcs.map Cs.row)] = R2)
    (hx : CSpec Tryd.prog 106 [.ptr 1000 0, tmAV (.mk yk yn ya yb yvs yxs ycs)] [(1000, chO ps.length c), (500, frO ps), (501, toO ps)] (tmAV (.mk zk zn za zb zvs zxs zcs)) [(1000, chO ps.length c2), (500, frO ps), (501, toO ps)]) :
    CSpec Tryd.prog 152 [strsAV us, .ptr 1001 0, .ptr 1002 0] [(1000, .blk 113 [.arr 500 0 ps.length, .arr 501 0 ps.length, .d (.int c)]), (500, .arr 9 1 (ps.map frR)), (501, .arr 9 1 (ps.map toR)), (1001, .blk 153 [.eptr 1003 j 0]), (1002, .blk 111 [.ptr 1000 0]), (1003, .arr 40 9 R)] (.tuple []) [(1000, .blk 113 [.arr 500 0 ps.length, .arr 501 0 ps.length, .d (.int c2)]), (500, .arr 9 1 (ps.map frR)), (501, .arr 9 1 (ps.map toR)), (1001, .blk 153 [.eptr 1003 j 0]), (1002, .blk 111 [.ptr 1000 0]), (1003, .arr 40 9 R2)] := by
  refine CSpec.of Tryd.func152 rfl rfl (Nat.le_of_ble_eq_true rfl) ?_
  show AWp _ _ (endC _ Tryd.f152 _ _) (startC 17 _ _)
  refine AWp.rg [] [] ?_ (hr := by conv => lhs; simp [Tm.row, Tm.rows_eq, Cs.rows_eq, hR0, hR1])
  refine AWp.dw [] [.c [] [.ptr 1000 0, .agg [.d (.int yk), .d (.int yn), .d (.str ya), .d (.str yb), .d (strsD yvs), .d (.sl (yxs.map Tm.row)), .d (.sl (ycs.map Cs.row))]] [(1000, .blk 113 [.arr 500 0 ps.length, .arr 501 0 ps.length, .d (.int c)]), (500, .arr 9 1 (ps.map frR)), (501, .arr 9 1 (ps.map toR))] (.agg [.d (.int zk), .d (.int zn), .d (.str za), .d (.str zb), .d (strsD zvs), .d (.sl (zxs.map Tm.row)), .d (.sl (zcs.map Cs.row))]) [(1000, .blk 113 [.arr 500 0 ps.length, .arr 501 0 ps.length, .d (.int c2)]), (500, .arr 9 1 (ps.map frR)), (501, .arr 9 1 (ps.map toR))]] mixed ?_ (hr := by conv => lhs; simp [Tm.row, Tm.rows_eq, Cs.rows_eq, hR1g, hR2])
  try dsimp only [thenQ, blockQ]
  apply endC.normal
  · rfl
  · conv => lhs; simp [resAV, Tryd.results152]
  · rfl
  · simp [moEnd, memGet]
end Go.Proofs.YtapiiklnnkkdlaaDoor
