import Derived.Test.YtapiiklnnkkdlaaDoorBackB
import Derived.Test.YtapiiklnnkkdlaaDoorNameH
import Derived.Test.YtapiiklnnkkdlaaDoorNameY
/- xclaw5.fn, alive, PlainSame. Printed by a small program. -/
namespace Go.Proofs.YtapiiklnnkkdlaaDoor
open Go.RowKit
attribute [local simp] runD mkRc ldOf stOf stOk ldArg noAny dstOk guardOk opEff opEff0 effOp pureOp callOp zEff evA constAV scalAV Value.oneCell' frGet memGet startAS frOf isGoCall idIn AS.after nextR opnIds objIds AV.ids idsL AObj.ids frNo memNo opnAny isAny mkVal rdCells wrCells fldAddr idxAddr srcRows litRows toD1 toDs setAt sliceAV optI partAV bldAV fillAV binAV binI AV.cells callEff calleeOf frKill memKill AV.kill AObj.kill AV.has AV.hasL Op.operands Call.operands keepF keepM viewIds cChk renOf moGet moWs moQ cEff moLike moHave AV.ren renL AObj.ren AObj.like kept startC moMem AV.frz frz1 frzL frSub memSub frzs AS.frz frFrz memFrz AObj.frz takeMap takeLen bleF Nat.ble_eq memAny objAny mapOp D.keyOk rowAV valRow extOp wrapOp phO
set_option linter.unusedVariables false
set_option linter.unusedSimpArgs false
@[simp] theorem le_maxLen18y : 18 ≤ maxLen := by decide
@[simp] theorem le_maxLen24y : 24 ≤ maxLen := by decide
@[simp] theorem le_maxLen52y : 52 ≤ maxLen := by decide
def txD : ByteArray := ⟨#[40, 102, 110, 32, 102, 32, 40, 120, 41, 32, 40, 43, 32, 40, 42, 32, 120, 32, 50, 41, 32, 120, 41, 41]⟩
def fD : Fn := fnHq (parseP false txD).1
theorem fD_eq : (parseP false txD).1 = [fD] := by kernel_rfl
theorem fD_pt : fD.body.Ok ∧ fD.body.Rt 25 ∧ fD.params.length ≤ 6 := one_pt fD_eq (fnsOk_of (by kernel_rfl)) (by kernel_rfl)
def txE5 : ByteArray := ⟨#[40, 102, 110, 32, 102, 32, 40, 120, 41, 32, 40, 43, 32, 120, 32, 49, 41, 41]⟩
def fE : Fn := fnHq (parseP false txE5).1
theorem fE_eq : (parseP false txE5).1 = [fE] := by kernel_rfl
theorem fE_pt : fE.body.Ok ∧ fE.body.Rt 25 ∧ fE.params.length ≤ 6 := one_pt fE_eq (fnsOk_of (by kernel_rfl)) (by kernel_rfl)
theorem fD_pl : fD.pl.body.Ok ∧ fD.pl.body.Rt 25 ∧ fD.pl.params.length ≤ 6 := one_pt (l := [fD.pl]) rfl (fnsOk_of (by kernel_rfl)) (by kernel_rfl)
theorem fD_is : fD.pl.body.isP = true := by kernel_rfl
theorem fE_is : fE.body.isP = false := by kernel_rfl
theorem fD_ok : fD.pl.okB = true := by kernel_rfl
theorem fD_wt : Nat.ble (Fn.wtL [fD.pl]) 1000000 = true := by kernel_rfl
theorem fD_sh : Fn.shL [fD.pl] ⟨#[]⟩ = ⟨#[40, 102, 110, 32, 102, 32, 40, 118, 49, 41, 32, 40, 108, 101, 116, 32, 119, 49, 32, 40, 108, 101, 116, 32, 119, 50, 32, 50, 32, 40, 42, 32, 118, 49, 32, 119, 50, 41, 41, 32, 40, 43, 32, 119, 49, 32, 118, 49, 41, 41, 41, 10]⟩ := by kernel_rfl
set_option maxRecDepth 20000 in
set_option maxHeartbeats 16000000 in
theorem sp_fn5 (s : ByteArray) (f : Fn) (h : (parseP false s).1 = [f]) : PSpec Tryd.prog 64 [.d (.str s)] (fun _ => fnAV f) none := by
  have hP := sp_Parse s
  generalize parseP false s = o at hP h
  obtain ⟨L, E⟩ := o
  dsimp only at hP h
  subst h
  obtain ⟨fg, fps, ⟨fk, fn, fa, fb, fvs, fxs, fcs⟩⟩ := f
  simp only [fnsAV, List.map_cons, List.map_nil, Fn.row, Tm.row, Tm.rows_eq, Cs.rows_eq, strR] at hP
  refine PSpec.of Tryd.func64 rfl rfl rfl (Nat.le_of_ble_eq_true rfl) ?_
  show AWp _ _ (endQ _ Tryd.f64 _ _ _) (startAS 13 _)
  refine AWp.rg [] [] ?_ (hr := by conv => lhs; simp [Fn.row, Tm.row, Tm.rows_eq, Cs.rows_eq])
  refine AWp.rg [] [.p (fun _ => .tuple [.d (.sl [[.str fg, strsD fps, .int fk, .int fn, .str fa, .str fb, strsD fvs, .sl (fxs.map Tm.row), .sl (fcs.map Cs.row)]]), .d (.int E)]) none] ?_ (hr := by conv => lhs; simp [Fn.row, Tm.row, Tm.rows_eq, Cs.rows_eq])
  refine AWp.rg [] [] ?_ (hr := by conv => lhs; simp [Fn.row, Tm.row, Tm.rows_eq, Cs.rows_eq])
  refine AWp.ret ?_
  try dsimp only [thenQ, blockQ]
  apply endQ.ret
  · rfl
  · conv => lhs; simp [resAV, Tryd.results64]
  first | rfl | simp [resVal]
set_option maxRecDepth 20000 in
set_option maxHeartbeats 16000000 in
theorem sp_alive5 : PSpec Tryd.prog 23 [] (fun _ => .d (.bool true)) none := by
  have ha := sp_fn5 txD fD fD_eq
  have hb := sp_fn5 txE5 fE fE_eq
  unfold txD at ha
  unfold txE5 at hb
  have pA := fD_pt
  have pB := fE_pt
  have pG := fD_pl
  have hi1 := fD_is
  have hi2 := fE_is
  have hok := fD_ok
  have hwt := Nat.le_of_ble_eq_true fD_wt
  have hsh := fD_sh
  generalize fD = a at *
  generalize fE = b at *
  have h1 := sp_PlFn a pA.1 pA.2.1 pA.2.2
  have hpr := sp_Print [a.pl] (fun f hf => by rw [List.mem_singleton.1 hf]; exact (Fn.okB_ok hok).2) (by omega)
  rw [hsh] at hpr
  have hl1 := isP_all 25 a.pl.body pG.2.1
  rw [hi1] at hl1
  have hl2 := isP_all 25 b.body pB.2.1
  rw [hi2] at hl2
  have hall := sp_PlAll [a.pl] (by simp) (fun f hf => by rw [List.mem_singleton.1 hf]; exact pG)
  rw [List.map_cons, List.map_nil] at hall
  clear pA pB pG hi1 hi2 hok hwt hsh
  generalize a.pl.pl = k at hall
  generalize a.pl = g at *
  obtain ⟨ag, aps, ⟨ak, an, aa, ab, avs, axs, acs⟩⟩ := a
  obtain ⟨bg, bps, ⟨bk, bn, ba, bb, bvs, bxs, bcs⟩⟩ := b
  obtain ⟨gg, gps, ⟨gk, gn, ga, gb, gvs, gxs, gcs⟩⟩ := g
  obtain ⟨kg, kps, ⟨kk, kn, ka, kb, kvs, kxs, kcs⟩⟩ := k
  simp only [fnsAV, List.map_cons, List.map_nil, Fn.row, Tm.row, Tm.rows_eq, Cs.rows_eq, strR] at hpr hall
  try dsimp only [fnAV, tmAV] at ha
  try dsimp only [fnAV, tmAV] at hb
  try dsimp only [fnAV, tmAV] at h1
  try dsimp only [fnAV, tmAV] at hpr
  try dsimp only [fnAV, tmAV] at hl1
  try dsimp only [fnAV, tmAV] at hl2
  try dsimp only [fnAV, tmAV] at hall
  refine PSpec.of Tryd.func23 rfl rfl rfl (Nat.le_of_ble_eq_true rfl) ?_
  show AWp _ _ (endQ _ Tryd.f23 _ _ _) (startAS 26 _)
  refine AWp.rg [] [] ?_ (hr := by conv => lhs; simp [Fn.row, Tm.row, Tm.rows_eq, Cs.rows_eq])
  refine AWp.rg [] [.p (fun _ => .agg [.d (.str ag), .d (strsD aps), .d (.int ak), .d (.int an), .d (.str aa), .d (.str ab), .d (strsD avs), .d (.sl (axs.map Tm.row)), .d (.sl (acs.map Cs.row))]) none, .p (fun _ => .agg [.d (.str gg), .d (strsD gps), .d (.int gk), .d (.int gn), .d (.str ga), .d (.str gb), .d (strsD gvs), .d (.sl (gxs.map Tm.row)), .d (.sl (gcs.map Cs.row))]) none] ?_ (hr := by conv => lhs; simp [Fn.row, Tm.row, Tm.rows_eq, Cs.rows_eq])
  refine AWp.rg [1, 17] [.p (fun _ => .d (.str (⟨#[40, 102, 110, 32, 102, 32, 40, 118, 49, 41, 32, 40, 108, 101, 116, 32, 119, 49, 32, 40, 108, 101, 116, 32, 119, 50, 32, 50, 32, 40, 42, 32, 118, 49, 32, 119, 50, 41, 41, 32, 40, 43, 32, 119, 49, 32, 118, 49, 41, 41, 41, 10]⟩))) none, .p (fun _ => .d (.bool true)) none, .p (fun _ => .agg [.d (.str bg), .d (strsD bps), .d (.int bk), .d (.int bn), .d (.str ba), .d (.str bb), .d (strsD bvs), .d (.sl (bxs.map Tm.row)), .d (.sl (bcs.map Cs.row))]) none, .p (fun _ => .d (.bool false)) none, .p (fun _ => .d (.sl [[.str kg, strsD kps, .int kk, .int kn, .str ka, .str kb, strsD kvs, .sl (kxs.map Tm.row), .sl (kcs.map Cs.row)]])) none] ?_ (hr := by conv => lhs; simp [Fn.row, Tm.row, Tm.rows_eq, Cs.rows_eq])
  refine AWp.ret ?_
  try dsimp only [thenQ, blockQ]
  apply endQ.ret
  · rfl
  · conv => lhs; simp [resAV, Tryd.results23]
  rfl
set_option maxRecDepth 20000 in
set_option maxHeartbeats 16000000 in
theorem sp_PlainSame (l : List Fn) (name : ByteArray) (args : List Int) (fuel : Int) (hl : FnsOk l) (ha : args.length ≤ 1048576) : PSpec Tryd.prog 14 [fnsAV l, .d (.str name), intsAV args, .d (.int fuel)] (fun _ => .d (.bool true)) none := by
  have hal := sp_alive5
  have hkl := sp_refCheck l hl
  obtain ⟨cl, hcl⟩ : ∃ c, c = checkE l := ⟨_, rfl⟩
  rw [← hcl] at hkl
  refine PSpec.of Tryd.func14 rfl rfl rfl (Nat.le_of_ble_eq_true rfl) ?_
  show AWp _ _ (endQ _ Tryd.f14 _ _ _) (startAS 63 _)
  refine AWp.rg [] [] ?_ (hr := by conv => lhs; simp [Fn.row, Tm.row, Tm.rows_eq, Cs.rows_eq, Tryd.underlying4])
  refine AWp.rg [] [.p (fun _ => .d (.bool true)) none] ?_ (hr := by conv => lhs; simp [Fn.row, Tm.row, Tm.rows_eq, Cs.rows_eq, Tryd.underlying4])
  refine AWp.cn ?_
  refine AWp.skip ?_
  by_cases q1 : cl = 0
  · have q1t := eq_true q1
    refine AWp.rg [] [.p (fun _ => .d (.int cl)) none] ?_ (hr := by conv => lhs; simp [Fn.row, Tm.row, Tm.rows_eq, Cs.rows_eq, Tryd.underlying4, q1t])
    refine AWp.cn ?_
    refine AWp.skip ?_
    have hc0 : checkE l = 0 := hcl.symm.trans q1
    have hall := sp_PlAll l hl.len (right_all hl hc0)
    have hr : ∀ x ∈ l, x.Fit (arOf l) := fun x hx => ((check_zero hc0).2.2.2 x hx).fit
    have hr1 := pl_fit hl hc0
    have hbo := pl_body hl hc0
    have hml : (l.map Fn.pl).length = l.length := List.length_map ..
    have hll := hl.len
    have hR1 := sp_evRun l name args fuel hl.len (fun x hx => (hl.all x hx).body) hr ha
    have hR2 := sp_evRun (l.map Fn.pl) name args fuel (by omega) (fun x hx => (hbo x hx).1) hr1 ha
    rw [runE_pl_of hl hc0 name args fuel] at hR2
    have hok := runE_ok l hr name args fuel
    clear hr1
    generalize l.map Fn.pl = m at *
    generalize runE true l name args fuel = R1 at hR1 hR2 hok
    obtain ⟨⟨rc, rn, rks⟩, e1⟩ := R1
    dsimp only at hok hR1 hR2
    have hS := sp_refSameValue (.mk rc rn rks) (.mk rc rn rks) hok
    rw [eqB_self] at hS
    dsimp only [vlAV] at hS
    refine AWp.rg [] [.p (fun _ => .d (.sl (m.map Fn.row))) none] ?_ (hr := by conv => lhs; simp [Fn.row, Tm.row, Tm.rows_eq, Cs.rows_eq, Tryd.underlying4, q1t])
    by_cases q2 : (m.length : Int) = (l.length : Int)
    · have q2t := eq_true q2
      refine AWp.rg [] [] ?_ (hr := by conv => lhs; simp [Fn.row, Tm.row, Tm.rows_eq, Cs.rows_eq, Tryd.underlying4, q1t, q2t])
      refine AWp.cn ?_
      refine AWp.skip ?_
      refine AWp.rg [] [] ?_ (hr := by conv => lhs; simp [Fn.row, Tm.row, Tm.rows_eq, Cs.rows_eq, Tryd.underlying4, q1t, q2t])
      repeat (first | refine AWp.seq ?_ | refine AWp.block ?_)
      refine AWp.loop (σ := fun u : {u : Nat // u ≤ m.length} => ⟨63, [(0, .d (.sl (l.map Fn.row))), (1, .d (.str name)), (2, .d (.sl (args.map intR))), (3, .d (.int fuel)), (9, .d (.sl (m.map Fn.row))), (28, .d (.sl (m.map Fn.row))), (29, .d (.int (m.length : Int))), (30, .d (.int (u.1 : Int)))], []⟩)
        (μ := fun u => m.length - u.1) ⟨0, Nat.zero_le _⟩ (Le.sub (by simp) (by simp)) (fun ⟨i, hi9⟩ => ?_)
      dsimp only
      refine AWp.rg [] [] ?_ (hr := by conv => lhs; simp [Fn.row, Tm.row, Tm.rows_eq, Cs.rows_eq, Tryd.underlying4, q1t, q2t])
      repeat (first | refine AWp.seq ?_ | refine AWp.block ?_)
      refine AWp.cond rfl (fun hc => ?_) (fun hc => ?_)
      · have hi1 : i < m.length := by have := of_decide_eq_true hc; omega
        clear hc
        have h1f : m[i]? = some m[i] := List.getElem?_eq_getElem hi1
        have hmf : m[i] ∈ m := List.getElem_mem hi1
        have hdf : m.drop i = m[i] :: m.drop (i + 1) := List.drop_eq_getElem_cons hi1
        generalize m[i] = f at h1f hmf hdf
        obtain ⟨_, hrt, his⟩ := hbo f hmf
        have hq := isQ_all 175 f.body hrt
        rw [his] at hq
        clear hrt his
        obtain ⟨fg, fps, ⟨fk, fn, fa, fb, fvs, fxs, fcs⟩⟩ := f
        dsimp only [tmAV] at hq
        refine AWp.skip ?_
        refine AWp.rg [] [] ?_ (hr := by conv => lhs; simp [Fn.row, Tm.row, Tm.rows_eq, Cs.rows_eq, Tryd.underlying4, h1f, q1t, q2t])
        refine AWp.rg [] [.p (fun _ => .d (.bool true)) none] ?_ (hr := by conv => lhs; simp [Fn.row, Tm.row, Tm.rows_eq, Cs.rows_eq, Tryd.underlying4, h1f, q1t, q2t])
        refine AWp.cn ?_
        refine AWp.skip ?_
        refine AWp.rg [] [] ?_ (hr := by conv => lhs; simp [Fn.row, Tm.row, Tm.rows_eq, Cs.rows_eq, Tryd.underlying4, h1f, q1t, q2t])
        refine ⟨⟨i + 1, hi1⟩, by simp; omega, ?_⟩
        dsimp only
        exact Le.sub (by simp) (by simp)
      have hi1 : i = m.length := by have := of_decide_eq_false hc; omega
      subst hi1
      clear hc
      refine AWp.exit ?_
      refine AWp.rg [] [.p (fun _ => .tuple [.agg [.d (.bool rc), .d (.int rn), .d (.sl (rks.map Vl.row))], .d (.int e1)]) none] ?_ (hr := by conv => lhs; simp [Fn.row, Tm.row, Tm.rows_eq, Cs.rows_eq, Tryd.underlying4, q1t, q2t])
      refine AWp.rg [] [.p (fun _ => .tuple [.agg [.d (.bool rc), .d (.int rn), .d (.sl (rks.map Vl.row))], .d (.int e1)]) none] ?_ (hr := by conv => lhs; simp [Fn.row, Tm.row, Tm.rows_eq, Cs.rows_eq, Tryd.underlying4, q1t, q2t])
      refine AWp.rg [] [.p (fun _ => .d (.bool true)) none] ?_ (hr := by conv => lhs; simp [Fn.row, Tm.row, Tm.rows_eq, Cs.rows_eq, Tryd.underlying4, q1t, q2t])
      refine AWp.ret ?_
      try dsimp only [thenQ, blockQ]
      apply endQ.ret
      · rfl
      · conv => lhs; simp [resAV, Tryd.results14]
      first | rfl | simp [resVal]
    exfalso
    omega
  refine AWp.rg [] [.p (fun _ => .d (.int cl)) none] ?_ (hr := by conv => lhs; simp [Fn.row, Tm.row, Tm.rows_eq, Cs.rows_eq, Tryd.underlying4, q1])
  refine AWp.cy ?_
  refine AWp.rg [] [] ?_ (hr := by conv => lhs; simp [Fn.row, Tm.row, Tm.rows_eq, Cs.rows_eq, Tryd.underlying4, q1])
  refine AWp.ret ?_
  try dsimp only [thenQ, blockQ]
  apply endQ.ret
  · rfl
  · conv => lhs; simp [resAV, Tryd.results14]
  first | rfl | simp [resVal]
end Go.Proofs.YtapiiklnnkkdlaaDoor
