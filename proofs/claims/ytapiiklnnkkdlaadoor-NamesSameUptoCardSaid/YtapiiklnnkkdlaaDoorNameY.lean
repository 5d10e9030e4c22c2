import Derived.Test.YtapiiklnnkkdlaaDoorBackA
import Derived.Test.YtapiiklnnkkdlaaDoorNumA
import Derived.Test.YtapiiklnnkkdlaaDoorShowA
import Derived.Test.YtapiiklnnkkdlaaDoorClosP
/- xclaw4.fn, alive, NamesSame. Printed by a small program. -/
namespace Go.Proofs.YtapiiklnnkkdlaaDoor
open Go.RowKit
attribute [local simp] runD mkRc ldOf stOf stOk ldArg noAny dstOk guardOk opEff opEff0 effOp pureOp callOp zEff evA constAV scalAV Value.oneCell' frGet memGet startAS frOf isGoCall idIn AS.after nextR opnIds objIds AV.ids idsL AObj.ids frNo memNo opnAny isAny mkVal rdCells wrCells fldAddr idxAddr srcRows litRows toD1 toDs setAt sliceAV optI partAV bldAV fillAV binAV binI AV.cells callEff calleeOf frKill memKill AV.kill AObj.kill AV.has AV.hasL Op.operands Call.operands keepF keepM viewIds cChk renOf moGet moWs moQ cEff moLike moHave AV.ren renL AObj.ren AObj.like kept startC moMem AV.frz frz1 frzL frSub memSub frzs AS.frz frFrz memFrz AObj.frz takeMap takeLen bleF Nat.ble_eq memAny objAny mapOp D.keyOk rowAV valRow extOp wrapOp phO
set_option linter.unusedVariables false
set_option linter.unusedSimpArgs false
@[simp] theorem le_maxLen30y : 30 ≤ maxLen := by decide
@[simp] theorem le_maxLen37y : 37 ≤ maxLen := by decide
def fnHq : List Fn → Fn
  | f :: _ => f
  | [] => ⟨.empty, [], .mk 0 0 .empty .empty [] [] []⟩
theorem one_pt {l : List Fn} {f : Fn} (he : l = [f]) (hF : FnsOk l) (h : checkE l = 0) : f.body.Ok ∧ f.body.Rt 25 ∧ f.params.length ≤ 6 := by
  subst he
  exact right_all hF h f (List.mem_singleton.2 rfl)
def txA : ByteArray := ⟨#[40, 102, 110, 32, 102, 32, 40, 120, 32, 121, 41, 32, 40, 108, 101, 116, 32, 120, 32, 40, 43, 32, 120, 32, 121, 41, 32, 120, 41, 41]⟩
def fA : Fn := fnHq (parseP false txA).1
theorem fA_eq : (parseP false txA).1 = [fA] := by kernel_rfl
theorem fA_pt : fA.body.Ok ∧ fA.body.Rt 25 ∧ fA.params.length ≤ 6 := one_pt fA_eq (fnsOk_of (by kernel_rfl)) (by kernel_rfl)
def txB : ByteArray := ⟨#[40, 102, 110, 32, 102, 32, 40, 97, 32, 98, 41, 32, 40, 108, 101, 116, 32, 99, 32, 40, 43, 32, 97, 32, 98, 41, 32, 99, 41, 41]⟩
def fB : Fn := fnHq (parseP false txB).1
theorem fB_eq : (parseP false txB).1 = [fB] := by kernel_rfl
theorem fB_pt : fB.body.Ok ∧ fB.body.Rt 25 ∧ fB.params.length ≤ 6 := one_pt fB_eq (fnsOk_of (by kernel_rfl)) (by kernel_rfl)
def txC : ByteArray := ⟨#[40, 102, 110, 32, 102, 32, 40, 97, 32, 98, 41, 32, 40, 108, 101, 116, 32, 99, 32, 40, 43, 32, 97, 32, 98, 41, 32, 97, 41, 41]⟩
def fC : Fn := fnHq (parseP false txC).1
theorem fC_eq : (parseP false txC).1 = [fC] := by kernel_rfl
theorem fC_pt : fC.body.Ok ∧ fC.body.Rt 25 ∧ fC.params.length ≤ 6 := one_pt fC_eq (fnsOk_of (by kernel_rfl)) (by kernel_rfl)
theorem fAB : eqB fA.rn.rn fB.rn = true := by
  rw [show fA.rn.rn = fB.rn from by kernel_rfl, eqB_self]
theorem fAC : eqB fA.rn.rn fC.rn = false := eqB_ne fun h => by
  have h0 : Fn.shL [fA.rn.rn] ⟨#[]⟩ = Fn.shL [fC.rn] ⟨#[]⟩ := by rw [h]
  rw [show Fn.shL [fA.rn.rn] ⟨#[]⟩ = ⟨#[40, 102, 110, 32, 102, 32, 40, 118, 49, 32, 118, 50, 41, 32, 40, 108, 101, 116, 32, 118, 51, 32, 40, 43, 32, 118, 49, 32, 118, 50, 41, 32, 118, 51, 41, 41, 10]⟩ from by kernel_rfl, show Fn.shL [fC.rn] ⟨#[]⟩ = ⟨#[40, 102, 110, 32, 102, 32, 40, 118, 49, 32, 118, 50, 41, 32, 40, 108, 101, 116, 32, 118, 51, 32, 40, 43, 32, 118, 49, 32, 118, 50, 41, 32, 118, 49, 41, 41, 10]⟩ from by kernel_rfl] at h0
  exact absurd h0 (by decide)
theorem fA_ok : fA.rn.okB = true := by kernel_rfl
theorem fA_wt : Nat.ble (Fn.wtL [fA.rn]) 1000000 = true := by kernel_rfl
theorem fA_sh : Fn.shL [fA.rn] ⟨#[]⟩ = ⟨#[40, 102, 110, 32, 102, 32, 40, 118, 49, 32, 118, 50, 41, 32, 40, 108, 101, 116, 32, 118, 51, 32, 40, 43, 32, 118, 49, 32, 118, 50, 41, 32, 118, 51, 41, 41, 10]⟩ := by kernel_rfl
set_option maxRecDepth 20000 in
set_option maxHeartbeats 16000000 in
theorem sp_fn4 (s : ByteArray) (f : Fn) (h : (parseP false s).1 = [f]) : PSpec Tryd.prog 61 [.d (.str s)] (fun _ => fnAV f) none := by
  have hP := sp_Parse s
  generalize parseP false s = o at hP h
  obtain ⟨L, E⟩ := o
  dsimp only at hP h
  subst h
  obtain ⟨fg, fps, ⟨fk, fn, fa, fb, fvs, fxs, fcs⟩⟩ := f
  simp only [fnsAV, List.map_cons, List.map_nil, Fn.row, Tm.row, Tm.rows_eq, Cs.rows_eq, strR] at hP
  refine PSpec.of Tryd.func61 rfl rfl rfl (Nat.le_of_ble_eq_true rfl) ?_
  show AWp _ _ (endQ _ Tryd.f61 _ _ _) (startAS 13 _)
  refine AWp.rg [] [] ?_ (hr := by conv => lhs; simp [Fn.row, Tm.row, Tm.rows_eq, Cs.rows_eq])
  refine AWp.rg [] [.p (fun _ => .tuple [.d (.sl [[.str fg, strsD fps, .int fk, .int fn, .str fa, .str fb, strsD fvs, .sl (fxs.map Tm.row), .sl (fcs.map Cs.row)]]), .d (.int E)]) none] ?_ (hr := by conv => lhs; simp [Fn.row, Tm.row, Tm.rows_eq, Cs.rows_eq])
  refine AWp.rg [] [] ?_ (hr := by conv => lhs; simp [Fn.row, Tm.row, Tm.rows_eq, Cs.rows_eq])
  refine AWp.ret ?_
  try dsimp only [thenQ, blockQ]
  apply endQ.ret
  · rfl
  · conv => lhs; simp [resAV, Tryd.results61]
  first | rfl | simp [resVal]
set_option maxRecDepth 20000 in
set_option maxHeartbeats 16000000 in
theorem sp_alive4 : PSpec Tryd.prog 20 [] (fun _ => .d (.bool true)) none := by
  have ha := sp_fn4 txA fA fA_eq
  have hb := sp_fn4 txB fB fB_eq
  have hc := sp_fn4 txC fC fC_eq
  unfold txA at ha
  unfold txB at hb
  unfold txC at hc
  have pA := fA_pt
  have pB := fB_pt
  have pC := fC_pt
  have eAB := fAB
  have eAC := fAC
  have hok := fA_ok
  have hwt := Nat.le_of_ble_eq_true fA_wt
  have hsh := fA_sh
  generalize fA = a at *
  generalize fB = b at *
  generalize fC = c at *
  have h1 := sp_NFn a pA.1 pA.2.1 pA.2.2
  have pG : a.rn.body.Ok ∧ a.rn.body.Rt 25 ∧ a.rn.params.length ≤ 6 := ⟨a.rn_ok pA.1 pA.2.1, a.rn_rt pA.2.1, by rw [a.rn_plen]; exact pA.2.2⟩
  have hpr := sp_Print [a.rn] (fun f hf => by rw [List.mem_singleton.1 hf]; exact (Fn.okB_ok hok).2) (by omega)
  rw [hsh] at hpr
  have hl1 := sp_Alike a.rn b pG pB (a.rn.rn_ok pG.1 pG.2.1)
  rw [eAB] at hl1
  have hl2 := sp_Alike a.rn c pG pC (a.rn.rn_ok pG.1 pG.2.1)
  rw [eAC] at hl2
  have hall := sp_All [a.rn] (by simp) (fun f hf => by rw [List.mem_singleton.1 hf]; exact pG)
  rw [List.map_cons, List.map_nil] at hall
  clear pA pB pC eAB eAC hok hwt hsh pG
  generalize a.rn.rn = k at hall
  generalize a.rn = g at *
  obtain ⟨ag, aps, ⟨ak, an, aa, ab, avs, axs, acs⟩⟩ := a
  obtain ⟨bg, bps, ⟨bk, bn, ba, bb, bvs, bxs, bcs⟩⟩ := b
  obtain ⟨cg, cps, ⟨ck, cn, ca, cb, cvs, cxs, ccs⟩⟩ := c
  obtain ⟨gg, gps, ⟨gk, gn, ga, gb, gvs, gxs, gcs⟩⟩ := g
  obtain ⟨kg, kps, ⟨kk, kn, ka, kb, kvs, kxs, kcs⟩⟩ := k
  simp only [fnsAV, List.map_cons, List.map_nil, Fn.row, Tm.row, Tm.rows_eq, Cs.rows_eq, strR] at hpr hall
  try dsimp only [fnAV, tmAV] at ha
  try dsimp only [fnAV, tmAV] at hb
  try dsimp only [fnAV, tmAV] at hc
  try dsimp only [fnAV, tmAV] at h1
  try dsimp only [fnAV, tmAV] at hpr
  try dsimp only [fnAV, tmAV] at hl1
  try dsimp only [fnAV, tmAV] at hl2
  try dsimp only [fnAV, tmAV] at hall
  refine PSpec.of Tryd.func20 rfl rfl rfl (Nat.le_of_ble_eq_true rfl) ?_
  show AWp _ _ (endQ _ Tryd.f20 _ _ _) (startAS 26 _)
  refine AWp.rg [] [] ?_ (hr := by conv => lhs; simp [Fn.row, Tm.row, Tm.rows_eq, Cs.rows_eq])
  refine AWp.rg [] [.p (fun _ => .agg [.d (.str ag), .d (strsD aps), .d (.int ak), .d (.int an), .d (.str aa), .d (.str ab), .d (strsD avs), .d (.sl (axs.map Tm.row)), .d (.sl (acs.map Cs.row))]) none, .p (fun _ => .agg [.d (.str gg), .d (strsD gps), .d (.int gk), .d (.int gn), .d (.str ga), .d (.str gb), .d (strsD gvs), .d (.sl (gxs.map Tm.row)), .d (.sl (gcs.map Cs.row))]) none] ?_ (hr := by conv => lhs; simp [Fn.row, Tm.row, Tm.rows_eq, Cs.rows_eq])
  refine AWp.dw [1, 17] [.p (fun _ => .d (.str (⟨#[40, 102, 110, 32, 102, 32, 40, 118, 49, 32, 118, 50, 41, 32, 40, 108, 101, 116, 32, 118, 51, 32, 40, 43, 32, 118, 49, 32, 118, 50, 41, 32, 118, 51, 41, 41, 10]⟩))) none, .p (fun _ => .agg [.d (.str bg), .d (strsD bps), .d (.int bk), .d (.int bn), .d (.str ba), .d (.str bb), .d (strsD bvs), .d (.sl (bxs.map Tm.row)), .d (.sl (bcs.map Cs.row))]) none, .p (fun _ => .d (.bool true)) none, .p (fun _ => .agg [.d (.str cg), .d (strsD cps), .d (.int ck), .d (.int cn), .d (.str ca), .d (.str cb), .d (strsD cvs), .d (.sl (cxs.map Tm.row)), .d (.sl (ccs.map Cs.row))]) none, .p (fun _ => .d (.bool false)) none, .p (fun _ => .d (.sl [[.str kg, strsD kps, .int kk, .int kn, .str ka, .str kb, strsD kvs, .sl (kxs.map Tm.row), .sl (kcs.map Cs.row)]])) none] mixed ?_ (hr := by conv => lhs; simp [Fn.row, Tm.row, Tm.rows_eq, Cs.rows_eq])
  refine AWp.ret ?_
  try dsimp only [thenQ, blockQ]
  apply endQ.ret
  · rfl
  · conv => lhs; simp [resAV, Tryd.results20]
  rfl
set_option maxRecDepth 20000 in
set_option maxHeartbeats 16000000 in
theorem sp_NamesSame (l : List Fn) (name : ByteArray) (args : List Int) (fuel : Int) (hl : FnsOk l) (ha : args.length ≤ 1048576) : PSpec Tryd.prog 13 [fnsAV l, .d (.str name), intsAV args, .d (.int fuel)] (fun _ => .d (.bool true)) none := by
  have hal := sp_alive4
  have hkl := sp_refCheck l hl
  obtain ⟨cl, hcl⟩ : ∃ c, c = checkE l := ⟨_, rfl⟩
  rw [← hcl] at hkl
  refine PSpec.of Tryd.func13 rfl rfl rfl (Nat.le_of_ble_eq_true rfl) ?_
  show AWp _ _ (endQ _ Tryd.f13 _ _ _) (startAS 48 _)
  refine AWp.rg [] [] ?_ (hr := by conv => lhs; simp [Tryd.underlying4])
  refine AWp.rg [] [.p (fun _ => .d (.bool true)) none] ?_ (hr := by conv => lhs; simp [Tryd.underlying4])
  refine AWp.cn ?_
  refine AWp.skip ?_
  by_cases q1 : cl = 0
  · have q1t := eq_true q1
    refine AWp.rg [] [.p (fun _ => .d (.int cl)) none] ?_ (hr := by conv => lhs; simp [Tryd.underlying4, q1t])
    refine AWp.cn ?_
    refine AWp.skip ?_
    have hc0 : checkE l = 0 := hcl.symm.trans q1
    have hall := sp_All l hl.len (right_all hl hc0)
    have hmO := rn_fns hl hc0
    have hc1 := check_rn hl hc0
    have hkm := sp_refCheck _ hmO
    rw [hc1] at hkm
    have hr : ∀ x ∈ l, x.Fit (arOf l) := fun x hx => ((check_zero hc0).2.2.2 x hx).fit
    have hr1 : ∀ x ∈ l.map Fn.rn, x.Fit (arOf (l.map Fn.rn)) := fun x hx => ((check_zero hc1).2.2.2 x hx).fit
    have hR1 := sp_evRun l name args fuel hl.len (fun x hx => (hl.all x hx).body) hr ha
    have hR2 := sp_evRun (l.map Fn.rn) name args fuel hmO.len (fun x hx => (hmO.all x hx).body) hr1 ha
    rw [runE_rn_of hl hc0 true name args fuel] at hR2
    have hok := runE_ok l hr name args fuel
    clear hmO hc1 hr1
    generalize l.map Fn.rn = m at *
    generalize runE true l name args fuel = R1 at hR1 hR2 hok
    obtain ⟨⟨rc, rn, rks⟩, e1⟩ := R1
    dsimp only at hok hR1 hR2
    have hS := sp_refSameValue (.mk rc rn rks) (.mk rc rn rks) hok
    rw [eqB_self] at hS
    dsimp only [vlAV] at hS
    refine AWp.rg [] [.p (fun _ => .d (.sl (m.map Fn.row))) none] ?_ (hr := by conv => lhs; simp [Tryd.underlying4, q1t])
    refine AWp.rg [] [.p (fun _ => .d (.int 0)) none] ?_ (hr := by conv => lhs; simp [Tryd.underlying4, q1t])
    refine AWp.cn ?_
    refine AWp.skip ?_
    refine AWp.rg [] [.p (fun _ => .tuple [.agg [.d (.bool rc), .d (.int rn), .d (.sl (rks.map Vl.row))], .d (.int e1)]) none] ?_ (hr := by conv => lhs; simp [Tryd.underlying4, q1t])
    refine AWp.rg [] [.p (fun _ => .tuple [.agg [.d (.bool rc), .d (.int rn), .d (.sl (rks.map Vl.row))], .d (.int e1)]) none] ?_ (hr := by conv => lhs; simp [Tryd.underlying4, q1t])
    refine AWp.rg [] [.p (fun _ => .d (.bool true)) none] ?_ (hr := by conv => lhs; simp [Tryd.underlying4, q1t])
    refine AWp.ret ?_
    try dsimp only [thenQ, blockQ]
    apply endQ.ret
    · rfl
    · conv => lhs; simp [resAV, Tryd.results13]
    first | rfl | simp [resVal]
  refine AWp.rg [] [.p (fun _ => .d (.int cl)) none] ?_ (hr := by conv => lhs; simp [Tryd.underlying4, q1])
  refine AWp.cy ?_
  refine AWp.rg [] [] ?_ (hr := by conv => lhs; simp [Tryd.underlying4, q1])
  refine AWp.ret ?_
  try dsimp only [thenQ, blockQ]
  apply endQ.ret
  · rfl
  · conv => lhs; simp [resAV, Tryd.results13]
  first | rfl | simp [resVal]
end Go.Proofs.YtapiiklnnkkdlaaDoor
