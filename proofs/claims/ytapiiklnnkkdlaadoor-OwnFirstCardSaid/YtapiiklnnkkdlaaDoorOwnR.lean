import Derived.Test.YtapiiklnnkkdlaaDoorNameB
import Derived.Test.YtapiiklnnkkdlaaDoorNamesC
import Derived.Test.YtapiiklnnkkdlaaDoorBackA
import Derived.Test.YtapiiklnnkkdlaaDoorMadeA
import Derived.Test.YtapiiklnnkkdlaaDoorPlainD
import Derived.Test.YtapiiklnnkkdlaaDoorClosP
/- xcref1.Wrong, by the abstract machine. -/
namespace Go.Proofs.YtapiiklnnkkdlaaDoor
open Go.RowKit
attribute [local simp] runD mkRc ldOf stOf stOk ldArg noAny dstOk guardOk opEff opEff0 effOp pureOp callOp zEff evA constAV scalAV Value.oneCell' frGet memGet startAS frOf isGoCall idIn AS.after nextR opnIds objIds AV.ids idsL AObj.ids frNo memNo opnAny isAny mkVal rdCells wrCells fldAddr idxAddr srcRows litRows toD1 toDs setAt sliceAV optI partAV bldAV fillAV binAV binI AV.cells callEff calleeOf frKill memKill AV.kill AObj.kill AV.has AV.hasL Op.operands Call.operands keepF keepM viewIds cChk renOf moGet moWs moQ cEff moLike moHave AV.ren renL AObj.ren AObj.like kept startC moMem AV.frz frz1 frzL frSub memSub frzs AS.frz frFrz memFrz AObj.frz takeMap takeLen bleF Nat.ble_eq memAny objAny mapOp D.keyOk rowAV valRow extOp wrapOp phO
set_option linter.unusedVariables false
set_option linter.unusedSimpArgs false
theorem Tm.Ok.names {k n : Int} {a b : ByteArray} {vs : List ByteArray} {xs : List Tm} {cs : List Cs} (h : (Tm.mk k n a b vs xs cs).Ok) : ∀ {t : Int} {ws : List ByteArray} {x : Tm}, Cs.mk t ws x ∈ cs → ∀ s ∈ ws, s.size ≤ 140737488355328 :=
  fun hm => (h.case hm).sizes




@[simp] theorem wr_one : wr 1 = 1 := rfl
theorem szs_append : ∀ (l r : List Tm), Tm.szs (l ++ r) = Tm.szs l + Tm.szs r
  | [], r => by simp [Tm.szs]
  | x :: l, r => by simp only [List.cons_append, Tm.szs, szs_append l r]; omega
theorem cszs_append : ∀ (l r : List Cs), Cs.szs (l ++ r) = Cs.szs l + Cs.szs r
  | [], r => by simp [Cs.szs]
  | x :: l, r => by simp only [List.cons_append, Cs.szs, cszs_append l r]; omega
theorem Tm.szs_take_le (l : List Tm) (i : Nat) : Tm.szs (l.take i) ≤ Tm.szs l := by
  have := szs_append (l.take i) (l.drop i)
  rw [List.take_append_drop] at this
  omega
theorem Cs.szs_take_le (l : List Cs) (i : Nat) : Cs.szs (l.take i) ≤ Cs.szs l := by
  have := cszs_append (l.take i) (l.drop i)
  rw [List.take_append_drop] at this
  omega


@[simp] theorem le_maxLen21 : 21 ≤ maxLen := by decide
@[simp] theorem le_maxLen25 : 25 ≤ maxLen := by decide
def fnHo : List Fn → Fn
  | f :: _ => f
  | [] => ⟨.empty, [], .mk 0 0 .empty .empty [] [] []⟩
def txO : ByteArray := ⟨#[40, 102, 110, 32, 102, 32, 40, 120, 32, 121, 41, 32, 40, 35, 49, 32, 120, 32, 120, 41, 41]⟩
def prO : List Fn := (parseP false txO).1
theorem prO_ok : parseP false txO = (prO, 0) := by kernel_rfl
theorem prO_fns : FnsOk prO := fnsOk_of (by kernel_rfl)
theorem prO_check : checkE prO = 0 := by kernel_rfl
def fO : Fn := fnHo prO
theorem prO_eq : prO = [fO] := by kernel_rfl
theorem fO_pt : fO.Pt := by
  have hm : fO ∈ prO := by rw [prO_eq]; simp
  obtain ⟨h1, h2, h3⟩ := right_all prO_fns prO_check fO hm
  exact ⟨rt_mono 25 _ _ (by omega) h2, ⟨h1, by have := ((check_zero prO_check).2.2.2 fO hm).sz; omega⟩, h3, (prO_fns.all fO hm).sizes⟩
theorem fO_ow : fO.ow.okB = true := by kernel_rfl
theorem fO_er : fO.ow.body.er.okB = true := by kernel_rfl
theorem fO_wt : Nat.ble fO.ow.body.wt 1000000 = true := by kernel_rfl
theorem fO_wt2 : Nat.ble fO.ow.body.er.wt 1000000 = true := by kernel_rfl
theorem fO_sh : fO.ow.body.sh = ⟨#[40, 100, 114, 111, 112, 32, 121, 32, 40, 100, 117, 112, 32, 120, 32, 40, 35, 49, 32, 120, 32, 120, 41, 41, 41]⟩ := by kernel_rfl
theorem fO_sh2 : fO.ow.body.er.sh = ⟨#[40, 35, 49, 32, 120, 32, 120, 41]⟩ := by kernel_rfl
theorem fO_kind : (fO.body.ow [⟨#[120]⟩, ⟨#[121]⟩]).tk = 9 := by kernel_rfl
set_option maxRecDepth 20000 in
set_option maxHeartbeats 16000000 in
theorem sp_alive6 : PSpec Tryd.prog 32 [] (fun _ => .d (.bool true)) none := by
  have hP := sp_Parse txO
  rw [prO_ok, prO_eq] at hP
  unfold txO at hP
  have hpt := fO_pt
  have hk := fO_kind
  obtain ⟨hO, hI⟩ := Fn.okB_ok fO_ow
  have hwt := Nat.le_of_ble_eq_true fO_wt
  have hwt2 := Nat.le_of_ble_eq_true fO_wt2
  obtain ⟨_, hI2⟩ := Tm.okB_ok _ fO_er
  have hsh := fO_sh
  have hsh2 := fO_sh2
  generalize fO = f at *
  have h1 := sp_OwFn f hpt
  have hS := sp_Show f.ow.body hI (by omega)
  rw [hsh] at hS
  have hE := sp_Erase f.ow.body hO.body
  have hS2 := sp_Show f.ow.body.er hI2 (by omega)
  rw [hsh2] at hS2
  have hA := sp_OwAll [f] (by simp) (fun g hg => by rw [List.mem_singleton.1 hg]; exact hpt)
  rw [List.map_cons, List.map_nil] at hA
  have hT := ow_all 175 f.body [⟨#[120]⟩, ⟨#[121]⟩] hpt.rt hpt.fit (by simp) (by
    intro s hs
    rcases List.mem_cons.1 hs with rfl | hs
    · exact Nat.le_of_ble_eq_true rfl
    rcases List.mem_cons.1 hs with rfl | hs
    · exact Nat.le_of_ble_eq_true rfl
    · cases hs)
  clear hO hI hI2 hwt hwt2 hpt hsh hsh2
  generalize f.body.ow [⟨#[120]⟩, ⟨#[121]⟩] = h at hT hk
  generalize f.ow.body.er = e at hE hS2
  generalize f.ow = g at *
  obtain ⟨fg, fps, ⟨fk, fn, fa, fb, fvs, fxs, fcs⟩⟩ := f
  obtain ⟨gg, gps, ⟨gk, gn, ga, gb, gvs, gxs, gcs⟩⟩ := g
  obtain ⟨ek, en, ea, eb, evs, exs, ecs⟩ := e
  obtain ⟨hkk, hn, ha, hb, hvs, hxs, hcs⟩ := h
  rw [Tm.tk] at hk
  subst hk
  simp only [fnsAV, List.map_cons, List.map_nil, Fn.row, Tm.row, Tm.rows_eq, Cs.rows_eq, strR] at hP hA hT
  dsimp only at h1 hS hE hS2 hT
  refine PSpec.of Tryd.func32 rfl rfl rfl (Nat.le_of_ble_eq_true rfl) ?_
  show AWp _ _ (endQ _ Tryd.f32 _ _ _) (startAS 39 _)
  refine AWp.rg [] [] ?_ (hr := by conv => lhs; simp [Fn.row, Tm.row, Tm.rows_eq, Cs.rows_eq])
  refine AWp.rg [] [.p (fun _ => .tuple [.d (.sl [[.str fg, strsD fps, .int fk, .int fn, .str fa, .str fb, strsD fvs, .sl (fxs.map Tm.row), .sl (fcs.map Cs.row)]]), .d (.int 0)]) none] ?_ (hr := by conv => lhs; simp [Fn.row, Tm.row, Tm.rows_eq, Cs.rows_eq])
  refine AWp.rg [] [.p (fun _ => .agg [.d (.str gg), .d (strsD gps), .d (.int gk), .d (.int gn), .d (.str ga), .d (.str gb), .d (strsD gvs), .d (.sl (gxs.map Tm.row)), .d (.sl (gcs.map Cs.row))]) none] ?_ (hr := by conv => lhs; simp [Fn.row, Tm.row, Tm.rows_eq, Cs.rows_eq])
  refine AWp.rg [22] [.p (fun _ => .d (.str (⟨#[40, 100, 114, 111, 112, 32, 121, 32, 40, 100, 117, 112, 32, 120, 32, 40, 35, 49, 32, 120, 32, 120, 41, 41, 41]⟩))) none, .p (fun _ => .agg [.d (.int ek), .d (.int en), .d (.str ea), .d (.str eb), .d (strsD evs), .d (.sl (exs.map Tm.row)), .d (.sl (ecs.map Cs.row))]) none, .p (fun _ => .d (.str (⟨#[40, 35, 49, 32, 120, 32, 120, 41]⟩))) none, .p (fun _ => .d (.sl [[.str gg, strsD gps, .int gk, .int gn, .str ga, .str gb, strsD gvs, .sl (gxs.map Tm.row), .sl (gcs.map Cs.row)]])) none, .p (fun _ => .agg [.d (.int 9), .d (.int hn), .d (.str ha), .d (.str hb), .d (strsD hvs), .d (.sl (hxs.map Tm.row)), .d (.sl (hcs.map Cs.row))]) none] ?_ (hr := by conv => lhs; simp [Fn.row, Tm.row, Tm.rows_eq, Cs.rows_eq])
  refine AWp.ret ?_
  try dsimp only [thenQ, blockQ]
  apply endQ.ret
  · rfl
  · conv => lhs; simp [resAV, Tryd.results32]
  rfl
set_option maxRecDepth 20000 in
set_option maxHeartbeats 16000000 in
theorem sp_OwnFirst (tn : Int) (l : List ByteArray) (hll : l.length ≤ 8796093022207) (hls : ∀ s ∈ l, s.size ≤ 140737488355328) : PSpec Tryd.prog 9 [.d (.int tn), strsAV l] (fun _ => .d (.bool true)) none := by
  have hal := sp_alive6
  obtain ⟨P, hP⟩ : ∃ P : Int, (l.length : Int) = P := ⟨_, rfl⟩
  refine PSpec.of Tryd.func9 rfl rfl rfl (Nat.le_of_ble_eq_true rfl) ?_
  show AWp _ _ (endQ _ Tryd.f9 _ _ _) (startAS 80 _)
  refine AWp.rg [] [] ?_ (hr := by conv => lhs; simp [Tm.row, Tm.rows_eq, Cs.rows_eq])
  refine AWp.rg [] [.p (fun _ => .d (.bool true)) none] ?_ (hr := by conv => lhs; simp [Tm.row, Tm.rows_eq, Cs.rows_eq])
  refine AWp.cn ?_
  refine AWp.skip ?_
  by_cases q1 : tn < -1000
  · refine AWp.rg [] [] ?_ (hr := by conv => lhs; simp [Tm.row, Tm.rows_eq, Cs.rows_eq, hP, q1])
    refine AWp.cy ?_
    refine AWp.rg [] [] ?_ (hr := by conv => lhs; simp [Tm.row, Tm.rows_eq, Cs.rows_eq, hP, q1])
    refine AWp.ret ?_
    try dsimp only [thenQ, blockQ]
    apply endQ.ret
    · rfl
    · conv => lhs; simp [resAV, Tryd.results9]
    first | rfl | simp [resVal]
  by_cases q2 : 1000 < tn
  · refine AWp.rg [] [] ?_ (hr := by conv => lhs; simp [Tm.row, Tm.rows_eq, Cs.rows_eq, hP, q1, q2])
    refine AWp.cy ?_
    refine AWp.rg [] [] ?_ (hr := by conv => lhs; simp [Tm.row, Tm.rows_eq, Cs.rows_eq, hP, q1, q2])
    refine AWp.ret ?_
    try dsimp only [thenQ, blockQ]
    apply endQ.ret
    · rfl
    · conv => lhs; simp [resAV, Tryd.results9]
    first | rfl | simp [resVal]
  by_cases q3 : 6 < P
  · refine AWp.rg [] [] ?_ (hr := by conv => lhs; simp [Tm.row, Tm.rows_eq, Cs.rows_eq, hP, q1, q2, q3])
    refine AWp.cy ?_
    refine AWp.rg [] [] ?_ (hr := by conv => lhs; simp [Tm.row, Tm.rows_eq, Cs.rows_eq, hP, q1, q2, q3])
    refine AWp.ret ?_
    try dsimp only [thenQ, blockQ]
    apply endQ.ret
    · rfl
    · conv => lhs; simp [resAV, Tryd.results9]
    first | rfl | simp [resVal]
  refine AWp.rg [] [] ?_ (hr := by conv => lhs; simp [Tm.row, Tm.rows_eq, Cs.rows_eq, hP, q1, q2, q3])
  refine AWp.cn ?_
  refine AWp.skip ?_
  have hl6 : l.length ≤ 6 := by omega
  refine AWp.rg [] [] ?_ (hr := by conv => lhs; simp [Tm.row, Tm.rows_eq, Cs.rows_eq])
  repeat (first | refine AWp.seq ?_ | refine AWp.block ?_)
  refine AWp.loop (σ := fun u : {u : Nat // u ≤ l.length} => ⟨80, [(0, .d (.int tn)), (1, .d (strsD l)), (23, .d (strsD l)), (24, .d (.int (l.length : Int))), (25, .d (.int (u.1 : Int)))], []⟩)
    (μ := fun u => l.length - u.1) ⟨0, Nat.zero_le _⟩ (Le.sub (by simp) (by simp)) (fun ⟨i, hi6⟩ => ?_)
  dsimp only
  refine AWp.rg [] [] ?_ (hr := by conv => lhs; simp [Tm.row, Tm.rows_eq, Cs.rows_eq])
  repeat (first | refine AWp.seq ?_ | refine AWp.block ?_)
  refine AWp.cond rfl (fun hc => ?_) (fun hc => ?_)
  · have hi1 : i < l.length := by have := of_decide_eq_true hc; omega
    clear hc
    have h1s : l[i]? = some l[i] := List.getElem?_eq_getElem hi1
    have hms : l[i] ∈ l := List.getElem_mem hi1
    have hds : l.drop i = l[i] :: l.drop (i + 1) := List.drop_eq_getElem_cons hi1
    generalize l[i] = s at h1s hms hds
    have hna := sp_Name s (by have := hls s hms; omega)
    have hha := sp_Has (l.take i) s (by rw [List.length_take]; omega)
    rw [show strsAV (l.take i) = .d (.sl (List.take i (l.map strR))) from by simp [strsAV, strsD, List.map_take]] at hha
    generalize nameB s = q at hna
    generalize hasB (l.take i) s = q2 at hha
    have htk : i ≤ l.length := by omega
    refine AWp.skip ?_
    refine AWp.rg [] [] ?_ (hr := by conv => lhs; simp [Tm.row, Tm.rows_eq, Cs.rows_eq, h1s])
    cases q with
    | true =>
      cases q2 with
      | true =>
        refine AWp.rg [] [.p (fun _ => .d (.bool true)) none, .p (fun _ => .d (.bool true)) none] ?_ (hr := by conv => lhs; simp [Tm.row, Tm.rows_eq, Cs.rows_eq, h1s])
        refine AWp.cy ?_
        refine AWp.rg [] [] ?_ (hr := by conv => lhs; simp [Tm.row, Tm.rows_eq, Cs.rows_eq, h1s])
        refine AWp.ret ?_
        try dsimp only [thenQ, blockQ]
        apply endQ.ret
        · rfl
        · conv => lhs; simp [resAV, Tryd.results9]
        first | rfl | simp [resVal]
      | false =>
        refine AWp.rg [] [.p (fun _ => .d (.bool true)) none, .p (fun _ => .d (.bool false)) none] ?_ (hr := by conv => lhs; simp [Tm.row, Tm.rows_eq, Cs.rows_eq, h1s])
        refine AWp.cn ?_
        refine AWp.skip ?_
        refine AWp.rg [] [] ?_ (hr := by conv => lhs; simp [Tm.row, Tm.rows_eq, Cs.rows_eq, h1s])
        refine ⟨⟨i + 1, hi1⟩, by simp; omega, ?_⟩
        dsimp only
        exact Le.sub (by simp) (by simp)
    | false =>
      refine AWp.rg [] [.p (fun _ => .d (.bool false)) none] ?_ (hr := by conv => lhs; simp [Tm.row, Tm.rows_eq, Cs.rows_eq, h1s])
      refine AWp.cy ?_
      refine AWp.rg [] [] ?_ (hr := by conv => lhs; simp [Tm.row, Tm.rows_eq, Cs.rows_eq, h1s])
      refine AWp.ret ?_
      try dsimp only [thenQ, blockQ]
      apply endQ.ret
      · rfl
      · conv => lhs; simp [resAV, Tryd.results9]
      first | rfl | simp [resVal]
  have hi1 : i = l.length := by have := of_decide_eq_false hc; omega
  subst hi1
  clear hc
  refine AWp.exit ?_
  have hT := ow_all 1 (.mk 2 tn .empty .empty [] [] []) l ⟨by omega, rfl, by simp, by simp, by simp⟩ ⟨⟨⟨by simp, by simp, by simp⟩, ⟨by simp, by simp, by simp⟩, trivial, trivial⟩, by simp [Tm.sz, Tm.szs, Cs.szs]⟩ (by omega) (fun s hs => by have := hls s hs; omega)
  have hcn : (Tm.mk 2 tn .empty .empty [] [] []).ow l = cnt 9 l (.mk 2 tn .empty .empty [] [] []) := by
    rw [Tm.ow, if_neg (by omega), if_neg (by omega), if_neg (by omega)]
    congr 1
    rw [show (Tm.mk 2 tn .empty .empty [] [] []).free = [] from by simp [Tm.free, Tm.frees, Cs.frees]]
    unfold woN
    exact List.filter_eq_self.2 fun s _ => by simp [hasB]
  rw [hcn] at hT
  obtain ⟨R, hR⟩ : ∃ R, R = cnt 9 l (.mk 2 tn .empty .empty [] [] []) := ⟨_, rfl⟩
  rw [← hR] at hT
  obtain ⟨rk, rn, ra, rb, rvs, rxs, rcs⟩ := R
  dsimp only [tmAV] at hT
  have hT2 := PSpec.nilArgs (args := [.agg [.d (.int 2), .d (.int tn), .d (.str .empty), .d (.str .empty), .lit (.slice none 0 0), .lit (.slice none 0 0), .lit (.slice none 0 0)], .d (strsD l)]) hT
  refine AWp.rg [] [.p (fun _ => .agg [.d (.int rk), .d (.int rn), .d (.str ra), .d (.str rb), .d (strsD rvs), .d (.sl (rxs.map Tm.row)), .d (.sl (rcs.map Cs.row))]) none] ?_ (hr := by conv => lhs; simp [Tm.row, Tm.rows_eq, Cs.rows_eq])
  refine AWp.rg [] [] ?_ (hr := by conv => lhs; simp [Tm.row, Tm.rows_eq, Cs.rows_eq])
  repeat (first | refine AWp.seq ?_ | refine AWp.block ?_)
  refine AWp.loop (σ := fun u : {u : Nat × Int × Int × ByteArray × ByteArray × List ByteArray × List Tm × List Cs // u.1 ≤ l.length ∧ Tm.mk u.2.1 u.2.2.1 u.2.2.2.1 u.2.2.2.2.1 u.2.2.2.2.2.1 u.2.2.2.2.2.2.1 u.2.2.2.2.2.2.2 = cnt 9 (l.drop u.1) (.mk 2 tn .empty .empty [] [] [])} => ⟨80, [(0, .d (.int tn)), (7, .ptr 7 0), (45, .d (strsD l)), (46, .d (.int (l.length : Int))), (47, .d (.int (u.1.1 : Int)))], [(7, some (.blk 34 [.d (.int u.1.2.1), .d (.int u.1.2.2.1), .d (.str u.1.2.2.2.1), .d (.str u.1.2.2.2.2.1), .d (strsD u.1.2.2.2.2.2.1), .d (.sl (u.1.2.2.2.2.2.2.1.map Tm.row)), .d (.sl (u.1.2.2.2.2.2.2.2.map Cs.row))]))]⟩)
    (μ := fun u => l.length - u.1.1) ⟨(0, rk, rn, ra, rb, rvs, rxs, rcs), ⟨Nat.zero_le _, by rw [List.drop_zero]; exact hR⟩⟩ (Le.sub (by simp) (by simp)) (fun ⟨(i, zk, zn, za, zb, zvs, zxs, zcs), ⟨hi13, hw⟩⟩ => ?_)
  dsimp only at hi13 hw ⊢
  refine AWp.rg [] [] ?_ (hr := by conv => lhs; simp [Tm.row, Tm.rows_eq, Cs.rows_eq])
  repeat (first | refine AWp.seq ?_ | refine AWp.block ?_)
  refine AWp.cond rfl (fun hc => ?_) (fun hc => ?_)
  · have hi1 : i < l.length := by have := of_decide_eq_true hc; omega
    clear hc
    have h1s : l[i]? = some l[i] := List.getElem?_eq_getElem hi1
    have hms : l[i] ∈ l := List.getElem_mem hi1
    have hds : l.drop i = l[i] :: l.drop (i + 1) := List.drop_eq_getElem_cons hi1
    generalize l[i] = s at h1s hms hds
    rw [hds, cnt] at hw
    obtain ⟨y, hy⟩ : ∃ y, y = cnt 9 (l.drop (i + 1)) (.mk 2 tn .empty .empty [] [] []) := ⟨_, rfl⟩
    rw [← hy] at hw
    injection hw with e1 e2 e3 e4 e5 e6 e7
    subst e1 e2 e3 e4 e5 e6 e7
    obtain ⟨yk, yn, ya, yb, yvs, yxs, ycs⟩ := y
    refine AWp.skip ?_
    refine AWp.rg [] [] ?_ (hr := by conv => lhs; simp [Tm.row, Tm.rows_eq, Cs.rows_eq, h1s])
    refine AWp.rg [] [] ?_ (hr := by conv => lhs; simp [Tm.row, Tm.rows_eq, Cs.rows_eq, h1s])
    refine AWp.cn ?_
    refine AWp.skip ?_
    refine AWp.rg [] [] ?_ (hr := by conv => lhs; simp [Tm.row, Tm.rows_eq, Cs.rows_eq, h1s])
    refine AWp.rg [] [] ?_ (hr := by conv => lhs; simp [Tm.row, Tm.rows_eq, Cs.rows_eq, h1s])
    refine ⟨⟨(i + 1, yk, yn, ya, yb, yvs, yxs, ycs), hi1, hy⟩, by simp; omega, ?_⟩
    dsimp only
    exact Le.sub (by simp) (by simp)
  have hi1 : i = l.length := by have := of_decide_eq_false hc; omega
  subst hi1
  clear hc
  rw [List.drop_length, cnt] at hw
  injection hw with e1 e2 e3 e4 e5 e6 e7
  subst e1 e2 e3 e4 e5 e6 e7
  refine AWp.exit ?_
  refine AWp.rg [] [] ?_ (hr := by conv => lhs; simp [Tm.row, Tm.rows_eq, Cs.rows_eq])
  refine AWp.ret ?_
  try dsimp only [thenQ, blockQ]
  apply endQ.ret
  · rfl
  · conv => lhs; simp [resAV, Tryd.results9]
  first | rfl | simp [resVal]
end Go.Proofs.YtapiiklnnkkdlaaDoor
