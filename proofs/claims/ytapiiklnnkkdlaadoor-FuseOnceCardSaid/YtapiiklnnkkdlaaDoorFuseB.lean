import Derived.Test.YtapiiklnnkkdlaaDoorFuseQ
import Derived.Test.YtapiiklnnkkdlaaDoorOwnD
import Derived.Test.YtapiiklnnkkdlaaDoorNameA
/- xcref4.Made at the levels 0, 1. Printed by a small program. -/
namespace Go.Proofs.YtapiiklnnkkdlaaDoor
open Go.RowKit
attribute [local simp] runD mkRc ldOf stOf stOk ldArg noAny dstOk guardOk opEff opEff0 effOp pureOp callOp zEff evA constAV scalAV Value.oneCell' frGet memGet startAS frOf isGoCall idIn AS.after nextR opnIds objIds AV.ids idsL AObj.ids frNo memNo opnAny isAny mkVal rdCells wrCells fldAddr idxAddr srcRows litRows toD1 toDs setAt sliceAV optI partAV bldAV fillAV binAV binI AV.cells callEff calleeOf frKill memKill AV.kill AObj.kill AV.has AV.hasL Op.operands Call.operands keepF keepM viewIds cChk renOf moGet moWs moQ cEff moLike moHave AV.ren renL AObj.ren AObj.like kept startC moMem AV.frz frz1 frzL frSub memSub frzs AS.frz frFrz memFrz AObj.frz takeMap takeLen bleF Nat.ble_eq memAny objAny mapOp D.keyOk rowAV valRow extOp wrapOp phO
set_option linter.unusedVariables false
set_option linter.unusedSimpArgs false
theorem pl_all_pt {l : List Fn} (hl : FnsOk l) (h : checkE l = 0) : ∀ f ∈ l.map Fn.pl, f.Pt := fun f hf => by
  obtain ⟨g, hg, rfl⟩ := List.mem_map.1 hf
  obtain ⟨k1, k2, k3⟩ := right_all hl h g hg
  have := ((check_zero h).2.2.2 g hg).sz
  exact Fn.pl_pt g k1 k2 k3 (by omega)
theorem Fn.ow_fits {f : Fn} (h : f.Pt) : f.ow.body.Ok ∧ f.ow.body.Du ∧ f.ow.params.length ≤ 6 := by
  obtain ⟨h1, h2⟩ := ow_ok 175 f.body f.params h.rt h.fit.ok h.pars
  exact ⟨h1, h2, h.par⟩
theorem ow_all_fits {l : List Fn} (h : ∀ f ∈ l, f.Pt) : ∀ f ∈ l.map Fn.ow, f.body.Ok ∧ f.body.Du ∧ f.params.length ≤ 6 := fun f hf => by
  obtain ⟨g, hg, rfl⟩ := List.mem_map.1 hf
  exact Fn.ow_fits (h g hg)
theorem fu_all_fits {l : List Fn} (h : ∀ f ∈ l, f.body.Ok ∧ f.body.Du ∧ f.params.length ≤ 6) : ∀ f ∈ l.map Fn.fu, f.body.Ok ∧ f.body.Du ∧ f.params.length ≤ 6 := fun f hf => by
  obtain ⟨g, hg, rfl⟩ := List.mem_map.1 hf
  obtain ⟨h1, h2, h3⟩ := h g hg
  obtain ⟨h4, h5⟩ := Tm.fu_ok g.body h1 h2
  exact ⟨h4, h5, h3⟩
def mk0 (l : List Fn) : List Fn := (l.map Fn.pl).map Fn.ow
def mk1 (l : List Fn) : List Fn := (mk0 l).map Fn.fu
theorem mk0_fits {l : List Fn} (hl : FnsOk l) (h : checkE l = 0) : ∀ f ∈ mk0 l, f.body.Ok ∧ f.body.Du ∧ f.params.length ≤ 6 := ow_all_fits (pl_all_pt hl h)
theorem mk1_fits {l : List Fn} (hl : FnsOk l) (h : checkE l = 0) : ∀ f ∈ mk1 l, f.body.Ok ∧ f.body.Du ∧ f.params.length ≤ 6 := fu_all_fits (mk0_fits hl h)
set_option maxRecDepth 20000 in
set_option maxHeartbeats 16000000 in
theorem sp_Made0 (l : List Fn) (hl : FnsOk l) (hc : checkE l = 0) : PSpec Tryd.prog 18 [fnsAV l, .d (.int 0)] (fun _ => fnsAV (mk0 l)) none := by
  have hll := hl.len
  have h1 := sp_EachPlain l hl.len (right_all hl hc)
  have hp := pl_all_pt hl hc
  have h2 := sp_EachOwned (l.map Fn.pl) (by rw [List.length_map]; exact hl.len) hp
  unfold mk0
  generalize l.map Fn.pl = P at h1 h2 ⊢
  generalize P.map Fn.ow = O at h2 ⊢
  refine PSpec.of Tryd.func18 rfl rfl rfl (Nat.le_of_ble_eq_true rfl) ?_
  show AWp _ _ (endQ _ Tryd.f18 _ _ _) (startAS 17 _)
  refine AWp.rg [] [] ?_
  refine AWp.rg [] [.p (fun _ => .d (.sl (P.map Fn.row))) none, .p (fun _ => .d (.sl (O.map Fn.row))) none] ?_
  refine AWp.rg [] [] ?_
  refine AWp.cn ?_
  refine AWp.skip ?_
  refine AWp.rg [] [] ?_
  refine AWp.cn ?_
  refine AWp.skip ?_
  refine AWp.rg [] [] ?_
  refine AWp.ret ?_
  try dsimp only [thenQ, blockQ]
  apply endQ.ret
  · rfl
  · conv => lhs; simp [resAV, Tryd.results18]
  rfl
end Go.Proofs.YtapiiklnnkkdlaaDoor

namespace Go.Proofs.YtapiiklnnkkdlaaDoor
open Go.RowKit
set_option linter.unusedVariables false
set_option linter.unusedSimpArgs false
def FuId (t : Tm) : Prop := t.fu = t
theorem FuId.args {k n : Int} {a b : ByteArray} {vs : List ByteArray} {xs : List Tm} {cs : List Cs} (h : FuId (.mk k n a b vs xs cs)) : ∀ x ∈ xs, FuId x := by
  unfold FuId at h
  rw [Tm.fu, Tm.fuL_eq] at h
  injection h with _ _ _ _ _ h _
  intro x hx
  obtain ⟨i, hi⟩ := List.mem_iff_getElem?.1 hx
  have h1 : (xs.map Tm.fu)[i]? = some x := by rw [h]; exact hi
  rw [List.getElem?_map, hi] at h1
  exact Option.some.inj h1
theorem cnt_fuId {k : Int} : ∀ (l : List ByteArray) {t : Tm}, FuId t → FuId (cnt k l t)
  | [], _, h => h
  | s :: r, t, h => by
    have h1 := cnt_fuId (k := k) r h
    unfold FuId at h1 ⊢
    rw [cnt, Tm.fu, Tm.fuL, Tm.fuL, Cs.fuL, h1]
theorem FuId.a0 {t : Tm} (h : FuId t) : FuId t.a0 := by
  obtain ⟨k, n, a, b, vs, xs, cs⟩ := t
  unfold Tm.a0 Tm.xs
  rcases xs with _ | ⟨x, r⟩
  · exact h
  · exact h.args x (List.mem_cons_self ..)
mutual
theorem Tm.sr_fuId : ∀ (t : Tm) (rest : List ByteArray), FuId t → FuId (t.sr rest).2
  | .mk k n a b vs xs cs, rest, h => by
    rw [Tm.sr]
    split
    · exact Tm.srL_fuId xs _ _ h h.args
    · exact h
theorem Tm.srL_fuId : ∀ (l : List Tm) (rest : List ByteArray) (t : Tm), FuId t → (∀ x ∈ l, FuId x) → FuId (Tm.srL l rest t).2
  | [], _, _, h, _ => by rw [Tm.srL]; exact h
  | x :: r, rest, t, _, h => by rw [Tm.srL]; exact Tm.sr_fuId x rest (h x (List.mem_cons_self ..))
end
theorem fuOne_id {k : Int} {na : Nat} {nm : ByteArray} {ws : List ByteArray} {y : Tm} (h : FuId y) : FuId (fuOne k na nm ws y) ∧ fuOne k na nm ws (fuOne k na nm ws y) = fuOne k na nm ws y := by
  by_cases hc : ws.length ≠ 0 ∧ na = 1 ∧ k = 7 ∧ (y.sr ws).2.tk = 9 ∧ (y.sr ws).2.nm = nm
  · have e : fuOne k na nm ws y = .mk 10 0 nm .empty ws [cnt 9 (y.sr ws).1 (y.sr ws).2.a0] [] := by unfold fuOne; rw [if_pos hc]
    rw [e]
    have h1 := cnt_fuId (k := 9) (y.sr ws).1 (Tm.sr_fuId y ws h).a0
    refine ⟨?_, ?_⟩
    · unfold FuId at h1 ⊢
      rw [Tm.fu, Tm.fuL, Tm.fuL, Cs.fuL, h1]
    · have h2 : ((Tm.mk 10 0 nm .empty ws [cnt 9 (y.sr ws).1 (y.sr ws).2.a0] []).sr ws).2.tk ≠ 9 := by
        rw [Tm.sr, if_neg (by omega)]
        show (10 : Int) ≠ 9
        omega
      unfold fuOne
      rw [if_neg fun hq => h2 hq.2.2.2.1]
  · have e : fuOne k na nm ws y = y := by unfold fuOne; rw [if_neg hc]
    rw [e, e]
    exact ⟨h, rfl⟩
mutual
theorem Tm.fu_fu : ∀ t : Tm, FuId t.fu
  | .mk k n a b vs xs cs => by
    have h1 := Tm.fuL_fu xs
    have h2 := Cs.fuL_fu k xs.length (nmH xs) cs
    have h3 : (Tm.fuL xs).length = xs.length := by rw [Tm.fuL_eq, List.length_map]
    have h4 : nmH (Tm.fuL xs) = nmH xs := by
      rcases xs with _ | ⟨x, r⟩
      · rfl
      · rw [Tm.fuL, nmH, nmH, Tm.fu_nm]
    unfold FuId
    rw [Tm.fu, Tm.fu, h1, h3, h4, h2]
theorem Tm.fuL_fu : ∀ l : List Tm, Tm.fuL (Tm.fuL l) = Tm.fuL l
  | [] => by rw [Tm.fuL]; rfl
  | x :: r => by
    have h1 := Tm.fu_fu x
    unfold FuId at h1
    rw [Tm.fuL, Tm.fuL, Tm.fuL_fu r, h1]
theorem Cs.fuL_fu (k : Int) (na : Nat) (nm : ByteArray) : ∀ l : List Cs, Cs.fuL k na nm (Cs.fuL k na nm l) = Cs.fuL k na nm l
  | [] => by rw [Cs.fuL]; rfl
  | c :: r => by
    rw [Cs.fuL, Cs.fuL, Cs.fuL_fu k na nm r, Cs.fu_fu k na nm c]
theorem Cs.fu_fu (k : Int) (na : Nat) (nm : ByteArray) : ∀ c : Cs, (c.fu k na nm).fu k na nm = c.fu k na nm
  | .mk t ws y => by
    have h1 := Tm.fu_fu y
    obtain ⟨h2, h3⟩ := fuOne_id (k := k) (na := na) (nm := nm) (ws := ws) h1
    unfold FuId at h2
    rw [Cs.fu, Cs.fu, h2, h3]
end
theorem Fn.fu_fu (f : Fn) : f.fu.fu = f.fu := by
  have h := Tm.fu_fu f.body
  unfold FuId at h
  unfold Fn.fu
  dsimp only
  rw [h]
theorem mk1_fu (l : List Fn) : (mk1 l).map Fn.fu = mk1 l := by
  unfold mk1
  rw [List.map_map]
  exact List.map_congr_left fun f _ => f.fu_fu
end Go.Proofs.YtapiiklnnkkdlaaDoor

namespace Go.Proofs.YtapiiklnnkkdlaaDoor
open Go.RowKit
attribute [local simp] runD mkRc ldOf stOf stOk ldArg noAny dstOk guardOk opEff opEff0 effOp pureOp callOp zEff evA constAV scalAV Value.oneCell' frGet memGet startAS frOf isGoCall idIn AS.after nextR opnIds objIds AV.ids idsL AObj.ids frNo memNo opnAny isAny mkVal rdCells wrCells fldAddr idxAddr srcRows litRows toD1 toDs setAt sliceAV optI partAV bldAV fillAV binAV binI AV.cells callEff calleeOf frKill memKill AV.kill AObj.kill AV.has AV.hasL Op.operands Call.operands keepF keepM viewIds cChk renOf moGet moWs moQ cEff moLike moHave AV.ren renL AObj.ren AObj.like kept startC moMem AV.frz frz1 frzL frSub memSub frzs AS.frz frFrz memFrz AObj.frz takeMap takeLen bleF Nat.ble_eq memAny objAny mapOp D.keyOk rowAV valRow extOp wrapOp phO frLow memLow memLow1 objLow memEmpty Low LowL
set_option linter.unusedVariables false
set_option linter.unusedSimpArgs false
theorem cs_fone1 (gone : List ByteArray) (s : ByteArray) (hg : gone.length ≤ 8796093022208) : CSpec Tryd.prog 145 [.d (.str s), .ptr 1000 0] [(1000, .blk 30 [.d (strsD gone)])] (.d (.bool (hasB gone s))) [(1000, .blk 30 [.d (strsD gone)])] := by
  have hc := sp_Contains gone s hg
  refine CSpec.of Tryd.func145 rfl rfl (Nat.le_of_ble_eq_true rfl) ?_
  show AWp _ _ (endC _ Tryd.f145 _ _) (startC 7 _ _)
  repeat (first | refine AWp.seq ?_ | refine AWp.block ?_)
  apply AWp.reg [] []
  · conv => lhs; simp
  · trivial
  repeat (first | refine AWp.seq ?_ | refine AWp.block ?_)
  apply AWp.reg [] [.p (fun _ => .d (.bool (hasB gone s))) none]
  · conv => lhs; simp
  · exact hc
  refine AWp.ret ?_
  try dsimp only [thenQ, blockQ]
  apply endC.ret
  · rfl
  · conv => lhs; simp [resAV, Tryd.results145]
  · rfl
  · simp [moEnd, memGet]
theorem woN_woN (l f g : List ByteArray) : woN (woN l f) g = woN l (f ++ g) := by
  unfold woN
  rw [List.filter_filter]
  refine List.filter_congr fun s _ => ?_
  rw [Bool.eq_iff_iff]
  simp [hasB_not, and_comm]
theorem hasB_woN (l g : List ByteArray) (s : ByteArray) : hasB (woN l g) s = (hasB l s && !hasB g s) := by
  rw [Bool.eq_iff_iff]
  simp [woN, hasB_iff, hasB_not]
theorem woN_less {l : List ByteArray} {s : ByteArray} (h : hasB l s = true) : (woN l [s]).length + 1 ≤ l.length := by
  unfold woN
  have h1 := hasB_iff.1 h
  have : (l.filter fun x => !hasB [s] x).length < l.length := by
    rw [List.length_filter_lt_length_iff_exists]
    exact ⟨s, h1, by simp [hasB]⟩
  omega
theorem fuOne_yes {nm : ByteArray} {dws rest : List ByteArray} {y z : Tm} (hsr : y.sr dws = (rest, z)) (h1 : dws.length ≠ 0) (h2 : z.tk = 9) (h3 : z.nm = nm) : fuOne 7 1 nm dws y = .mk 10 0 nm .empty dws [cnt 9 rest z.a0] [] := by
  unfold fuOne
  rw [hsr]
  exact if_pos ⟨h1, rfl, rfl, h2, h3⟩
theorem fuOne_no {nm : ByteArray} {dws rest : List ByteArray} {y z : Tm} (hsr : y.sr dws = (rest, z)) (h : dws.length ≠ 0 → z.tk = 9 → z.nm = nm → False) : fuOne 7 1 nm dws y = y := by
  unfold fuOne
  rw [hsr]
  exact if_neg fun ⟨h1, _, _, h2, h3⟩ => h h1 h2 h3
theorem woN_nil' (l : List ByteArray) : woN l [] = l := by simp [woN, hasB]
abbrev csxAV (c : Cs) : AV := match c with | .mk t ws (.mk k n a b vs xs cs) => .agg [.d (.int t), .d (strsD ws), .d (.int k), .d (.int n), .d (.str a), .d (.str b), .d (strsD vs), .d (.sl (xs.map Tm.row)), .d (.sl (cs.map Cs.row))]
set_option maxRecDepth 20000 in
set_option maxHeartbeats 16000000 in
theorem sp_one (nm : ByteArray) (dt : Int) (dws : List ByteArray) (yk yn : Int) (ya yb : ByteArray) (yvs : List ByteArray) (yxs : List Tm) (ycs : List Cs) (hyO : Tm.Ok (.mk yk yn ya yb yvs yxs ycs)) (hyd : Tm.Du (.mk yk yn ya yb yvs yxs ycs)) (hdl : dws.length ≤ 6) (hwz : ∀ s ∈ dws, s.size ≤ 140737488355328) :
    PSpec Tryd.prog 101 [.d (.str nm), csxAV (.mk dt dws (.mk yk yn ya yb yvs yxs ycs))] (fun _ => csxAV (.mk dt dws (fuOne 7 1 nm dws (.mk yk yn ya yb yvs yxs ycs)))) none := by
  obtain ⟨R, hR⟩ : ∃ R, fuOne 7 1 nm dws (.mk yk yn ya yb yvs yxs ycs) = R := ⟨_, rfl⟩
  rw [hR]
  obtain ⟨rk, rn, ra, rb, rvs, rxs, rcs⟩ := R
  refine PSpec.of Tryd.func101 rfl rfl rfl (Nat.le_of_ble_eq_true rfl) ?_
  show AWp _ _ (endQ _ Tryd.f101 _ _ _) (startAS 71 _)
  refine AWp.rg [] [] ?_ (hr := by conv => lhs; simp [Tm.row, Tm.rows_eq, Cs.rows_eq])
  refine AWp.rg [] [] ?_ (hr := by conv => lhs; simp [Tm.row, Tm.rows_eq, Cs.rows_eq])
  refine AWp.rg [] [] ?_ (hr := by conv => lhs; simp [Tm.row, Tm.rows_eq, Cs.rows_eq])
  repeat (first | refine AWp.seq ?_ | refine AWp.block ?_)
  refine AWp.le (Le.low [400] [] (fr := [(0, .d (.str nm)), (3, .ptr 3 0), (4, .ptr 4 0), (5, .ptr 5 0), (6, .ptr 6 0)]) (mem := [(3, some (.blk 40 [.d (.int dt), .d (strsD dws), .d (.int yk), .d (.int yn), .d (.str ya), .d (.str yb), .d (strsD yvs), .d (.sl (yxs.map Tm.row)), .d (.sl (ycs.map Cs.row))])), (4, some (.blk 40 [.d (.int 0), .lit (.slice none 0 0), .d (.int 0), .d (.int 0), .d (.str ByteArray.empty), .d (.str ByteArray.empty), .lit (.slice none 0 0), .lit (.slice none 0 0), .lit (.slice none 0 0)])), (5, some (.blk 34 [.d (.int (yk : Int)), .d (.int (yn : Int)), .d (.str (ya : ByteArray)), .d (.str (yb : ByteArray)), .d (strsD (yvs : List ByteArray)), .d (.sl ((yxs : List Tm).map Tm.row)), .d (.sl ((ycs : List Cs).map Cs.row))])), (6, some (.blk 30 [.arr 400 0 ([] : List ByteArray).length])), (400, some (.arr 9 1 (([] : List ByteArray).map strR)))]) rfl (by simp) (by simp)) ?_
  refine AWp.loop (σ := fun u : {u : Int × Int × ByteArray × ByteArray × List ByteArray × List Tm × List Cs × List ByteArray // ((Tm.mk yk yn ya yb yvs yxs ycs).sr dws = Tm.sr (.mk u.1 u.2.1 u.2.2.1 u.2.2.2.1 u.2.2.2.2.1 u.2.2.2.2.2.1 u.2.2.2.2.2.2.1) (woN dws u.2.2.2.2.2.2.2) ∧ Tm.Du (.mk u.1 u.2.1 u.2.2.1 u.2.2.2.1 u.2.2.2.2.1 u.2.2.2.2.2.1 u.2.2.2.2.2.2.1) ∧ Tm.Ok (.mk u.1 u.2.1 u.2.2.1 u.2.2.2.1 u.2.2.2.2.1 u.2.2.2.2.2.1 u.2.2.2.2.2.2.1) ∧ u.2.2.2.2.2.2.2.length + (woN dws u.2.2.2.2.2.2.2).length ≤ dws.length)} => ⟨71, [(0, .d (.str nm)), (3, .ptr 3 0), (4, .ptr 4 0), (5, .ptr 5 0), (6, .ptr 6 0)], [(3, some (.blk 40 [.d (.int dt), .d (strsD dws), .d (.int yk), .d (.int yn), .d (.str ya), .d (.str yb), .d (strsD yvs), .d (.sl (yxs.map Tm.row)), .d (.sl (ycs.map Cs.row))])), (4, some (.blk 40 [.d (.int 0), .lit (.slice none 0 0), .d (.int 0), .d (.int 0), .d (.str ByteArray.empty), .d (.str ByteArray.empty), .lit (.slice none 0 0), .lit (.slice none 0 0), .lit (.slice none 0 0)])), (5, some (.blk 34 [.d (.int u.1.1), .d (.int u.1.2.1), .d (.str u.1.2.2.1), .d (.str u.1.2.2.2.1), .d (strsD u.1.2.2.2.2.1), .d (.sl (u.1.2.2.2.2.2.1.map Tm.row)), .d (.sl (u.1.2.2.2.2.2.2.1.map Cs.row))])), (6, some (.blk 30 [.arr 400 0 u.1.2.2.2.2.2.2.2.length])), (400, some (.arr 9 1 (u.1.2.2.2.2.2.2.2.map strR)))]⟩)
    (μ := fun u => (Tm.mk u.1.1 u.1.2.1 u.1.2.2.1 u.1.2.2.2.1 u.1.2.2.2.2.1 u.1.2.2.2.2.2.1 u.1.2.2.2.2.2.2.1).sz) ⟨(yk, yn, ya, yb, yvs, yxs, ycs, []), ⟨by rw [woN_nil'], hyd, hyO, by rw [woN_nil']; simp⟩⟩ (Le.sub (by simp) (by simp)) (fun ⟨(zk, zn, za, zb, zvs, zxs, zcs, us), hw⟩ => ?_)
  dsimp only at hw ⊢
  obtain ⟨hsr, hdu, hzO, hul⟩ := hw
  have hc1 := sp_Contains dws za (by omega)
  have hc2 := cs_Contains 1000 us za (by omega)
  obtain ⟨qa, hq1⟩ : ∃ q, hasB dws za = q := ⟨_, rfl⟩
  obtain ⟨qb, hq2⟩ : ∃ q, hasB us za = q := ⟨_, rfl⟩
  rw [hq1] at hc1
  rw [hq2] at hc2
  by_cases q1 : zk = 8
  · cases qa with
    | true =>
      cases qb with
      | true =>
        refine AWp.rg [] [.p (fun _ => .d (.bool true)) none, .c [(1000, 400)] [.arr 1000 0 us.length, .d (.str za)] [(1000, .arr 9 1 (us.map strR))] (.d (.bool true)) [(1000, .arr 9 1 (us.map strR))]] ?_ (hr := by conv => lhs; simp [Tm.row, Tm.rows_eq, Cs.rows_eq, q1])
        refine AWp.cn ?_
        refine AWp.exit ?_
        have hsz : Tm.sr (.mk zk zn za zb zvs zxs zcs) (woN dws us) = (woN dws us, (.mk zk zn za zb zvs zxs zcs)) := by
          refine if_neg fun h => ?_
          have h2 := h.2
          rw [hasB_woN, hq1, hq2] at h2
          cases h2
        obtain ⟨A, hA⟩ : ∃ A : Int, (dws.length : Int) = A := ⟨_, rfl⟩
        rw [hsz] at hsr
        refine AWp.rg [] [] ?_ (hr := by conv => lhs; simp [Tm.row, Tm.rows_eq, Cs.rows_eq, hA, q1])
        refine AWp.cy ?_
        rw [fuOne_no hsr fun h1 h2 h3 => by have h4 : zk = 9 := h2; omega] at hR
        injection hR with e1 e2 e3 e4 e5 e6 e7
        subst e1 e2 e3 e4 e5 e6 e7
        refine AWp.rg [] [] ?_ (hr := by conv => lhs; simp [Tm.row, Tm.rows_eq, Cs.rows_eq, q1])
        refine AWp.ret ?_
        try dsimp only [thenQ, blockQ]
        apply endQ.ret
        · rfl
        · conv => lhs; simp [resAV, Tryd.results101]
        first | rfl | simp [resVal, Tm.row, Tm.rows_eq, Cs.rows_eq, AV.nilD, nilDL, strsD]
      | false =>
        refine AWp.rg [] [.p (fun _ => .d (.bool true)) none, .c [(1000, 400)] [.arr 1000 0 us.length, .d (.str za)] [(1000, .arr 9 1 (us.map strR))] (.d (.bool false)) [(1000, .arr 9 1 (us.map strR))]] ?_ (hr := by conv => lhs; simp [Tm.row, Tm.rows_eq, Cs.rows_eq, q1])
        refine AWp.cy ?_
        refine AWp.skip ?_
        have hzn : zxs ≠ [] := hdu.1 (.inl q1)
        obtain ⟨x, r, rfl⟩ : ∃ x r, zxs = x :: r := by
          rcases zxs with _ | ⟨x, r⟩
          · exact absurd rfl hzn
          · exact ⟨x, r, rfl⟩
        have hwh : hasB (woN dws us) za = true := by rw [hasB_woN, hq1, hq2]; rfl
        have hle := woN_less hwh
        rw [woN_woN] at hle
        have hsr2 : (Tm.mk yk yn ya yb yvs yxs ycs).sr dws = x.sr (woN dws (us ++ [za])) := by rw [hsr, Tm.sr, if_pos ⟨q1, hwh⟩, Tm.srL, woN_woN]
        have hxd : x.Du := hdu.2.1.1
        have hxO : x.Ok := hzO.2.2.1.1
        obtain ⟨xk, xn, xa, xb, xvs, xxs, xcs⟩ := x
        refine AWp.rg [] [] ?_ (hr := by conv => lhs; simp [Tm.row, Tm.rows_eq, Cs.rows_eq, q1])
        refine AWp.rg [] [] ?_ (hr := by conv => lhs; simp [Tm.row, Tm.rows_eq, Cs.rows_eq, q1])
        refine ⟨⟨(xk, xn, xa, xb, xvs, xxs, xcs, us ++ [za]), ⟨hsr2, hxd, hxO, by dsimp only; simp; omega⟩⟩, by simp only [Tm.sz, Tm.szs]; omega, ?_⟩
        dsimp only
        exact Le.sub (by simp) (by simp)
    | false =>
      refine AWp.rg [] [.p (fun _ => .d (.bool false)) none] ?_ (hr := by conv => lhs; simp [Tm.row, Tm.rows_eq, Cs.rows_eq, q1])
      refine AWp.cn ?_
      refine AWp.exit ?_
      have hsz : Tm.sr (.mk zk zn za zb zvs zxs zcs) (woN dws us) = (woN dws us, (.mk zk zn za zb zvs zxs zcs)) := by
        refine if_neg fun h => ?_
        have h2 := h.2
        rw [hasB_woN, hq1, hq2] at h2
        cases h2
      obtain ⟨A, hA⟩ : ∃ A : Int, (dws.length : Int) = A := ⟨_, rfl⟩
      rw [hsz] at hsr
      refine AWp.rg [] [] ?_ (hr := by conv => lhs; simp [Tm.row, Tm.rows_eq, Cs.rows_eq, hA, q1])
      refine AWp.cy ?_
      rw [fuOne_no hsr fun h1 h2 h3 => by have h4 : zk = 9 := h2; omega] at hR
      injection hR with e1 e2 e3 e4 e5 e6 e7
      subst e1 e2 e3 e4 e5 e6 e7
      refine AWp.rg [] [] ?_ (hr := by conv => lhs; simp [Tm.row, Tm.rows_eq, Cs.rows_eq, q1])
      refine AWp.ret ?_
      try dsimp only [thenQ, blockQ]
      apply endQ.ret
      · rfl
      · conv => lhs; simp [resAV, Tryd.results101]
      first | rfl | simp [resVal, Tm.row, Tm.rows_eq, Cs.rows_eq, AV.nilD, nilDL, strsD]
  refine AWp.rg [] [] ?_ (hr := by conv => lhs; simp [Tm.row, Tm.rows_eq, Cs.rows_eq, q1])
  refine AWp.cn ?_
  refine AWp.exit ?_
  have hsz : Tm.sr (.mk zk zn za zb zvs zxs zcs) (woN dws us) = (woN dws us, (.mk zk zn za zb zvs zxs zcs)) := by
    refine if_neg fun h => ?_
    exact absurd h.1 q1
  obtain ⟨A, hA⟩ : ∃ A : Int, (dws.length : Int) = A := ⟨_, rfl⟩
  rw [hsz] at hsr
  by_cases q2 : zk = 9
  · by_cases q3 : za = nm
    · by_cases q4 : A = 0
      · refine AWp.rg [] [] ?_ (hr := by conv => lhs; simp [Tm.row, Tm.rows_eq, Cs.rows_eq, hA, q1, q2, q3, q4])
        refine AWp.cy ?_
        rw [fuOne_no hsr fun h1 h2 h3 => h1 (by omega)] at hR
        injection hR with e1 e2 e3 e4 e5 e6 e7
        subst e1 e2 e3 e4 e5 e6 e7
        refine AWp.rg [] [] ?_ (hr := by conv => lhs; simp [Tm.row, Tm.rows_eq, Cs.rows_eq, q1, q2, q3, q4])
        refine AWp.ret ?_
        try dsimp only [thenQ, blockQ]
        apply endQ.ret
        · rfl
        · conv => lhs; simp [resAV, Tryd.results101]
        first | rfl | simp [resVal, Tm.row, Tm.rows_eq, Cs.rows_eq, AV.nilD, nilDL, strsD]
      refine AWp.rg [] [] ?_ (hr := by conv => lhs; simp [Tm.row, Tm.rows_eq, Cs.rows_eq, hA, q1, q2, q3, q4])
      refine AWp.cn ?_
      refine AWp.skip ?_
      apply AWp.frzs [400]
      · conv => lhs; simp
      have hzn : zxs ≠ [] := hdu.1 (.inr q2)
      obtain ⟨x, r, rfl⟩ : ∃ x r, zxs = x :: r := by
        rcases zxs with _ | ⟨x, r⟩
        · exact absurd rfl hzn
        · exact ⟨x, r, rfl⟩
      rw [fuOne_yes hsr (by omega) q2 q3] at hR
      rw [show Tm.a0 (.mk zk zn za zb zvs (x :: r) zcs) = x from rfl] at hR
      have hcl := sp_Clone dws (by omega)
      have hdf := cs_DeleteFunc dws (by omega) (hasB us) 145 30 (strsD us) (fun s _ => cs_fone1 us s (by omega))
      obtain ⟨rest, hrs⟩ : ∃ l, l = woN dws us := ⟨_, rfl⟩
      rw [← hrs] at hR
      rw [show (dws.filter fun s => !hasB us s) = rest from by rw [hrs]; rfl] at hdf
      obtain ⟨RR, hRR⟩ : ∃ R, R = delRows dws (hasB us) := ⟨_, rfl⟩
      have hRn : List.take rest.length RR = List.map strR rest := by
        rw [hRR, hrs, delRows, woN, List.take_append_of_le_length (by simp), List.take_of_length_le (by simp)]
      have hRl : dws.length ≤ RR.length := by
        have := List.length_filter_le (fun s => !hasB us s) dws
        rw [hRR, delRows]; simp; omega
      rw [← hRR] at hdf
      have hrl : rest.length ≤ dws.length := by rw [hrs]; exact woN_len _ _
      have hfd := sp_fdrops rest x (by omega) (fun s hs => maxLen_ge (hwz s (by rw [hrs] at hs; exact (List.mem_filter.1 hs).1)))
      generalize cnt 9 rest x = e at hfd hR
      obtain ⟨xk, xn, xa, xb, xvs, xxs, xcs⟩ := x
      obtain ⟨ek, en, ea, eb, evs, exs, ecs⟩ := e
      injection hR with e1 e2 e3 e4 e5 e6 e7
      subst e1 e2 e3 e4 e5 e6 e7
      refine AWp.rg [] [.p (fun d => .arr d 0 dws.length) (some (.arr 9 1 (dws.map strR))), .c [(1000, 6), (1001, 54)] [.arr 1001 0 dws.length, .clo 145 [.ptr 1000 0]] [(1000, .blk 30 [.d (strsD us)]), (1001, .arr 9 1 (dws.map strR))] (.arr 1001 0 rest.length) [(1000, .blk 30 [.d (strsD us)]), (1001, .arr 9 1 RR)]] ?_ (hr := by conv => lhs; simp [Tm.row, Tm.rows_eq, Cs.rows_eq, q1, q2, q3, q4])
      apply AWp.frzs [54]
      · conv => lhs; simp [hRn]
      refine AWp.dw [3, 10] [.p (fun d => .arr d 0 dws.length) (some (.arr 9 1 (dws.map strR))), .p (fun _ => .agg [.d (.int ek), .d (.int en), .d (.str ea), .d (.str eb), .d (strsD evs), .d (.sl (exs.map Tm.row)), .d (.sl (ecs.map Cs.row))]) none] mixed ?_ (hr := by conv => lhs; simp [Tm.row, Tm.rows_eq, Cs.rows_eq, q1, q2, q3, q4])
      refine AWp.rg [] [] ?_ (hr := by conv => lhs; simp [Tm.row, Tm.rows_eq, Cs.rows_eq, q1, q2, q3, q4])
      refine AWp.ret ?_
      try dsimp only [thenQ, blockQ]
      apply endQ.ret
      · rfl
      · conv => lhs; simp [resAV, Tryd.results101]
      first | rfl | simp [resVal, Tm.row, Tm.rows_eq, Cs.rows_eq, AV.nilD, nilDL, strsD]
    refine AWp.rg [] [] ?_ (hr := by conv => lhs; simp [Tm.row, Tm.rows_eq, Cs.rows_eq, hA, q1, q2, q3])
    refine AWp.cy ?_
    rw [fuOne_no hsr fun h1 h2 h3 => q3 h3] at hR
    injection hR with e1 e2 e3 e4 e5 e6 e7
    subst e1 e2 e3 e4 e5 e6 e7
    refine AWp.rg [] [] ?_ (hr := by conv => lhs; simp [Tm.row, Tm.rows_eq, Cs.rows_eq, q1, q2, q3])
    refine AWp.ret ?_
    try dsimp only [thenQ, blockQ]
    apply endQ.ret
    · rfl
    · conv => lhs; simp [resAV, Tryd.results101]
    first | rfl | simp [resVal, Tm.row, Tm.rows_eq, Cs.rows_eq, AV.nilD, nilDL, strsD]
  refine AWp.rg [] [] ?_ (hr := by conv => lhs; simp [Tm.row, Tm.rows_eq, Cs.rows_eq, hA, q1, q2])
  refine AWp.cy ?_
  rw [fuOne_no hsr fun h1 h2 h3 => q2 h2] at hR
  injection hR with e1 e2 e3 e4 e5 e6 e7
  subst e1 e2 e3 e4 e5 e6 e7
  refine AWp.rg [] [] ?_ (hr := by conv => lhs; simp [Tm.row, Tm.rows_eq, Cs.rows_eq, q1, q2])
  refine AWp.ret ?_
  try dsimp only [thenQ, blockQ]
  apply endQ.ret
  · rfl
  · conv => lhs; simp [resAV, Tryd.results101]
  first | rfl | simp [resVal, Tm.row, Tm.rows_eq, Cs.rows_eq, AV.nilD, nilDL, strsD]

def FuN (N : Nat) : Prop := ∀ t : Tm, t.sz ≤ N → t.Ok → t.Du → PSpec Tryd.prog 52 [tmAV t] (fun _ => tmAV t.fu) none
set_option maxRecDepth 20000 in
set_option maxHeartbeats 16000000 in
theorem fu_step (N : Nat) (ih : FuN N) : FuN (N + 1) := by
  intro t hsz hO hD
  obtain ⟨R, hR⟩ : ∃ R, R = t.fu := ⟨_, rfl⟩
  rw [← hR]
  obtain ⟨rk, rn, ra, rb, rvs, rxs, rcs⟩ := R
  obtain ⟨tk, tn, ta, tb, tvs, txs, tcs⟩ := t
  rw [Tm.fu, Tm.fuL_eq, Cs.fuL_eq] at hR
  obtain ⟨nm0, hn0⟩ : ∃ x, x = nmH txs := ⟨_, rfl⟩
  rw [← hn0] at hR
  have hxO : ∀ x ∈ txs, x.Ok := fun x hx => Tm.Oks_iff.1 hO.2.2.1 x hx
  have hcO : ∀ x ∈ tcs, x.Ok := fun x hx => Cs.Oks_iff.1 hO.2.2.2 x hx
  have hxD : ∀ x ∈ txs, x.Du := fun x hx => Tm.DuL_iff.1 hD.2.1 x hx
  have hcD : ∀ x ∈ tcs, x.Du := fun x hx => Cs.DuL_iff.1 hD.2.2 x hx
  obtain ⟨o1, o2, o3, o4, o5⟩ := hO.vars
  have hown := cs_Own (.mk tk tn ta tb tvs txs tcs) hO
  dsimp only at hown
  simp only [Tm.sz] at hsz
  refine PSpec.of Tryd.func52 rfl rfl rfl (Nat.le_of_ble_eq_true rfl) ?_
  show AWp _ _ (endQ _ Tryd.f52 _ _ _) (startAS 68 _)
  refine AWp.rg [] [] ?_ (hr := by conv => lhs; simp [Tm.row, Tm.rows_eq, Cs.rows_eq])
  refine AWp.rg [] [.n [(500, 400), (501, 401)] [.agg [.d (.int tk), .d (.int tn), .d (.str ta), .d (.str tb), .d (strsD tvs), .d (.sl (txs.map Tm.row)), .d (.sl (tcs.map Cs.row))]] [] (.agg [.d (.int tk), .d (.int tn), .d (.str ta), .d (.str tb), .d (strsD tvs), .arr 500 0 txs.length, .arr 501 0 tcs.length]) [(500, .arr 34 7 (txs.map Tm.row)), (501, .arr 40 9 (tcs.map Cs.row))] [500, 501]] ?_ (hr := by conv => lhs; simp [Tm.row, Tm.rows_eq, Cs.rows_eq])
  refine AWp.rg [] [] ?_ (hr := by conv => lhs; simp [Tm.row, Tm.rows_eq, Cs.rows_eq])
  repeat (first | refine AWp.seq ?_ | refine AWp.block ?_)
  refine AWp.loop (σ := fun u : {u : Nat × List Tm × List (List D) // u.1 ≤ txs.length ∧ (u.2.1 = (txs.take u.1).map Tm.fu ∧ u.2.1.length = u.1 ∧ u.2.2 = (u.2.1 ++ txs.drop u.1).map Tm.row)} => ⟨68, [(1, .ptr 1 0), (2, .ptr 2 0), (9, .d (.int txs.length)), (10, .d (.int (u.1.1 : Int)))], [(1, some (.blk 34 [.d (.int tk), .d (.int tn), .d (.str ta), .d (.str tb), .d (strsD tvs), .arr 400 0 txs.length, .arr 401 0 tcs.length])), (2, some (.blk 34 [.d (.int 0), .d (.int 0), .d (.str ByteArray.empty), .d (.str ByteArray.empty), .lit (.slice none 0 0), .lit (.slice none 0 0), .lit (.slice none 0 0)])), (400, some (.arr 34 7 u.1.2.2)), (401, some (.arr 40 9 (tcs.map Cs.row)))]⟩)
    (μ := fun u => txs.length - u.1.1) ⟨(0, [], txs.map Tm.row), ⟨Nat.zero_le _, ⟨by simp, rfl, by simp⟩⟩⟩ (Le.sub (by simp) (by simp)) (fun ⟨(i, ys, RS), ⟨hi3, hw⟩⟩ => ?_)
  dsimp only at hi3 hw ⊢
  refine AWp.rg [] [] ?_ (hr := by conv => lhs; simp [Tm.row, Tm.rows_eq, Cs.rows_eq])
  repeat (first | refine AWp.seq ?_ | refine AWp.block ?_)
  refine AWp.cond rfl (fun hc => ?_) (fun hc => ?_)
  · have hi1 : i < txs.length := by have := of_decide_eq_true hc; omega
    clear hc
    have h1y : txs[i]? = some txs[i] := List.getElem?_eq_getElem hi1
    have hmy : txs[i] ∈ txs := List.getElem_mem hi1
    have hdy : txs.drop i = txs[i] :: txs.drop (i + 1) := List.drop_eq_getElem_cons hi1
    generalize txs[i] = y at h1y hmy hdy
    obtain ⟨hys, hyl, hRS⟩ := hw
    have hx := ih y (by have := Tm.szs_mem hmy; omega) (hxO y hmy) (hxD y hmy)
    have hsn : (txs.take (i + 1)).map Tm.fu = ys ++ [y.fu] := by rw [List.take_add_one, h1y, List.map_append, ← hys]; rfl
    rw [hdy] at hRS
    generalize y.fu = z at hx hsn
    obtain ⟨yk, yn, ya, yb, yvs, yxs, ycs⟩ := y
    obtain ⟨zk, zn, za, zb, zvs, zxs, zcs⟩ := z
    have hRS0 : RS[i]? = some (Tm.row (.mk yk yn ya yb yvs yxs ycs)) := by rw [hRS, List.getElem?_map, List.getElem?_append_right (by omega), hyl, Nat.sub_self]; rfl
    obtain ⟨RS1, hRS1⟩ : ∃ R, R = RS.set i (Tm.row (.mk zk zn za zb zvs zxs zcs)) := ⟨_, rfl⟩
    have hRS2 : RS1 = ((ys ++ [Tm.mk zk zn za zb zvs zxs zcs]) ++ txs.drop (i + 1)).map Tm.row := by
      rw [hRS1, hRS, ← List.map_set, List.set_append_right _ _ (by omega), hyl, Nat.sub_self]
      simp
    have hRSl : RS.length = txs.length := by rw [hRS, List.length_map, List.length_append, List.length_cons, List.length_drop]; omega
    simp only [Tm.row, Tm.rows_eq, Cs.rows_eq] at hRS0 hRS1
    replace hRS1 := hRS1.symm
    refine AWp.skip ?_
    refine AWp.rg [] [] ?_ (hr := by conv => lhs; simp [Tm.row, Tm.rows_eq, Cs.rows_eq, h1y, hRS0, hRS1])
    refine AWp.dw [] [.p (fun _ => .agg [.d (.int zk), .d (.int zn), .d (.str za), .d (.str zb), .d (strsD zvs), .d (.sl (zxs.map Tm.row)), .d (.sl (zcs.map Cs.row))]) none] mixed ?_ (hr := by conv => lhs; simp [Tm.row, Tm.rows_eq, Cs.rows_eq, h1y, hRS0, hRS1])
    refine AWp.rg [] [] ?_ (hr := by conv => lhs; simp [Tm.row, Tm.rows_eq, Cs.rows_eq, h1y, hRS0, hRS1])
    refine ⟨⟨(i + 1, ys ++ [.mk zk zn za zb zvs zxs zcs], RS1), hi1, ⟨by rw [hsn], by simp [hyl], hRS2⟩⟩, by simp; omega, ?_⟩
    dsimp only
    exact Le.sub (by simp) (by simp)
  have hi1 : i = txs.length := by have := of_decide_eq_false hc; omega
  subst hi1
  clear hc
  obtain ⟨hys, hyl, hRS⟩ := hw
  rw [List.drop_length, List.append_nil] at hRS
  rw [List.take_length] at hys
  rw [← hys] at hR
  have hynm : nmH ys = nmH txs := by
    rw [hys]
    rcases txs with _ | ⟨x, r⟩
    · rfl
    · exact Tm.fu_nm x
  rw [← hn0] at hynm
  clear hys
  subst hRS
  refine AWp.exit ?_
  refine AWp.rg [] [] ?_ (hr := by conv => lhs; simp [Tm.row, Tm.rows_eq, Cs.rows_eq])
  repeat (first | refine AWp.seq ?_ | refine AWp.block ?_)
  refine AWp.loop (σ := fun u : {u : Nat × List Cs × List (List D) // u.1 ≤ tcs.length ∧ (u.2.1 = (tcs.take u.1).map (Cs.fu tk txs.length nm0) ∧ u.2.1.length = u.1 ∧ u.2.2 = (u.2.1 ++ tcs.drop u.1).map Cs.row)} => ⟨68, [(1, .ptr 1 0), (2, .ptr 2 0), (26, .d (.int tcs.length)), (27, .d (.int (u.1.1 : Int)))], [(1, some (.blk 34 [.d (.int tk), .d (.int tn), .d (.str ta), .d (.str tb), .d (strsD tvs), .arr 400 0 txs.length, .arr 401 0 tcs.length])), (2, some (.blk 34 [.d (.int 0), .d (.int 0), .d (.str ByteArray.empty), .d (.str ByteArray.empty), .lit (.slice none 0 0), .lit (.slice none 0 0), .lit (.slice none 0 0)])), (400, some (.arr 34 7 (ys.map Tm.row))), (401, some (.arr 40 9 u.1.2.2))]⟩)
    (μ := fun u => tcs.length - u.1.1) ⟨(0, [], tcs.map Cs.row), ⟨Nat.zero_le _, ⟨by simp, rfl, by simp⟩⟩⟩ (Le.sub (by simp) (by simp)) (fun ⟨(i, ds, RS), ⟨hi8, hw2⟩⟩ => ?_)
  dsimp only at hi8 hw2 ⊢
  refine AWp.rg [] [] ?_ (hr := by conv => lhs; simp [Tm.row, Tm.rows_eq, Cs.rows_eq])
  repeat (first | refine AWp.seq ?_ | refine AWp.block ?_)
  refine AWp.cond rfl (fun hc => ?_) (fun hc => ?_)
  · have hi1 : i < tcs.length := by have := of_decide_eq_true hc; omega
    clear hc
    have h1d : tcs[i]? = some tcs[i] := List.getElem?_eq_getElem hi1
    have hmd : tcs[i] ∈ tcs := List.getElem_mem hi1
    have hdd : tcs.drop i = tcs[i] :: tcs.drop (i + 1) := List.drop_eq_getElem_cons hi1
    generalize tcs[i] = d at h1d hmd hdd
    obtain ⟨hds, hdl, hRS⟩ := hw2
    have hdO := hcO d hmd
    have hdD := hcD d hmd
    have hsz := Cs.szs_mem hmd
    rw [hdd] at hRS
    have hsn : (tcs.take (i + 1)).map (Cs.fu tk txs.length nm0) = ds ++ [d.fu tk txs.length nm0] := by rw [List.take_add_one, h1d, List.map_append, ← hds]; rfl
    obtain ⟨dt, dws, y⟩ := d
    have hx := ih y (by simp only [Cs.sz] at hsz; omega) hdO.2.2 hdD.2
    obtain ⟨hfo, hfd⟩ := Tm.fu_ok y hdO.2.2 hdD.2
    rw [Cs.fu] at hsn
    generalize y.fu = z at hx hfo hfd hsn
    obtain ⟨yk, yn, ya, yb, yvs, yxs, ycs⟩ := y
    obtain ⟨zk, zn, za, zb, zvs, zxs, zcs⟩ := z
    obtain ⟨u, hu⟩ : ∃ u, fuOne tk txs.length nm0 dws (.mk zk zn za zb zvs zxs zcs) = u := ⟨_, rfl⟩
    rw [hu] at hsn
    have hone := fun (h : tk = 7) (h2 : txs.length = 1) => sp_one nm0 dt dws zk zn za zb zvs zxs zcs hfo hfd hdD.1 hdO.1
    obtain ⟨uk, un, ua, ub, uvs, uxs, ucs⟩ := u
    have hRSl : RS.length = tcs.length := by rw [hRS, List.length_map, List.length_append, List.length_cons, List.length_drop]; omega
    have hR0 : RS[i]? = some [.int dt, strsD dws, .int yk, .int yn, .str ya, .str yb, strsD yvs, .sl (yxs.map Tm.row), .sl (ycs.map Cs.row)] := by rw [hRS, List.getElem?_map, List.getElem?_append_right (by omega), hdl, Nat.sub_self]; simp [Cs.row, Tm.row, Tm.rows_eq, Cs.rows_eq]
    obtain ⟨R1, hR1⟩ : ∃ R1, RS.set i [.int dt, strsD dws, .int zk, .int zn, .str za, .str zb, strsD zvs, .sl (zxs.map Tm.row), .sl (zcs.map Cs.row)] = R1 := ⟨_, rfl⟩
    have hR1g : R1[i]? = some [.int dt, strsD dws, .int zk, .int zn, .str za, .str zb, strsD zvs, .sl (zxs.map Tm.row), .sl (zcs.map Cs.row)] := by rw [← hR1]; exact List.getElem?_set_self (by omega)
    have hR1l : R1.length = RS.length := by rw [← hR1]; simp
    have hRS2 : RS.set i [.int dt, strsD dws, .int uk, .int un, .str ua, .str ub, strsD uvs, .sl (uxs.map Tm.row), .sl (ucs.map Cs.row)] = ((ds ++ [Cs.mk dt dws (.mk uk un ua ub uvs uxs ucs)]) ++ tcs.drop (i + 1)).map Cs.row := by
      rw [show ([.int dt, strsD dws, .int uk, .int un, .str ua, .str ub, strsD uvs, .sl (uxs.map Tm.row), .sl (ucs.map Cs.row)] : List D) = Cs.row (Cs.mk dt dws (.mk uk un ua ub uvs uxs ucs)) from by simp [Cs.row, Tm.row, Tm.rows_eq, Cs.rows_eq], hRS, ← List.map_set, List.set_append_right _ _ (by omega), hdl, Nat.sub_self]
      simp
    refine AWp.skip ?_
    refine AWp.rg [] [] ?_ (hr := by conv => lhs; simp [Tm.row, Tm.rows_eq, Cs.rows_eq, h1d, Cs.row, hR0, hR1, hR1g])
    refine AWp.dw [] [.p (fun _ => .agg [.d (.int zk), .d (.int zn), .d (.str za), .d (.str zb), .d (strsD zvs), .d (.sl (zxs.map Tm.row)), .d (.sl (zcs.map Cs.row))]) none] mixed ?_ (hr := by conv => lhs; simp [Tm.row, Tm.rows_eq, Cs.rows_eq, h1d, Cs.row, hR0, hR1, hR1g])
    obtain ⟨A, hA⟩ : ∃ A : Int, (txs.length : Int) = A := ⟨_, rfl⟩
    by_cases q1 : A = 1
    · by_cases q2 : tk = 7
      · refine AWp.rg [] [] ?_ (hr := by conv => lhs; simp [Tm.row, Tm.rows_eq, Cs.rows_eq, h1d, Cs.row, hR0, hR1, hR1g, hA, q1, q2])
        refine AWp.cy ?_
        have hA1 : A = 1 := q1
        subst q2
        have hl1 : txs.length = 1 := by omega
        have hon := hone rfl hl1
        rw [hl1] at hu
        rw [hu] at hon
        obtain ⟨y0, hy0⟩ : ∃ y0, ys = [y0] := by
          rcases ys with _ | ⟨y0, _ | ⟨y1, r⟩⟩
          · simp at hyl; omega
          · exact ⟨y0, rfl⟩
          · simp at hyl; omega
        obtain ⟨ak, an, aa, ab, avs, axs, acs⟩ := y0
        rw [hy0] at hynm
        obtain rfl : nm0 = aa := hynm.symm
        replace hy0 : (ys.map Tm.row)[0]? = some [.int ak, .int an, .str nm0, .str ab, strsD avs, .sl (axs.map Tm.row), .sl (acs.map Cs.row)] := by rw [hy0]; simp [Tm.row, Tm.rows_eq, Cs.rows_eq]
        obtain ⟨R2, hR2⟩ : ∃ R2, R1.set i [.int dt, strsD dws, .int uk, .int un, .str ua, .str ub, strsD uvs, .sl (uxs.map Tm.row), .sl (ucs.map Cs.row)] = R2 := ⟨_, rfl⟩
        have hR2l : R2.length = R1.length := by rw [← hR2]; simp
        refine AWp.dw [] [.p (fun _ => .agg [.d (.int dt), .d (strsD dws), .d (.int uk), .d (.int un), .d (.str ua), .d (.str ub), .d (strsD uvs), .d (.sl (uxs.map Tm.row)), .d (.sl (ucs.map Cs.row))]) none] mixed ?_ (hr := by conv => lhs; simp [Tm.row, Tm.rows_eq, Cs.rows_eq, h1d, Cs.row, hR0, hR1g, hy0, hR2, q1])
        refine AWp.rg [] [] ?_ (hr := by conv => lhs; simp [Tm.row, Tm.rows_eq, Cs.rows_eq, h1d, Cs.row, hR0, hR1g, hy0, hR2, q1])
        refine ⟨⟨(i + 1, ds ++ [.mk dt dws (.mk uk un ua ub uvs uxs ucs)], R2), hi1, ⟨hsn.symm, by simp [hdl], by rw [← hR2, ← hR1, List.set_set]; exact hRS2⟩⟩, by simp; omega, ?_⟩
        dsimp only
        exact Le.sub (by simp) (by simp)
      refine AWp.rg [] [] ?_ (hr := by conv => lhs; simp [Tm.row, Tm.rows_eq, Cs.rows_eq, h1d, Cs.row, hR0, hR1, hR1g, hA, q1, q2])
      refine AWp.cn ?_
      refine AWp.skip ?_
      have hzu : ([.int dt, strsD dws, .int zk, .int zn, .str za, .str zb, strsD zvs, .sl (zxs.map Tm.row), .sl (zcs.map Cs.row)] : List D) = [.int dt, strsD dws, .int uk, .int un, .str ua, .str ub, strsD uvs, .sl (uxs.map Tm.row), .sl (ucs.map Cs.row)] := by
        unfold fuOne at hu
        rw [if_neg (fun h => q2 h.2.2.1)] at hu
        injection hu with e1 e2 e3 e4 e5 e6 e7
        subst e1 e2 e3 e4 e5 e6 e7
        rfl
      refine AWp.rg [] [] ?_ (hr := by conv => lhs; simp [Tm.row, Tm.rows_eq, Cs.rows_eq, h1d, Cs.row, hR0, hR1, hR1g, q1, q2])
      refine ⟨⟨(i + 1, ds ++ [.mk dt dws (.mk uk un ua ub uvs uxs ucs)], R1), hi1, ⟨hsn.symm, by simp [hdl], by rw [← hR1, hzu]; exact hRS2⟩⟩, by simp; omega, ?_⟩
      dsimp only
      exact Le.sub (by simp) (by simp)
    refine AWp.rg [] [] ?_ (hr := by conv => lhs; simp [Tm.row, Tm.rows_eq, Cs.rows_eq, h1d, Cs.row, hR0, hR1, hR1g, hA, q1])
    refine AWp.cn ?_
    refine AWp.skip ?_
    have hzu : ([.int dt, strsD dws, .int zk, .int zn, .str za, .str zb, strsD zvs, .sl (zxs.map Tm.row), .sl (zcs.map Cs.row)] : List D) = [.int dt, strsD dws, .int uk, .int un, .str ua, .str ub, strsD uvs, .sl (uxs.map Tm.row), .sl (ucs.map Cs.row)] := by
      unfold fuOne at hu
      rw [if_neg (fun h => by have := h.2.1; omega)] at hu
      injection hu with e1 e2 e3 e4 e5 e6 e7
      subst e1 e2 e3 e4 e5 e6 e7
      rfl
    refine AWp.rg [] [] ?_ (hr := by conv => lhs; simp [Tm.row, Tm.rows_eq, Cs.rows_eq, h1d, Cs.row, hR0, hR1, hR1g, q1])
    refine ⟨⟨(i + 1, ds ++ [.mk dt dws (.mk uk un ua ub uvs uxs ucs)], R1), hi1, ⟨hsn.symm, by simp [hdl], by rw [← hR1, hzu]; exact hRS2⟩⟩, by simp; omega, ?_⟩
    dsimp only
    exact Le.sub (by simp) (by simp)
  have hi1 : i = tcs.length := by have := of_decide_eq_false hc; omega
  subst hi1
  clear hc
  obtain ⟨hds, hdl, hRS⟩ := hw2
  rw [List.drop_length, List.append_nil] at hRS
  rw [List.take_length] at hds
  rw [← hds] at hR
  replace hR := hR.symm
  injection hR with e1 e2 e3 e4 e5 e6 e7
  subst e1 e2 e3 e4 e5 e6 e7
  subst hRS
  refine AWp.exit ?_
  refine AWp.rg [] [] ?_ (hr := by conv => lhs; simp [Tm.row, Tm.rows_eq, Cs.rows_eq])
  refine AWp.ret ?_
  have htk1 : List.take txs.length (List.map Tm.row ys) = List.map Tm.row ys := List.take_of_length_le (by simp; omega)
  have htk2 : List.take tcs.length (List.map Cs.row ds) = List.map Cs.row ds := List.take_of_length_le (by simp; omega)
  try dsimp only [thenQ, blockQ]
  apply endQ.retF [400, 401]
  · rfl
  · conv => lhs; simp [htk1, htk2]
  · conv => lhs; simp [resAV, Tryd.results52, htk1, htk2]
  first | rfl | simp [resVal, tmAV, Tm.row, Tm.rows_eq, Cs.rows_eq, htk1, htk2]
theorem fu_all : ∀ N, FuN N
  | 0 => fun t h => by obtain ⟨tk, tn, ta, tb, tvs, txs, tcs⟩ := t; simp only [Tm.sz] at h; omega
  | N + 1 => fu_step N (fu_all N)
set_option maxRecDepth 20000 in
set_option maxHeartbeats 16000000 in
theorem sp_FuAll (l : List Fn) (hl : l.length ≤ 879609302220) (hall : ∀ f ∈ l, f.body.Ok ∧ f.body.Du ∧ f.params.length ≤ 6) : PSpec Tryd.prog 17 [fnsAV l] (fun _ => fnsAV (l.map Fn.fu)) none := by
  obtain ⟨G, hG⟩ : ∃ G, G = l.map Fn.fu := ⟨_, rfl⟩
  rw [← hG]
  refine PSpec.of Tryd.func17 rfl rfl rfl (Nat.le_of_ble_eq_true rfl) ?_
  show AWp _ _ (endQ _ Tryd.f17 _ _ _) (startAS 26 _)
  refine AWp.rg [] [] ?_ (hr := by conv => lhs; simp [Fn.row, Tm.row, Tm.rows_eq, Cs.rows_eq])
  refine AWp.rg [] [] ?_ (hr := by conv => lhs; simp [Fn.row, Tm.row, Tm.rows_eq, Cs.rows_eq])
  refine AWp.rg [] [] ?_ (hr := by conv => lhs; simp [Fn.row, Tm.row, Tm.rows_eq, Cs.rows_eq])
  repeat (first | refine AWp.seq ?_ | refine AWp.block ?_)
  refine AWp.le (Le.low [400] [] (fr := [(3, .arr 400 0 ([] : List Fn).length), (6, .d (.sl (l.map Fn.row))), (7, .d (.int (l.length : Int))), (8, .d (.int (0 : Int)))]) (mem := [(400, some (.arr 36 9 (([] : List Fn).map Fn.row)))]) rfl (by simp) (by simp)) ?_
  refine AWp.loop (σ := fun u : {u : Nat × List Fn // u.1 ≤ l.length ∧ u.2 = (l.take u.1).map Fn.fu} => ⟨26, [(3, .arr 400 0 u.1.2.length), (6, .d (.sl (l.map Fn.row))), (7, .d (.int (l.length : Int))), (8, .d (.int (u.1.1 : Int)))], [(400, some (.arr 36 9 (u.1.2.map Fn.row)))]⟩)
    (μ := fun u => l.length - u.1.1) ⟨(0, []), ⟨Nat.zero_le _, by simp⟩⟩ (Le.sub (by simp) (by simp)) (fun ⟨(i, gs), ⟨hi3, hw⟩⟩ => ?_)
  dsimp only at hi3 hw ⊢
  refine AWp.rg [] [] ?_ (hr := by conv => lhs; simp [Fn.row, Tm.row, Tm.rows_eq, Cs.rows_eq])
  repeat (first | refine AWp.seq ?_ | refine AWp.block ?_)
  refine AWp.cond rfl (fun hc => ?_) (fun hc => ?_)
  · have hi1 : i < l.length := by have := of_decide_eq_true hc; omega
    clear hc
    have h1f : l[i]? = some l[i] := List.getElem?_eq_getElem hi1
    have hmf : l[i] ∈ l := List.getElem_mem hi1
    have hdf : l.drop i = l[i] :: l.drop (i + 1) := List.drop_eq_getElem_cons hi1
    generalize l[i] = f at h1f hmf hdf
    have hgl : gs.length = i := by rw [hw, List.length_map, List.length_take]; omega
    obtain ⟨hfO, hfD, hfp⟩ := hall f hmf
    have hx := fu_all f.body.sz f.body (Nat.le_refl _) hfO hfD
    have hcl := sp_Clone f.params (by omega)
    have hsn : (l.take (i + 1)).map Fn.fu = gs ++ [⟨f.name, f.params, f.body.fu⟩] := by rw [List.take_add_one, h1f, List.map_append, ← hw]; rfl
    obtain ⟨fg, fps, fb⟩ := f
    dsimp only at hx hcl hfp hsn
    generalize fb.fu = z at hx hsn
    obtain ⟨fk, fn, fa, fb, fvs, fxs, fcs⟩ := fb
    obtain ⟨zk, zn, za, zb, zvs, zxs, zcs⟩ := z
    refine AWp.skip ?_
    refine AWp.rg [] [] ?_ (hr := by conv => lhs; simp [Fn.row, Tm.row, Tm.rows_eq, Cs.rows_eq, h1f])
    refine AWp.dw [5] [.p (fun d => .arr d 0 fps.length) (some (.arr 9 1 (fps.map strR))), .p (fun _ => .agg [.d (.int zk), .d (.int zn), .d (.str za), .d (.str zb), .d (strsD zvs), .d (.sl (zxs.map Tm.row)), .d (.sl (zcs.map Cs.row))]) none] mixed ?_ (hr := by conv => lhs; simp [Fn.row, Tm.row, Tm.rows_eq, Cs.rows_eq, h1f])
    refine AWp.rg [] [] ?_ (hr := by conv => lhs; simp [Fn.row, Tm.row, Tm.rows_eq, Cs.rows_eq, h1f])
    refine ⟨⟨(i + 1, gs ++ [⟨fg, fps, .mk zk zn za zb zvs zxs zcs⟩]), hi1, hsn.symm⟩, by simp; omega, ?_⟩
    dsimp only
    exact Le.sub (by simp [Fn.row, Tm.row, Tm.rows_eq, Cs.rows_eq, hgl]) (by simp [Fn.row, Tm.row, Tm.rows_eq, Cs.rows_eq, hgl])
  have hi1 : i = l.length := by have := of_decide_eq_false hc; omega
  subst hi1
  clear hc
  rw [List.take_length] at hw
  obtain rfl : gs = G := by rw [hw, hG]
  refine AWp.exit ?_
  refine AWp.rg [] [] ?_ (hr := by conv => lhs; simp [Fn.row, Tm.row, Tm.rows_eq, Cs.rows_eq])
  refine AWp.ret ?_
  try dsimp only [thenQ, blockQ]
  apply endQ.retF [400]
  · rfl
  · conv => lhs; simp
  · conv => lhs; simp [resAV, Tryd.results17]
  rfl
theorem Tm.stpL_snoc (x : Tm) : ∀ (l : List Tm) (n : Int), Tm.stpL n (l ++ [x]) = wr (Tm.stpL n l + x.stp)
  | [], n => rfl
  | y :: r, n => by rw [List.cons_append, Tm.stpL, Tm.stpL, Tm.stpL_snoc x r]
theorem Cs.stpL_snoc (x : Cs) : ∀ (l : List Cs) (n : Int), Cs.stpL n (l ++ [x]) = wr (Cs.stpL n l + x.stp)
  | [], n => rfl
  | y :: r, n => by rw [List.cons_append, Cs.stpL, Cs.stpL, Cs.stpL_snoc x r]
def StN (N : Nat) : Prop := ∀ t : Tm, t.sz ≤ N → t.Ok → PSpec Tryd.prog 51 [tmAV t] (fun _ => .d (.int t.stp)) none
set_option maxRecDepth 20000 in
set_option maxHeartbeats 16000000 in
theorem StN_step (N : Nat) (ih : StN N) : StN (N + 1) := by
  intro t hsz hO
  obtain ⟨R, hR⟩ : ∃ R, R = t.stp := ⟨_, rfl⟩
  rw [← hR]
  obtain ⟨tk, tn, ta, tb, tvs, txs, tcs⟩ := t
  have hxO : ∀ x ∈ txs, x.Ok := fun x hx => Tm.Oks_iff.1 hO.2.2.1 x hx
  have hcO : ∀ x ∈ tcs, x.Ok := fun x hx => Cs.Oks_iff.1 hO.2.2.2 x hx
  obtain ⟨o1, o2, o3, o4, o5⟩ := hO.vars
  rw [Tm.stp] at hR
  simp only [Tm.sz] at hsz
  refine PSpec.of Tryd.func51 rfl rfl rfl (Nat.le_of_ble_eq_true rfl) ?_
  show AWp _ _ (endQ _ Tryd.f51 _ _ _) (startAS 37 _)
  refine AWp.rg [] [] ?_ (hr := by conv => lhs; simp [Tm.row, Tm.rows_eq, Cs.rows_eq])
  refine AWp.rg [] [] ?_ (hr := by conv => lhs; simp [Tm.row, Tm.rows_eq, Cs.rows_eq])
  by_cases q1 : 8 ≤ tk
  · refine AWp.rg [] [] ?_ (hr := by conv => lhs; simp [Tm.row, Tm.rows_eq, Cs.rows_eq, q1])
    refine AWp.cy ?_
    refine AWp.rg [] [] ?_ (hr := by conv => lhs; simp [Tm.row, Tm.rows_eq, Cs.rows_eq, q1])
    rw [if_pos (by omega)] at hR
    refine AWp.rg [] [] ?_ (hr := by conv => lhs; simp [Tm.row, Tm.rows_eq, Cs.rows_eq, q1])
    repeat (first | refine AWp.seq ?_ | refine AWp.block ?_)
    refine AWp.loop (σ := fun u : {u : Nat × Int // u.1 ≤ txs.length ∧ u.2 = Tm.stpL 1 (txs.take u.1)} => ⟨37, [(1, .ptr 1 0), (3, .d (.int u.1.2)), (12, .d (.sl (txs.map Tm.row))), (13, .d (.int (txs.length : Int))), (14, .d (.int (u.1.1 : Int)))], [(1, some (.blk 34 [.d (.int tk), .d (.int tn), .d (.str ta), .d (.str tb), .d (strsD tvs), .d (.sl (txs.map Tm.row)), .d (.sl (tcs.map Cs.row))]))]⟩)
      (μ := fun u => txs.length - u.1.1) ⟨(0, 1), ⟨Nat.zero_le _, by simp [Tm.stpL]⟩⟩ (Le.sub (by simp) (by simp)) (fun ⟨(i, n), ⟨hi5, hw⟩⟩ => ?_)
    dsimp only at hi5 hw ⊢
    refine AWp.rg [] [] ?_ (hr := by conv => lhs; simp [Tm.row, Tm.rows_eq, Cs.rows_eq, q1])
    repeat (first | refine AWp.seq ?_ | refine AWp.block ?_)
    refine AWp.cond rfl (fun hc => ?_) (fun hc => ?_)
    · have hi1 : i < txs.length := by have := of_decide_eq_true hc; omega
      clear hc
      have h1y : txs[i]? = some txs[i] := List.getElem?_eq_getElem hi1
      have hmy : txs[i] ∈ txs := List.getElem_mem hi1
      have hdy : txs.drop i = txs[i] :: txs.drop (i + 1) := List.drop_eq_getElem_cons hi1
      generalize txs[i] = y at h1y hmy hdy
      have hx := ih y (by have := Tm.szs_mem hmy; omega) (hxO y hmy)
      have hsn : Tm.stpL 1 (txs.take (i + 1)) = wr (n + y.stp) := by rw [List.take_add_one, h1y]; show Tm.stpL 1 (_ ++ [y]) = _; rw [Tm.stpL_snoc, ← hw]
      generalize y.stp = s at hx hsn
      obtain ⟨yk, yn, ya, yb, yvs, yxs, ycs⟩ := y
      refine AWp.skip ?_
      refine AWp.rg [] [] ?_ (hr := by conv => lhs; simp [Tm.row, Tm.rows_eq, Cs.rows_eq, h1y, q1])
      refine AWp.rg [3] [.p (fun _ => .d (.int s)) none] ?_ (hr := by conv => lhs; simp [Tm.row, Tm.rows_eq, Cs.rows_eq, h1y, q1])
      refine AWp.rg [] [] ?_ (hr := by conv => lhs; simp [Tm.row, Tm.rows_eq, Cs.rows_eq, h1y, q1])
      refine ⟨⟨(i + 1, wr (n + s)), hi1, hsn.symm⟩, by simp; omega, ?_⟩
      dsimp only
      exact Le.sub (by simp) (by simp)
    have hi1 : i = txs.length := by have := of_decide_eq_false hc; omega
    subst hi1
    clear hc
    rw [List.take_length] at hw
    rw [← hw] at hR
    clear hw
    refine AWp.exit ?_
    refine AWp.rg [] [] ?_ (hr := by conv => lhs; simp [Tm.row, Tm.rows_eq, Cs.rows_eq, q1])
    repeat (first | refine AWp.seq ?_ | refine AWp.block ?_)
    refine AWp.loop (σ := fun u : {u : Nat × Int // u.1 ≤ tcs.length ∧ u.2 = Cs.stpL n (tcs.take u.1)} => ⟨37, [(3, .d (.int u.1.2)), (24, .d (.sl (tcs.map Cs.row))), (25, .d (.int (tcs.length : Int))), (26, .d (.int (u.1.1 : Int)))], []⟩)
      (μ := fun u => tcs.length - u.1.1) ⟨(0, n), ⟨Nat.zero_le _, by simp [Cs.stpL]⟩⟩ (Le.sub (by simp) (by simp)) (fun ⟨(i, m), ⟨hi10, hw2⟩⟩ => ?_)
    dsimp only at hi10 hw2 ⊢
    refine AWp.rg [] [] ?_ (hr := by conv => lhs; simp [Tm.row, Tm.rows_eq, Cs.rows_eq, q1])
    repeat (first | refine AWp.seq ?_ | refine AWp.block ?_)
    refine AWp.cond rfl (fun hc => ?_) (fun hc => ?_)
    · have hi1 : i < tcs.length := by have := of_decide_eq_true hc; omega
      clear hc
      have h1d : tcs[i]? = some tcs[i] := List.getElem?_eq_getElem hi1
      have hmd : tcs[i] ∈ tcs := List.getElem_mem hi1
      have hdd : tcs.drop i = tcs[i] :: tcs.drop (i + 1) := List.drop_eq_getElem_cons hi1
      generalize tcs[i] = d at h1d hmd hdd
      have hsz2 := Cs.szs_mem hmd
      have hsn : Cs.stpL n (tcs.take (i + 1)) = wr (m + d.stp) := by rw [List.take_add_one, h1d]; show Cs.stpL n (_ ++ [d]) = _; rw [Cs.stpL_snoc, ← hw2]
      obtain ⟨dt, dws, y⟩ := d
      have hx := ih y (by simp only [Cs.sz] at hsz2; omega) (hcO _ hmd).2.2
      rw [Cs.stp] at hsn
      generalize y.stp = s at hx hsn
      obtain ⟨yk, yn, ya, yb, yvs, yxs, ycs⟩ := y
      refine AWp.skip ?_
      refine AWp.rg [] [] ?_ (hr := by conv => lhs; simp [Tm.row, Tm.rows_eq, Cs.rows_eq, h1d, Cs.row, q1])
      refine AWp.rg [4] [.p (fun _ => .d (.int s)) none] ?_ (hr := by conv => lhs; simp [Tm.row, Tm.rows_eq, Cs.rows_eq, h1d, Cs.row, q1])
      refine AWp.rg [] [] ?_ (hr := by conv => lhs; simp [Tm.row, Tm.rows_eq, Cs.rows_eq, h1d, Cs.row, q1])
      refine ⟨⟨(i + 1, wr (m + s)), hi1, hsn.symm⟩, by simp; omega, ?_⟩
      dsimp only
      exact Le.sub (by simp) (by simp)
    have hi1 : i = tcs.length := by have := of_decide_eq_false hc; omega
    subst hi1
    clear hc
    rw [List.take_length] at hw2
    rw [← hw2] at hR
    subst hR
    refine AWp.exit ?_
    refine AWp.rg [] [] ?_ (hr := by conv => lhs; simp [Tm.row, Tm.rows_eq, Cs.rows_eq, q1])
    refine AWp.ret ?_
    try dsimp only [thenQ, blockQ]
    apply endQ.ret
    · rfl
    · conv => lhs; simp [resAV, Tryd.results51]
    rfl
  refine AWp.rg [] [] ?_ (hr := by conv => lhs; simp [Tm.row, Tm.rows_eq, Cs.rows_eq, q1])
  refine AWp.cn ?_
  refine AWp.skip ?_
  rw [if_neg (by omega)] at hR
  refine AWp.rg [] [] ?_ (hr := by conv => lhs; simp [Tm.row, Tm.rows_eq, Cs.rows_eq, q1])
  repeat (first | refine AWp.seq ?_ | refine AWp.block ?_)
  refine AWp.loop (σ := fun u : {u : Nat × Int // u.1 ≤ txs.length ∧ u.2 = Tm.stpL 0 (txs.take u.1)} => ⟨37, [(1, .ptr 1 0), (3, .d (.int u.1.2)), (12, .d (.sl (txs.map Tm.row))), (13, .d (.int (txs.length : Int))), (14, .d (.int (u.1.1 : Int)))], [(1, some (.blk 34 [.d (.int tk), .d (.int tn), .d (.str ta), .d (.str tb), .d (strsD tvs), .d (.sl (txs.map Tm.row)), .d (.sl (tcs.map Cs.row))]))]⟩)
    (μ := fun u => txs.length - u.1.1) ⟨(0, 0), ⟨Nat.zero_le _, by simp [Tm.stpL]⟩⟩ (Le.sub (by simp) (by simp)) (fun ⟨(i, n), ⟨hi5, hw⟩⟩ => ?_)
  dsimp only at hi5 hw ⊢
  refine AWp.rg [] [] ?_ (hr := by conv => lhs; simp [Tm.row, Tm.rows_eq, Cs.rows_eq, q1])
  repeat (first | refine AWp.seq ?_ | refine AWp.block ?_)
  refine AWp.cond rfl (fun hc => ?_) (fun hc => ?_)
  · have hi1 : i < txs.length := by have := of_decide_eq_true hc; omega
    clear hc
    have h1y : txs[i]? = some txs[i] := List.getElem?_eq_getElem hi1
    have hmy : txs[i] ∈ txs := List.getElem_mem hi1
    have hdy : txs.drop i = txs[i] :: txs.drop (i + 1) := List.drop_eq_getElem_cons hi1
    generalize txs[i] = y at h1y hmy hdy
    have hx := ih y (by have := Tm.szs_mem hmy; omega) (hxO y hmy)
    have hsn : Tm.stpL 0 (txs.take (i + 1)) = wr (n + y.stp) := by rw [List.take_add_one, h1y]; show Tm.stpL 0 (_ ++ [y]) = _; rw [Tm.stpL_snoc, ← hw]
    generalize y.stp = s at hx hsn
    obtain ⟨yk, yn, ya, yb, yvs, yxs, ycs⟩ := y
    refine AWp.skip ?_
    refine AWp.rg [] [] ?_ (hr := by conv => lhs; simp [Tm.row, Tm.rows_eq, Cs.rows_eq, h1y, q1])
    refine AWp.rg [3] [.p (fun _ => .d (.int s)) none] ?_ (hr := by conv => lhs; simp [Tm.row, Tm.rows_eq, Cs.rows_eq, h1y, q1])
    refine AWp.rg [] [] ?_ (hr := by conv => lhs; simp [Tm.row, Tm.rows_eq, Cs.rows_eq, h1y, q1])
    refine ⟨⟨(i + 1, wr (n + s)), hi1, hsn.symm⟩, by simp; omega, ?_⟩
    dsimp only
    exact Le.sub (by simp) (by simp)
  have hi1 : i = txs.length := by have := of_decide_eq_false hc; omega
  subst hi1
  clear hc
  rw [List.take_length] at hw
  rw [← hw] at hR
  clear hw
  refine AWp.exit ?_
  refine AWp.rg [] [] ?_ (hr := by conv => lhs; simp [Tm.row, Tm.rows_eq, Cs.rows_eq, q1])
  repeat (first | refine AWp.seq ?_ | refine AWp.block ?_)
  refine AWp.loop (σ := fun u : {u : Nat × Int // u.1 ≤ tcs.length ∧ u.2 = Cs.stpL n (tcs.take u.1)} => ⟨37, [(3, .d (.int u.1.2)), (24, .d (.sl (tcs.map Cs.row))), (25, .d (.int (tcs.length : Int))), (26, .d (.int (u.1.1 : Int)))], []⟩)
    (μ := fun u => tcs.length - u.1.1) ⟨(0, n), ⟨Nat.zero_le _, by simp [Cs.stpL]⟩⟩ (Le.sub (by simp) (by simp)) (fun ⟨(i, m), ⟨hi10, hw2⟩⟩ => ?_)
  dsimp only at hi10 hw2 ⊢
  refine AWp.rg [] [] ?_ (hr := by conv => lhs; simp [Tm.row, Tm.rows_eq, Cs.rows_eq, q1])
  repeat (first | refine AWp.seq ?_ | refine AWp.block ?_)
  refine AWp.cond rfl (fun hc => ?_) (fun hc => ?_)
  · have hi1 : i < tcs.length := by have := of_decide_eq_true hc; omega
    clear hc
    have h1d : tcs[i]? = some tcs[i] := List.getElem?_eq_getElem hi1
    have hmd : tcs[i] ∈ tcs := List.getElem_mem hi1
    have hdd : tcs.drop i = tcs[i] :: tcs.drop (i + 1) := List.drop_eq_getElem_cons hi1
    generalize tcs[i] = d at h1d hmd hdd
    have hsz2 := Cs.szs_mem hmd
    have hsn : Cs.stpL n (tcs.take (i + 1)) = wr (m + d.stp) := by rw [List.take_add_one, h1d]; show Cs.stpL n (_ ++ [d]) = _; rw [Cs.stpL_snoc, ← hw2]
    obtain ⟨dt, dws, y⟩ := d
    have hx := ih y (by simp only [Cs.sz] at hsz2; omega) (hcO _ hmd).2.2
    rw [Cs.stp] at hsn
    generalize y.stp = s at hx hsn
    obtain ⟨yk, yn, ya, yb, yvs, yxs, ycs⟩ := y
    refine AWp.skip ?_
    refine AWp.rg [] [] ?_ (hr := by conv => lhs; simp [Tm.row, Tm.rows_eq, Cs.rows_eq, h1d, Cs.row, q1])
    refine AWp.rg [4] [.p (fun _ => .d (.int s)) none] ?_ (hr := by conv => lhs; simp [Tm.row, Tm.rows_eq, Cs.rows_eq, h1d, Cs.row, q1])
    refine AWp.rg [] [] ?_ (hr := by conv => lhs; simp [Tm.row, Tm.rows_eq, Cs.rows_eq, h1d, Cs.row, q1])
    refine ⟨⟨(i + 1, wr (m + s)), hi1, hsn.symm⟩, by simp; omega, ?_⟩
    dsimp only
    exact Le.sub (by simp) (by simp)
  have hi1 : i = tcs.length := by have := of_decide_eq_false hc; omega
  subst hi1
  clear hc
  rw [List.take_length] at hw2
  rw [← hw2] at hR
  subst hR
  refine AWp.exit ?_
  refine AWp.rg [] [] ?_ (hr := by conv => lhs; simp [Tm.row, Tm.rows_eq, Cs.rows_eq, q1])
  refine AWp.ret ?_
  try dsimp only [thenQ, blockQ]
  apply endQ.ret
  · rfl
  · conv => lhs; simp [resAV, Tryd.results51]
  rfl
theorem StN_all : ∀ N, StN N
  | 0 => fun t h => by obtain ⟨tk, tn, ta, tb, tvs, txs, tcs⟩ := t; simp only [Tm.sz] at h; omega
  | N + 1 => StN_step N (StN_all N)
end Go.Proofs.YtapiiklnnkkdlaaDoor
