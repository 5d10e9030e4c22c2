import Derived.Test.YtapiiklnnkkdlaaDoorEvalC
import Derived.Test.YtapiiklnnkkdlaaDoorFreeD
/- (*eval.teller): all, match, call, term. Printed by walk_eval_d.py. -/
namespace Go.Proofs.YtapiiklnnkkdlaaDoor
open Go.RowKit
attribute [local simp] runD mkRc ldOf stOf stOk ldArg noAny dstOk guardOk opEff opEff0 effOp pureOp callOp zEff evA constAV scalAV Value.oneCell' frGet memGet startAS frOf isGoCall idIn AS.after nextR opnIds objIds AV.ids idsL AObj.ids frNo memNo opnAny isAny mkVal rdCells wrCells fldAddr idxAddr srcRows litRows toD1 toDs setAt sliceAV optI partAV bldAV fillAV binAV binI AV.cells callEff calleeOf frKill memKill AV.kill AObj.kill AV.has AV.hasL Op.operands Call.operands keepF keepM viewIds cChk renOf moGet moWs moQ cEff moLike moHave AV.ren renL AObj.ren AObj.like kept startC moMem AV.frz frz1 frzL frSub memSub frzs AS.frz frFrz memFrz AObj.frz takeMap takeLen bleF Nat.ble_eq memAny objAny mapOp D.keyOk rowAV valRow extOp wrapOp phO frLow memLow memLow1 objLow memEmpty Low LowL
set_option linter.unusedVariables false
set_option linter.unusedSimpArgs false
theorem bindE_nil (env : Env) : bindE [] [] env = env := by simp [bindE]
def appL (us : List Vl) (o : OutL) : OutL := (us ++ o.1, o.2.1, o.2.2)
theorem evL_append (g : Bool) (C : CallF) (env : Env) (zs : List Tm) : ∀ (ys : List Tm) (fuel : Int), evL g C (ys ++ zs) env fuel = if (evL g C ys env fuel).2.2 ≠ 0 then evL g C ys env fuel else appL (evL g C ys env fuel).1 (evL g C zs env (evL g C ys env fuel).2.1)
  | [], fuel => by simp [evL, appL]
  | y :: r, fuel => by
    rw [List.cons_append, evL, evL, evL_append g C env zs r]
    by_cases h : (evT g C y env fuel).2.2 = 0
    · have hn : ¬ (evT g C y env fuel).2.2 ≠ 0 := fun e => e h
      simp only [if_neg hn, consL]
      split
      · rfl
      · rfl
    · have hn : (evT g C y env fuel).2.2 ≠ 0 := h
      simp only [if_pos hn]
theorem evL_one (g : Bool) (C : CallF) (env : Env) (x : Tm) (fuel : Int) : evL g C [x] env fuel = ([(evT g C x env fuel).1], (evT g C x env fuel).2.1, (evT g C x env fuel).2.2) := by
  rw [evL]
  split
  · rfl
  · rename_i h
    have h := Decidable.byContradiction fun e => h e
    simp only [evL, consL, h]
theorem evL_fine {g : Bool} {C : CallF} (hC : CFine C) {A : Arity} {env : Env} (hF : EnvF env) {names : List ByteArray} {deep : Int} : ∀ (xs : List Tm) (fuel : Int), (∀ x ∈ xs, x.wrong A names deep = 0) → 0 ≤ fuel → fuel ≤ 300 →
    (∀ v ∈ (evL g C xs env fuel).1, v.Fine) ∧ 0 ≤ (evL g C xs env fuel).2.1 ∧ (evL g C xs env fuel).2.1 ≤ 300
  | [], fuel, _, h0, h1 => by simp only [evL]; exact ⟨(fun v hv => by cases hv), h0, h1⟩
  | x :: r, fuel, hw, h0, h1 => by
    obtain ⟨b1, b2, b3⟩ := evT_fine hC _ x env names deep fuel (Nat.lt_succ_self _) (hw x (List.mem_cons_self ..)) hF h0 h1
    rw [evL]
    split
    · exact ⟨fun v hv => by rw [List.mem_singleton.1 hv]; exact b1, b2, b3⟩
    · obtain ⟨c1, c2, c3⟩ := evL_fine hC hF r _ (fun z hz => hw z (List.mem_cons_of_mem _ hz)) b2 b3
      refine ⟨fun v hv => ?_, c2, c3⟩
      rcases List.mem_cons.1 hv with rfl | hv
      · exact b1
      · exact c1 v hv
theorem evC_hit {g : Bool} {C : CallF} {vc : Bool} {vn t : Int} {vks : List Vl} {ws : List ByteArray} {b : Tm} {r : List Cs} {env : Env} {f : Int} (h : t = vn) (hl : ws.length = vks.length) : evC g C (.mk vc vn vks) (.mk t ws b :: r) env f = evT g C b (bindE ws vks env) f := by
  rw [evC]
  exact (if_pos h).trans ((if_pos hl).trans (by rw [evB]; rfl))
theorem evC_bad {g : Bool} {C : CallF} {vc : Bool} {vn t : Int} {vks : List Vl} {ws : List ByteArray} {b : Tm} {r : List Cs} {env : Env} {f : Int} (h : t = vn) (hl : ¬ ws.length = vks.length) : evC g C (.mk vc vn vks) (.mk t ws b :: r) env f = (zeroV, f, 11) := by
  rw [evC]
  exact (if_pos h).trans (if_neg hl)
theorem evC_miss {g : Bool} {C : CallF} {vc : Bool} {vn t : Int} {vks : List Vl} {ws : List ByteArray} {b : Tm} {r : List Cs} {env : Env} {f : Int} (h : ¬ t = vn) : evC g C (.mk vc vn vks) (.mk t ws b :: r) env f = evC g C (.mk vc vn vks) r env f := by
  rw [evC]
  exact if_neg h
theorem primR_con {n m m' f : Int} {c c' : Bool} {ks ks' : List Vl} (h : (c || c') = true) : primR n (.mk c m ks) (.mk c' m' ks') f = (zeroV, f, 10) := if_pos h
theorem primR_num {n m m' f : Int} {ks ks' : List Vl} : primR n (.mk false m ks) (.mk false m' ks') f = if (primV n m m').2 ≠ 0 then (zeroV, f, (primV n m m').2) else ((primV n m m').1, f, 0) := if_neg Bool.false_ne_true
def TermE (l : List Fn) (n N : Nat) : Prop := ∀ (t : Tm) (env : Env) (names : List ByteArray) (deep fuel : Int), t.sz < N → t.Ok → t.wrong (arOf l) names deep = 0 → CovE env names → EnvF env → 0 ≤ fuel → fuel ≤ 300 →
  CSpec Tryd.prog 116 [.ptr 1000 0, tmAV t, .d (envD env)] [(1000, tlObj l fuel (40 - n) 0)] (vlP (evT true (evCall true l n) t env fuel).1) [(1000, tlObj l (evT true (evCall true l n) t env fuel).2.1 (40 - n) (evT true (evCall true l n) t env fuel).2.2)]
def AllE (l : List Fn) (n N : Nat) : Prop := ∀ (xs : List Tm) (env : Env) (names : List ByteArray) (deep fuel : Int), (∀ x ∈ xs, x.sz < N) → (∀ x ∈ xs, x.Ok) → (∀ x ∈ xs, x.wrong (arOf l) names deep = 0) → xs.length ≤ 6 → CovE env names → EnvF env → 0 ≤ fuel → fuel ≤ 300 →
  CSpec Tryd.prog 161 [.ptr 1000 0, tmsAV xs, .d (envD env)] [(1000, tlObj l fuel (40 - n) 0)] (vlsAV (evL true (evCall true l n) xs env fuel).1) [(1000, tlObj l (evL true (evCall true l n) xs env fuel).2.1 (40 - n) (evL true (evCall true l n) xs env fuel).2.2)]
def mOut (C : CallF) (v : Vl) (cs : List Cs) (env : Env) (fuel : Int) : Out := if v.con = true then evC true C v cs env fuel else (zeroV, fuel, 10)
def MatchE (l : List Fn) (n N : Nat) : Prop := ∀ (v : Vl) (cs : List Cs) (env : Env) (names : List ByteArray) (deep fuel : Int), (∀ (t : Int) (ws : List ByteArray) (b : Tm), Cs.mk t ws b ∈ cs → b.sz < N ∧ b.Ok ∧ ws.length ≤ 6 ∧ b.wrong (arOf l) (names ++ ws) deep = 0) → cs.length ≤ 6 → v.Fine → CovE env names → EnvF env → 0 ≤ fuel → fuel ≤ 300 →
  CSpec Tryd.prog 162 [.ptr 1000 0, vlP v, .d (.sl (cs.map Cs.row)), .d (envD env)] [(1000, tlObj l fuel (40 - n) 0)] (vlP (mOut (evCall true l n) v cs env fuel).1) [(1000, tlObj l (mOut (evCall true l n) v cs env fuel).2.1 (40 - n) (mOut (evCall true l n) v cs env fuel).2.2)]
def CallE (l : List Fn) (n : Nat) : Prop := ∀ (name : ByteArray) (vs : List Vl) (fuel : Int), (∀ v ∈ vs, v.Fine) → vs.length ≤ 1048576 → 0 ≤ fuel → fuel ≤ 300 →
  CSpec Tryd.prog 72 [.ptr 1000 0, .d (.str name), vlsAV vs] [(1000, tlObj l fuel (40 - n) 0)] (vlP (evCall true l n name vs fuel).1) [(1000, tlObj l (evCall true l n name vs fuel).2.1 (40 - n) (evCall true l n name vs fuel).2.2)]
set_option maxRecDepth 20000 in
set_option maxHeartbeats 16000000 in
theorem ev_all_step (l : List Fn) (n N : Nat) (hCF : CFine (evCall true l n)) (ih : TermE l n N) : AllE l n N := by
  intro xs env names deep fuel hN hOk hw hlx hcov hF hf0 hf1
  obtain ⟨C, hCd⟩ : ∃ C, C = evCall true l n := ⟨_, rfl⟩
  obtain ⟨c, hcd⟩ : ∃ c : Int, c = 40 - n := ⟨_, rfl⟩
  rw [← hCd] at hCF ⊢
  rw [← hcd]
  refine CSpec.of Tryd.func161 rfl rfl (Nat.le_of_ble_eq_true rfl) ?_
  show AWp _ _ (endC _ Tryd.f161 _ _) (startC 30 _ _)
  refine AWp.rg [] [] ?_ (hr := by conv => lhs; simp [Tm.row, Tm.rows_eq, Cs.rows_eq, Vl.row, Vl.rows_eq, Vl.con, Vl.n, Vl.kids])
  refine AWp.rg [] [] ?_ (hr := by conv => lhs; simp [Tm.row, Tm.rows_eq, Cs.rows_eq, Vl.row, Vl.rows_eq, Vl.con, Vl.n, Vl.kids])
  refine AWp.rg [] [] ?_ (hr := by conv => lhs; simp [Tm.row, Tm.rows_eq, Cs.rows_eq, Vl.row, Vl.rows_eq, Vl.con, Vl.n, Vl.kids])
  repeat (first | refine AWp.seq ?_ | refine AWp.block ?_)
  refine AWp.le (Le.low [400] [] (fr := [(0, .ptr 1000 0), (2, .d (envD env)), (7, .arr 400 0 ((evL true C (xs.take 0) env fuel).1.length)), (10, .d (.sl (xs.map Tm.row))), (11, .d (.int (xs.length : Int))), (12, .d (.int 0))]) (mem := [(400, some (.arr 47 3 ((evL true C (xs.take 0) env fuel).1.map Vl.row))), (1000, some (.blk 84 [.d (.sl (l.map Fn.row)), .d (.int fuel), .d (.int c), .d (.int 0)]))]) rfl (by simp [evL]) (by simp [evL])) ?_
  refine AWp.loop (σ := fun u : {u : Nat // u ≤ xs.length} => ⟨30, [(0, .ptr 1000 0), (2, .d (envD env)), (7, .arr 400 0 ((evL true C (xs.take u.1) env fuel).1.length)), (10, .d (.sl (xs.map Tm.row))), (11, .d (.int (xs.length : Int))), (12, .d (.int u.1))], [(400, some (.arr 47 3 ((evL true C (xs.take u.1) env fuel).1.map Vl.row))), (1000, some (.blk 84 [.d (.sl (l.map Fn.row)), .d (.int ((evL true C (xs.take u.1) env fuel).2.1)), .d (.int c), .d (.int ((evL true C (xs.take u.1) env fuel).2.2))]))]⟩)
    (μ := fun u => xs.length - u.1) ⟨0, Nat.zero_le _⟩ (Le.sub (by simp [evL]) (by simp [evL])) (fun ⟨i, hi3⟩ => ?_)
  dsimp only
  refine AWp.rg [] [] ?_ (hr := by conv => lhs; simp [Tm.row, Tm.rows_eq, Cs.rows_eq, Vl.row, Vl.rows_eq, Vl.con, Vl.n, Vl.kids])
  repeat (first | refine AWp.seq ?_ | refine AWp.block ?_)
  refine AWp.cond rfl (fun hc => ?_) (fun hc => ?_)
  · have hi1 : i < xs.length := by have := of_decide_eq_true hc; omega
    clear hc
    have h1y : xs[i]? = some xs[i] := List.getElem?_eq_getElem hi1
    have hmy : xs[i] ∈ xs := List.getElem_mem hi1
    have hdy : xs.drop i = xs[i] :: xs.drop (i + 1) := List.drop_eq_getElem_cons hi1
    generalize xs[i] = y at h1y hmy hdy
    have hlen := (evL_len true C env (xs.take i) fuel).1
    have hap := evL_append true C env [y] (xs.take i) fuel
    have hap2 := evL_append true C env (xs.drop i) (xs.take i) fuel
    rw [List.take_append_drop] at hap2
    rw [evL_one, show xs.take i ++ [y] = xs.take (i + 1) by rw [List.take_add_one, h1y]; rfl] at hap
    obtain ⟨_, hfa, hfb⟩ := evL_fine hCF hF (xs.take i) fuel (fun x hx => hw x (List.mem_of_mem_take hx)) hf0 hf1
    generalize evL true C (xs.take i) env fuel = T at hlen hap hap2 hfa hfb ⊢
    obtain ⟨us, f, e⟩ := T
    dsimp only at hlen hap hap2 hfa hfb ⊢
    have hlen2 : us.length ≤ 6 := by simp at hlen; omega
    have hx := ih y env names deep f (hN y hmy) (hOk y hmy) (hw y hmy) hcov hF hfa hfb
    rw [← hCd, ← hcd] at hx
    generalize evT true C y env f = o at hx hap
    obtain ⟨⟨vc, vn, vks⟩, f2, e2⟩ := o
    dsimp only at hx hap
    obtain ⟨yk, yn, ya, yb, yvs, yxs, ycs⟩ := y
    refine AWp.skip ?_
    refine AWp.rg [] [] ?_ (hr := by conv => lhs; simp [Tm.row, Tm.rows_eq, Cs.rows_eq, Vl.row, Vl.rows_eq, Vl.con, Vl.n, Vl.kids, h1y])
    by_cases q1 : e = 0
    · refine AWp.rg [] [] ?_ (hr := by conv => lhs; simp [Tm.row, Tm.rows_eq, Cs.rows_eq, Vl.row, Vl.rows_eq, Vl.con, Vl.n, Vl.kids, h1y, q1])
      refine AWp.cn ?_
      refine AWp.skip ?_
      refine AWp.rg [] [.c [] [.ptr 1000 0, .agg [.d (.int yk), .d (.int yn), .d (.str ya), .d (.str yb), .d (strsD yvs), .d (.sl (yxs.map Tm.row)), .d (.sl (ycs.map Cs.row))], .d (envD env)] [(1000, .blk 84 [.d (.sl (l.map Fn.row)), .d (.int f), .d (.int c), .d (.int 0)])] (.agg [.d (.bool vc), .d (.int vn), .d (.sl (vks.map Vl.row))]) [(1000, .blk 84 [.d (.sl (l.map Fn.row)), .d (.int f2), .d (.int c), .d (.int e2)])]] ?_ (hr := by conv => lhs; simp [Tm.row, Tm.rows_eq, Cs.rows_eq, Vl.row, Vl.rows_eq, Vl.con, Vl.n, Vl.kids, h1y, q1])
      refine AWp.rg [] [] ?_ (hr := by conv => lhs; simp [Tm.row, Tm.rows_eq, Cs.rows_eq, Vl.row, Vl.rows_eq, Vl.con, Vl.n, Vl.kids, h1y, q1])
      rw [if_neg (by omega)] at hap
      refine ⟨⟨i + 1, hi1⟩, by simp; omega, ?_⟩
      dsimp only
      rw [hap]
      simp only [appL]
      exact Le.sub (by simp [Vl.row, Vl.rows_eq]) (by simp [Vl.row, Vl.rows_eq])
    refine AWp.rg [] [] ?_ (hr := by conv => lhs; simp [Tm.row, Tm.rows_eq, Cs.rows_eq, Vl.row, Vl.rows_eq, Vl.con, Vl.n, Vl.kids, h1y, q1])
    refine AWp.cy ?_
    refine AWp.exit ?_
    rw [if_pos (by omega)] at hap2
    rw [hap2]
    refine AWp.rg [] [] ?_ (hr := by conv => lhs; simp [Tm.row, Tm.rows_eq, Cs.rows_eq, Vl.row, Vl.rows_eq, Vl.con, Vl.n, Vl.kids, h1y, q1])
    refine AWp.ret ?_
    try dsimp only [thenQ, blockQ]
    apply endC.retF [400]
    · rfl
    · conv => lhs; simp
    · conv => lhs; simp [resAV, Tryd.results161]
    · rfl
    · simp [moEnd, memGet]
  have hi1 : i = xs.length := by have := of_decide_eq_false hc; omega
  subst hi1
  clear hc
  rw [List.take_length]
  refine AWp.exit ?_
  refine AWp.rg [] [] ?_ (hr := by conv => lhs; simp [Tm.row, Tm.rows_eq, Cs.rows_eq, Vl.row, Vl.rows_eq, Vl.con, Vl.n, Vl.kids])
  refine AWp.ret ?_
  try dsimp only [thenQ, blockQ]
  apply endC.retF [400]
  · rfl
  · conv => lhs; simp
  · conv => lhs; simp [resAV, Tryd.results161]
  · rfl
  · simp [moEnd, memGet]
set_option maxRecDepth 20000 in
set_option maxHeartbeats 16000000 in
theorem ev_match_step (l : List Fn) (n N : Nat) (ih : TermE l n N) : MatchE l n N := by
  intro v cs env names deep fuel hcs hlc hvF hcov hF hf0 hf1
  obtain ⟨C, hCd⟩ : ∃ C, C = evCall true l n := ⟨_, rfl⟩
  obtain ⟨c, hcd⟩ : ∃ c : Int, c = 40 - n := ⟨_, rfl⟩
  rw [← hCd, ← hcd]
  obtain ⟨vc, vn, vks⟩ := v
  have hvl : vks.length ≤ 6 := hvF.2.1
  unfold mOut
  refine CSpec.of Tryd.func162 rfl rfl (Nat.le_of_ble_eq_true rfl) ?_
  show AWp _ _ (endC _ Tryd.f162 _ _) (startC 64 _ _)
  refine AWp.rg [] [] ?_ (hr := by conv => lhs; simp [Tm.row, Tm.rows_eq, Cs.rows_eq, Vl.row, Vl.rows_eq, Vl.con, Vl.n, Vl.kids])
  cases vc with
  | false =>
    rw [if_neg (by simp [Vl.con])]
    refine AWp.rg [] [] ?_ (hr := by conv => lhs; simp [Tm.row, Tm.rows_eq, Cs.rows_eq, Vl.row, Vl.rows_eq, Vl.con, Vl.n, Vl.kids])
    refine AWp.cy ?_
    have hf1 := cs_fail l fuel c 10
    refine AWp.rg [] [.c [] [.ptr 1000 0, .d (.int 10)] [(1000, .blk 84 [.d (.sl (l.map Fn.row)), .d (.int fuel), .d (.int c), .d (.int 0)])] (vlAV zeroV) [(1000, .blk 84 [.d (.sl (l.map Fn.row)), .d (.int fuel), .d (.int c), .d (.int 10)])]] ?_ (hr := by conv => lhs; simp [Tm.row, Tm.rows_eq, Cs.rows_eq, Vl.row, Vl.rows_eq, Vl.con, Vl.n, Vl.kids])
    refine AWp.ret ?_
    try dsimp only [thenQ, blockQ]
    apply endC.ret
    · rfl
    · conv => lhs; simp [resAV, Tryd.results162]
    · rfl
    · simp [moEnd, memGet]
  | true =>
    rw [if_pos (by rfl)]
    refine AWp.rg [] [] ?_ (hr := by conv => lhs; simp [Tm.row, Tm.rows_eq, Cs.rows_eq, Vl.row, Vl.rows_eq, Vl.con, Vl.n, Vl.kids])
    refine AWp.cn ?_
    refine AWp.skip ?_
    refine AWp.rg [] [] ?_ (hr := by conv => lhs; simp [Tm.row, Tm.rows_eq, Cs.rows_eq, Vl.row, Vl.rows_eq, Vl.con, Vl.n, Vl.kids])
    repeat (first | refine AWp.seq ?_ | refine AWp.block ?_)
    refine AWp.loop (σ := fun u : {u : Nat // u ≤ cs.length ∧ evC true C (.mk true vn vks) cs env fuel = evC true C (.mk true vn vks) (cs.drop u) env fuel} => ⟨64, [(0, .ptr 1000 0), (3, .d (envD env)), (5, .ptr 5 0), (8, .ptr 8 0), (18, .d (.sl (cs.map Cs.row))), (19, .d (.int (cs.length : Int))), (20, .d (.int u.1))], [(5, some (.blk 47 [.d (.bool true), .d (.int vn), .d (.sl (vks.map Vl.row))])), (8, some (.blk 47 [.d (.bool false), .d (.int 0), .lit (.slice none 0 0)])), (1000, some (.blk 84 [.d (.sl (l.map Fn.row)), .d (.int fuel), .d (.int c), .d (.int 0)]))]⟩)
      (μ := fun u => cs.length - u.1) ⟨0, ⟨Nat.zero_le _, rfl⟩⟩ (Le.sub (by simp) (by simp)) (fun ⟨i, ⟨hi4, hw⟩⟩ => ?_)
    dsimp only
    refine AWp.rg [] [] ?_ (hr := by conv => lhs; simp [Tm.row, Tm.rows_eq, Cs.rows_eq, Vl.row, Vl.rows_eq, Vl.con, Vl.n, Vl.kids])
    repeat (first | refine AWp.seq ?_ | refine AWp.block ?_)
    refine AWp.cond rfl (fun hc => ?_) (fun hc => ?_)
    · have hi1 : i < cs.length := by have := of_decide_eq_true hc; omega
      clear hc
      have h1d : cs[i]? = some cs[i] := List.getElem?_eq_getElem hi1
      have hmd : cs[i] ∈ cs := List.getElem_mem hi1
      have hdd : cs.drop i = cs[i] :: cs.drop (i + 1) := List.drop_eq_getElem_cons hi1
      generalize cs[i] = d at h1d hmd hdd
      obtain ⟨dt, dws, ⟨dk, dn, da, db, dvs, dxs, dcs⟩⟩ := d
      obtain ⟨hsz, hbo, hwl, hbw⟩ := hcs dt dws _ hmd
      rw [hdd] at hw
      obtain ⟨W, hW⟩ : ∃ W : Int, (dws.length : Int) = W := ⟨_, rfl⟩
      obtain ⟨V, hV⟩ : ∃ V : Int, (vks.length : Int) = V := ⟨_, rfl⟩
      refine AWp.skip ?_
      refine AWp.rg [] [] ?_ (hr := by conv => lhs; simp [Tm.row, Tm.rows_eq, Cs.rows_eq, Vl.row, Vl.rows_eq, Vl.con, Vl.n, Vl.kids, h1d, Cs.row, hW, hV])
      by_cases q2 : dt = vn
      · refine AWp.rg [] [] ?_ (hr := by conv => lhs; simp [Tm.row, Tm.rows_eq, Cs.rows_eq, Vl.row, Vl.rows_eq, Vl.con, Vl.n, Vl.kids, h1d, Cs.row, hW, hV, q2])
        refine AWp.cn ?_
        refine AWp.skip ?_
        by_cases q3 : W = V
        · refine AWp.rg [] [] ?_ (hr := by conv => lhs; simp [Tm.row, Tm.rows_eq, Cs.rows_eq, Vl.row, Vl.rows_eq, Vl.con, Vl.n, Vl.kids, h1d, Cs.row, hW, hV, q2, q3])
          refine AWp.cn ?_
          refine AWp.skip ?_
          have hWV : dws.length = vks.length := by omega
          rw [evC_hit q2 hWV] at hw
          have hx := ih (.mk dk dn da db dvs dxs dcs) (bindE dws vks env) (names ++ dws) deep fuel hsz hbo hbw (hcov.bind hWV) (hF.bind (Vl.Fines_iff.1 hvF.2.2) dws) hf0 hf1
          rw [← hCd, ← hcd] at hx
          generalize evT true C (.mk dk dn da db dvs dxs dcs) (bindE dws vks env) fuel = o at hx hw
          obtain ⟨⟨uc, un, uks⟩, f2, e2⟩ := o
          dsimp only at hx
          refine AWp.rg [] [] ?_ (hr := by conv => lhs; simp [Tm.row, Tm.rows_eq, Cs.rows_eq, Vl.row, Vl.rows_eq, Vl.con, Vl.n, Vl.kids, h1d, Cs.row, hW, hV, q2, q3])
          repeat (first | refine AWp.seq ?_ | refine AWp.block ?_)
          refine AWp.loop (σ := fun u : {u : Nat // u ≤ dws.length} => ⟨64, [(0, .ptr 1000 0), (3, .d (envD (bindE (dws.take u.1) (vks.take u.1) env))), (5, .ptr 5 0), (8, .ptr 8 0), (10, .ptr 10 0), (39, .d (strsD dws)), (40, .d (.int V)), (41, .d (.int u.1))], [(5, some (.blk 47 [.d (.bool true), .d (.int vn), .d (.sl (vks.map Vl.row))])), (8, some (.blk 47 [.d (.bool false), .d (.int 0), .lit (.slice none 0 0)])), (10, some (.blk 40 [.d (.int vn), .d (strsD dws), .d (.int dk), .d (.int dn), .d (.str da), .d (.str db), .d (strsD dvs), .d (.sl (dxs.map Tm.row)), .d (.sl (dcs.map Cs.row))])), (1000, some (.blk 84 [.d (.sl (l.map Fn.row)), .d (.int fuel), .d (.int c), .d (.int 0)]))]⟩)
            (μ := fun u => dws.length - u.1) ⟨0, Nat.zero_le _⟩ (Le.sub (by simp [bindE_nil, hW, hV]) (by simp [bindE_nil, hW, hV])) (fun ⟨j, hi10⟩ => ?_)
          dsimp only
          refine AWp.rg [] [] ?_ (hr := by conv => lhs; simp [Tm.row, Tm.rows_eq, Cs.rows_eq, Vl.row, Vl.rows_eq, Vl.con, Vl.n, Vl.kids, h1d, Cs.row, hW, hV, q2, q3])
          repeat (first | refine AWp.seq ?_ | refine AWp.block ?_)
          refine AWp.cond rfl (fun hc => ?_) (fun hc => ?_)
          · have hi1 : j < dws.length := by have := of_decide_eq_true hc; omega
            clear hc
            have h1x : dws[j]? = some dws[j] := List.getElem?_eq_getElem hi1
            have hmx : dws[j] ∈ dws := List.getElem_mem hi1
            have hdx : dws.drop j = dws[j] :: dws.drop (j + 1) := List.drop_eq_getElem_cons hi1
            generalize dws[j] = x at h1x hmx hdx
            have h2y : vks[j]? = some (vks[j]'(by omega)) := List.getElem?_eq_getElem (by omega)
            generalize vks[j]'(by omega) = y at h2y
            have hsn := bindE_snoc h1x h2y env
            generalize bindE (dws.take j) (vks.take j) env = E at hsn ⊢
            obtain ⟨zc, zn, zks⟩ := y
            refine AWp.skip ?_
            refine AWp.rg [] [] ?_ (hr := by conv => lhs; simp [Tm.row, Tm.rows_eq, Cs.rows_eq, Vl.row, Vl.rows_eq, Vl.con, Vl.n, Vl.kids, h1d, Cs.row, hW, hV, h1x, h2y, q2, q3])
            refine AWp.rg [8] [] ?_ (hr := by conv => lhs; simp [Tm.row, Tm.rows_eq, Cs.rows_eq, Vl.row, Vl.rows_eq, Vl.con, Vl.n, Vl.kids, h1d, Cs.row, hW, hV, h1x, h2y, q2, q3])
            refine AWp.rg [] [] ?_ (hr := by conv => lhs; simp [Tm.row, Tm.rows_eq, Cs.rows_eq, Vl.row, Vl.rows_eq, Vl.con, Vl.n, Vl.kids, h1d, Cs.row, hW, hV, h1x, h2y, q2, q3])
            refine ⟨⟨j + 1, hi1⟩, by simp; omega, ?_⟩
            dsimp only
            rw [hsn]
            exact Le.sub (by simp [envD, Vl.row, Vl.rows_eq, hW, hV]) (by simp [envD, Vl.row, Vl.rows_eq, hW, hV])
          have hi1 : j = dws.length := by have := of_decide_eq_false hc; omega
          subst hi1
          clear hc
          rw [List.take_length, show vks.take dws.length = vks by rw [hWV, List.take_length]]
          obtain ⟨E, hE⟩ : ∃ E, E = bindE dws vks env := ⟨_, rfl⟩
          rw [← hE] at hx ⊢
          refine AWp.exit ?_
          refine AWp.rg [] [.c [] [.ptr 1000 0, .agg [.d (.int dk), .d (.int dn), .d (.str da), .d (.str db), .d (strsD dvs), .d (.sl (dxs.map Tm.row)), .d (.sl (dcs.map Cs.row))], .d (envD E)] [(1000, .blk 84 [.d (.sl (l.map Fn.row)), .d (.int fuel), .d (.int c), .d (.int 0)])] (.agg [.d (.bool uc), .d (.int un), .d (.sl (uks.map Vl.row))]) [(1000, .blk 84 [.d (.sl (l.map Fn.row)), .d (.int f2), .d (.int c), .d (.int e2)])]] ?_ (hr := by conv => lhs; simp [Tm.row, Tm.rows_eq, Cs.rows_eq, Vl.row, Vl.rows_eq, Vl.con, Vl.n, Vl.kids, h1d, Cs.row, hW, hV, q2, q3])
          refine AWp.ret ?_
          rw [hw]
          try dsimp only [thenQ, blockQ]
          apply endC.ret
          · rfl
          · conv => lhs; simp [resAV, Tryd.results162]
          · rfl
          · simp [moEnd, memGet]
        refine AWp.rg [] [] ?_ (hr := by conv => lhs; simp [Tm.row, Tm.rows_eq, Cs.rows_eq, Vl.row, Vl.rows_eq, Vl.con, Vl.n, Vl.kids, h1d, Cs.row, hW, hV, q2, q3])
        refine AWp.cy ?_
        have hf4 := cs_fail l fuel c 11
        refine AWp.rg [] [.c [] [.ptr 1000 0, .d (.int 11)] [(1000, .blk 84 [.d (.sl (l.map Fn.row)), .d (.int fuel), .d (.int c), .d (.int 0)])] (vlAV zeroV) [(1000, .blk 84 [.d (.sl (l.map Fn.row)), .d (.int fuel), .d (.int c), .d (.int 11)])]] ?_ (hr := by conv => lhs; simp [Tm.row, Tm.rows_eq, Cs.rows_eq, Vl.row, Vl.rows_eq, Vl.con, Vl.n, Vl.kids, h1d, Cs.row, hW, hV, q2, q3])
        refine AWp.ret ?_
        rw [evC_bad q2 (by omega)] at hw
        rw [hw]
        try dsimp only [thenQ, blockQ]
        apply endC.ret
        · rfl
        · conv => lhs; simp [resAV, Tryd.results162]
        · rfl
        · simp [moEnd, memGet]
      refine AWp.rg [] [] ?_ (hr := by conv => lhs; simp [Tm.row, Tm.rows_eq, Cs.rows_eq, Vl.row, Vl.rows_eq, Vl.con, Vl.n, Vl.kids, h1d, Cs.row, hW, hV, q2])
      refine AWp.cy ?_
      refine AWp.exit ?_
      refine AWp.rg [] [] ?_ (hr := by conv => lhs; simp [Tm.row, Tm.rows_eq, Cs.rows_eq, Vl.row, Vl.rows_eq, Vl.con, Vl.n, Vl.kids, h1d, Cs.row, hW, hV, q2])
      rw [evC_miss q2] at hw
      refine ⟨⟨i + 1, hi1, hw⟩, by simp; omega, ?_⟩
      dsimp only
      exact Le.sub (by simp [hV]) (by simp [hV])
    have hi1 : i = cs.length := by have := of_decide_eq_false hc; omega
    subst hi1
    clear hc
    rw [List.drop_length] at hw
    simp only [evC] at hw
    refine AWp.exit ?_
    have hf5 := cs_fail l fuel c 11
    refine AWp.rg [] [.c [] [.ptr 1000 0, .d (.int 11)] [(1000, .blk 84 [.d (.sl (l.map Fn.row)), .d (.int fuel), .d (.int c), .d (.int 0)])] (vlAV zeroV) [(1000, .blk 84 [.d (.sl (l.map Fn.row)), .d (.int fuel), .d (.int c), .d (.int 11)])]] ?_ (hr := by conv => lhs; simp [Tm.row, Tm.rows_eq, Cs.rows_eq, Vl.row, Vl.rows_eq, Vl.con, Vl.n, Vl.kids])
    refine AWp.ret ?_
    rw [hw]
    try dsimp only [thenQ, blockQ]
    apply endC.ret
    · rfl
    · conv => lhs; simp [resAV, Tryd.results162]
    · rfl
    · simp [moEnd, memGet]
theorem indexF_find {l : List Fn} {name : ByteArray} : (l.find? (fun x => eqB x.name name) = none ∧ indexF l (fun x => eqB x.name name) = -1) ∨ ∃ (x : Fn) (i : Nat), l.find? (fun x => eqB x.name name) = some x ∧ x ∈ l ∧ l[i]? = some x ∧ indexF l (fun x => eqB x.name name) = i := by
  unfold indexF
  cases h : l.findIdx? (fun x => eqB x.name name) with
  | none =>
    left
    rw [List.findIdx?_eq_none_iff] at h
    exact ⟨List.find?_eq_none.2 fun x hx => by rw [h x hx]; exact Bool.false_ne_true, rfl⟩
  | some i =>
    right
    rw [List.findIdx?_eq_some_iff_getElem] at h
    obtain ⟨hi, h1, h2⟩ := h
    refine ⟨l[i], i, ?_, List.getElem_mem hi, List.getElem?_eq_getElem hi, rfl⟩
    rw [List.find?_eq_some_iff_getElem]
    exact ⟨h1, i, hi, rfl, fun j hj => by simpa using h2 j hj⟩
theorem evCall_none {g : Bool} {l : List Fn} {name : ByteArray} (h : l.find? (fun x => eqB x.name name) = none) : ∀ (m : Nat) (vs : List Vl) (fuel : Int), evCall g l m name vs fuel = (zeroV, fuel, 6)
  | 0, vs, fuel => by rw [evCall, h]
  | m + 1, vs, fuel => by rw [evCall, h]
theorem evCall_bad {g : Bool} {l : List Fn} {name : ByteArray} {x : Fn} (h : l.find? (fun x => eqB x.name name) = some x) : ∀ (m : Nat) (vs : List Vl) (fuel : Int), x.params.length ≠ vs.length → evCall g l m name vs fuel = (zeroV, fuel, 6)
  | 0, vs, fuel, hl => by rw [evCall, h]; exact if_pos hl
  | m + 1, vs, fuel, hl => by rw [evCall, h]; exact if_pos hl
theorem evCall_dry {g : Bool} {l : List Fn} {name : ByteArray} {x : Fn} (h : l.find? (fun x => eqB x.name name) = some x) : ∀ (m : Nat) (vs : List Vl) (fuel : Int), x.params.length = vs.length → fuel = 0 → evCall g l m name vs fuel = (zeroV, fuel, 12)
  | 0, vs, fuel, hl, hf => by rw [evCall, h]; exact (if_neg (fun e => e hl)).trans (if_pos hf)
  | m + 1, vs, fuel, hl, hf => by rw [evCall, h]; exact (if_neg (fun e => e hl)).trans (if_pos hf)
theorem evCall_deep {g : Bool} {l : List Fn} {name : ByteArray} {x : Fn} (h : l.find? (fun x => eqB x.name name) = some x) {vs : List Vl} {fuel : Int} (hl : x.params.length = vs.length) (hf : ¬ fuel = 0) : evCall g l 0 name vs fuel = (zeroV, fuel, 9) := by
  rw [evCall, h]; exact (if_neg (fun e => e hl)).trans (if_neg hf)
theorem evCall_go {g : Bool} {l : List Fn} {name : ByteArray} {x : Fn} (h : l.find? (fun x => eqB x.name name) = some x) {m : Nat} {vs : List Vl} {fuel : Int} (hl : x.params.length = vs.length) (hf : ¬ fuel = 0) : evCall g l (m + 1) name vs fuel = evT g (evCall g l m) x.body (bindE x.params vs []) (fuel - 1) := by
  rw [evCall, h]; exact (if_neg (fun e => e hl)).trans (if_neg hf)
set_option maxRecDepth 20000 in
set_option maxHeartbeats 16000000 in
theorem ev_call_step (l : List Fn) (m : Nat) (hl : l.length ≤ 879609302220) (hok : ∀ x ∈ l, x.body.Ok) (hr : ∀ x ∈ l, x.Fit (arOf l)) (hm : m ≤ 40) (ih : ∀ n, m = n + 1 → ∀ N, TermE l n N) : CallE l m := by
  intro name vs fuel hvs hlv hf0 hf1
  obtain ⟨c, hcd⟩ : ∃ c : Int, c = 40 - m := ⟨_, rfl⟩
  rw [← hcd]
  refine CSpec.of Tryd.func72 rfl rfl (Nat.le_of_ble_eq_true rfl) ?_
  show AWp _ _ (endC _ Tryd.f72 _ _) (startC 106 _ _)
  refine AWp.rg [] [] ?_ (hr := by conv => lhs; simp [Tm.row, Tm.rows_eq, Cs.rows_eq, Vl.row, Vl.rows_eq, Vl.con, Vl.n, Vl.kids, Fn.row])
  have hix := cs_IndexFn l name hl (fun x => eqB x.name name) 114 (fun s _ => cs_callFn s name)
  rcases indexF_find (l := l) (name := name) with ⟨hfd, hk⟩ | ⟨x, i, hfd, hxl, hxi, hk⟩
  · rw [hk] at hix
    rw [evCall_none hfd]
    refine AWp.rg [] [.c [(1000, 4)] [.d (.sl (l.map Fn.row)), .clo 114 [.ptr 1000 0]] [(1000, .blk 9 [.d (.str name)])] (.d (.int (-1))) [(1000, .blk 9 [.d (.str name)])]] ?_ (hr := by conv => lhs; simp [Tm.row, Tm.rows_eq, Cs.rows_eq, Vl.row, Vl.rows_eq, Vl.con, Vl.n, Vl.kids, Fn.row])
    refine AWp.rg [] [] ?_ (hr := by conv => lhs; simp [Tm.row, Tm.rows_eq, Cs.rows_eq, Vl.row, Vl.rows_eq, Vl.con, Vl.n, Vl.kids, Fn.row])
    refine AWp.cy ?_
    have hf1 := cs_fail l fuel c 6
    refine AWp.rg [] [.c [] [.ptr 1000 0, .d (.int 6)] [(1000, .blk 84 [.d (.sl (l.map Fn.row)), .d (.int fuel), .d (.int c), .d (.int 0)])] (vlAV zeroV) [(1000, .blk 84 [.d (.sl (l.map Fn.row)), .d (.int fuel), .d (.int c), .d (.int 6)])]] ?_ (hr := by conv => lhs; simp [Tm.row, Tm.rows_eq, Cs.rows_eq, Vl.row, Vl.rows_eq, Vl.con, Vl.n, Vl.kids, Fn.row])
    refine AWp.ret ?_
    try dsimp only [thenQ, blockQ]
    apply endC.ret
    · rfl
    · conv => lhs; simp [resAV, Tryd.results72]
    · rfl
    · simp [moEnd, memGet]
  obtain ⟨j, hj⟩ : ∃ j : Int, (i : Int) = j := ⟨_, rfl⟩
  have hj0 : 0 ≤ j := by omega
  have hjx : l[j.toNat]? = some x := by rw [← hj]; exact hxi
  rw [hk, hj] at hix
  clear hk hxi hj
  have hright := hr x hxl
  have hxok := hok x hxl
  obtain ⟨xg, xps, ⟨xk, xn, xa, xb, xvs, xxs, xcs⟩⟩ := x
  have hp6 := hright.params
  obtain ⟨dp, hdp⟩ := hright.wrong
  dsimp only at hp6
  obtain ⟨P, hP⟩ : ∃ P : Int, (xps.length : Int) = P := ⟨_, rfl⟩
  obtain ⟨V, hV⟩ : ∃ V : Int, (vs.length : Int) = V := ⟨_, rfl⟩
  refine AWp.rg [] [.c [(1000, 4)] [.d (.sl (l.map Fn.row)), .clo 114 [.ptr 1000 0]] [(1000, .blk 9 [.d (.str name)])] (.d (.int j)) [(1000, .blk 9 [.d (.str name)])]] ?_ (hr := by conv => lhs; simp [Tm.row, Tm.rows_eq, Cs.rows_eq, Vl.row, Vl.rows_eq, Vl.con, Vl.n, Vl.kids, Fn.row, hjx, hP, hV])
  have q2 : ¬ (j < 0) := by omega
  by_cases q3 : P = V
  · refine AWp.rg [] [] ?_ (hr := by conv => lhs; simp [Tm.row, Tm.rows_eq, Cs.rows_eq, Vl.row, Vl.rows_eq, Vl.con, Vl.n, Vl.kids, Fn.row, hjx, hP, hV, q2, q3])
    refine AWp.cn ?_
    refine AWp.skip ?_
    have hPV : xps.length = vs.length := by omega
    by_cases q4 : fuel = 0
    · refine AWp.rg [] [] ?_ (hr := by conv => lhs; simp [Tm.row, Tm.rows_eq, Cs.rows_eq, Vl.row, Vl.rows_eq, Vl.con, Vl.n, Vl.kids, Fn.row, hjx, hP, hV, q2, q3, q4])
      refine AWp.cy ?_
      subst q4
      rw [evCall_dry hfd m vs 0 hPV rfl]
      have hf5 := cs_fail l 0 c 12
      refine AWp.rg [] [.c [] [.ptr 1000 0, .d (.int 12)] [(1000, .blk 84 [.d (.sl (l.map Fn.row)), .d (.int 0), .d (.int c), .d (.int 0)])] (vlAV zeroV) [(1000, .blk 84 [.d (.sl (l.map Fn.row)), .d (.int 0), .d (.int c), .d (.int 12)])]] ?_ (hr := by conv => lhs; simp [Tm.row, Tm.rows_eq, Cs.rows_eq, Vl.row, Vl.rows_eq, Vl.con, Vl.n, Vl.kids, Fn.row, hjx, hP, hV, q2, q3])
      refine AWp.ret ?_
      try dsimp only [thenQ, blockQ]
      apply endC.ret
      · rfl
      · conv => lhs; simp [resAV, Tryd.results72]
      · rfl
      · simp [moEnd, memGet]
    refine AWp.rg [] [] ?_ (hr := by conv => lhs; simp [Tm.row, Tm.rows_eq, Cs.rows_eq, Vl.row, Vl.rows_eq, Vl.con, Vl.n, Vl.kids, Fn.row, hjx, hP, hV, q2, q3, q4])
    refine AWp.cn ?_
    refine AWp.skip ?_
    by_cases q6 : 40 ≤ c
    · refine AWp.rg [] [] ?_ (hr := by conv => lhs; simp [Tm.row, Tm.rows_eq, Cs.rows_eq, Vl.row, Vl.rows_eq, Vl.con, Vl.n, Vl.kids, Fn.row, hjx, hP, hV, q2, q3, q4, q6])
      refine AWp.cy ?_
      obtain rfl : m = 0 := by omega
      rw [evCall_deep hfd hPV q4]
      have hf7 := cs_fail l fuel c 9
      refine AWp.rg [] [.c [] [.ptr 1000 0, .d (.int 9)] [(1000, .blk 84 [.d (.sl (l.map Fn.row)), .d (.int fuel), .d (.int c), .d (.int 0)])] (vlAV zeroV) [(1000, .blk 84 [.d (.sl (l.map Fn.row)), .d (.int fuel), .d (.int c), .d (.int 9)])]] ?_ (hr := by conv => lhs; simp [Tm.row, Tm.rows_eq, Cs.rows_eq, Vl.row, Vl.rows_eq, Vl.con, Vl.n, Vl.kids, Fn.row, hjx, hP, hV, q2, q3, q4, q6])
      refine AWp.ret ?_
      try dsimp only [thenQ, blockQ]
      apply endC.ret
      · rfl
      · conv => lhs; simp [resAV, Tryd.results72]
      · rfl
      · simp [moEnd, memGet]
    refine AWp.rg [] [] ?_ (hr := by conv => lhs; simp [Tm.row, Tm.rows_eq, Cs.rows_eq, Vl.row, Vl.rows_eq, Vl.con, Vl.n, Vl.kids, Fn.row, hjx, hP, hV, q2, q3, q4, q6])
    refine AWp.cn ?_
    refine AWp.skip ?_
    obtain ⟨n, rfl⟩ : ∃ n, m = n + 1 := ⟨m - 1, by omega⟩
    rw [evCall_go hfd hPV q4]
    have hx := ih n rfl _ (.mk xk xn xa xb xvs xxs xcs) (bindE xps vs []) xps dp (fuel - 1) (Nat.lt_succ_self _) hxok hdp (by have := CovE.bind (env := []) (names := []) (fun s hs => by cases hs) hPV; simpa using this) (EnvF.bind (fun p hp => by cases hp) hvs _) (by omega) (by omega)
    obtain ⟨c1, hc1⟩ : ∃ c1 : Int, 40 - (n : Int) = c1 := ⟨_, rfl⟩
    have hcc : c + 1 = c1 := by omega
    have hcc2 : c1 - 1 = c := by omega
    rw [hc1] at hx
    generalize evT true (evCall true l n) (.mk xk xn xa xb xvs xxs xcs) (bindE xps vs []) (fuel - 1) = o at hx ⊢
    obtain ⟨⟨uc, un, uks⟩, f2, e2⟩ := o
    dsimp only at hx
    obtain ⟨f1, hf1d⟩ : ∃ f1, fuel - 1 = f1 := ⟨_, rfl⟩
    rw [hf1d] at hx
    refine AWp.rg [] [] ?_ (hr := by conv => lhs; simp [Tm.row, Tm.rows_eq, Cs.rows_eq, Vl.row, Vl.rows_eq, Vl.con, Vl.n, Vl.kids, Fn.row, hjx, hP, hV, q2, q3, q4, q6])
    refine AWp.rg [] [] ?_ (hr := by conv => lhs; simp [Tm.row, Tm.rows_eq, Cs.rows_eq, Vl.row, Vl.rows_eq, Vl.con, Vl.n, Vl.kids, Fn.row, hjx, hP, hV, hcc, hcc2, hf1d, q2, q3, q4, q6])
    refine AWp.rg [] [] ?_ (hr := by conv => lhs; simp [Tm.row, Tm.rows_eq, Cs.rows_eq, Vl.row, Vl.rows_eq, Vl.con, Vl.n, Vl.kids, Fn.row, hjx, hP, hV, hcc, hcc2, hf1d, q2, q3, q4, q6])
    refine AWp.rg [] [] ?_ (hr := by conv => lhs; simp [Tm.row, Tm.rows_eq, Cs.rows_eq, Vl.row, Vl.rows_eq, Vl.con, Vl.n, Vl.kids, Fn.row, hjx, hP, hV, hcc, hcc2, hf1d, q2, q3, q4, q6])
    repeat (first | refine AWp.seq ?_ | refine AWp.block ?_)
    refine AWp.loop (σ := fun u : {u : Nat // u ≤ xps.length} => ⟨106, [(0, .ptr 1000 0), (2, .d (.sl (vs.map Vl.row))), (6, .ptr 6 0), (7, .d (.int j)), (8, .d (envD (bindE (xps.take u.1) (vs.take u.1) []))), (71, .d (strsD xps)), (72, .d (.int V)), (73, .d (.int u.1))], [(6, some (.blk 47 [.d (.bool false), .d (.int 0), .lit (.slice none 0 0)])), (1000, some (.blk 84 [.d (.sl (l.map Fn.row)), .d (.int f1), .d (.int c1), .d (.int 0)]))]⟩)
      (μ := fun u => xps.length - u.1) ⟨0, Nat.zero_le _⟩ (Le.sub (by simp [bindE_nil, envD, hP, hV]) (by simp [bindE_nil, envD, hP, hV])) (fun ⟨i, hi12⟩ => ?_)
    dsimp only
    refine AWp.rg [] [] ?_ (hr := by conv => lhs; simp [Tm.row, Tm.rows_eq, Cs.rows_eq, Vl.row, Vl.rows_eq, Vl.con, Vl.n, Vl.kids, Fn.row, hjx, hP, hV, hcc, hcc2, hf1d, q2, q3, q4, q6])
    repeat (first | refine AWp.seq ?_ | refine AWp.block ?_)
    refine AWp.cond rfl (fun hc => ?_) (fun hc => ?_)
    · have hi1 : i < xps.length := by have := of_decide_eq_true hc; omega
      clear hc
      have h1x : xps[i]? = some xps[i] := List.getElem?_eq_getElem hi1
      have hmx : xps[i] ∈ xps := List.getElem_mem hi1
      have hdx : xps.drop i = xps[i] :: xps.drop (i + 1) := List.drop_eq_getElem_cons hi1
      generalize xps[i] = x at h1x hmx hdx
      have h2y : vs[i]? = some (vs[i]'(by omega)) := List.getElem?_eq_getElem (by omega)
      generalize vs[i]'(by omega) = y at h2y
      have hsn := bindE_snoc h1x h2y []
      generalize bindE (xps.take i) (vs.take i) [] = E at hsn ⊢
      obtain ⟨zc, zn, zks⟩ := y
      refine AWp.skip ?_
      refine AWp.rg [] [] ?_ (hr := by conv => lhs; simp [Tm.row, Tm.rows_eq, Cs.rows_eq, Vl.row, Vl.rows_eq, Vl.con, Vl.n, Vl.kids, Fn.row, hjx, hP, hV, hcc, hcc2, hf1d, h1x, h2y, q2, q3, q4, q6])
      refine AWp.rg [7] [] ?_ (hr := by conv => lhs; simp [Tm.row, Tm.rows_eq, Cs.rows_eq, Vl.row, Vl.rows_eq, Vl.con, Vl.n, Vl.kids, Fn.row, hjx, hP, hV, hcc, hcc2, hf1d, h1x, h2y, q2, q3, q4, q6])
      refine AWp.rg [] [] ?_ (hr := by conv => lhs; simp [Tm.row, Tm.rows_eq, Cs.rows_eq, Vl.row, Vl.rows_eq, Vl.con, Vl.n, Vl.kids, Fn.row, hjx, hP, hV, hcc, hcc2, hf1d, h1x, h2y, q2, q3, q4, q6])
      refine ⟨⟨i + 1, hi1⟩, by simp; omega, ?_⟩
      dsimp only
      rw [hsn]
      exact Le.sub (by simp [envD, Vl.row, Vl.rows_eq, hP, hV]) (by simp [envD, Vl.row, Vl.rows_eq, hP, hV])
    have hi1 : i = xps.length := by have := of_decide_eq_false hc; omega
    subst hi1
    clear hc
    rw [List.take_length, show vs.take xps.length = vs by rw [hPV, List.take_length]]
    obtain ⟨E, hE⟩ : ∃ E, E = bindE xps vs [] := ⟨_, rfl⟩
    rw [← hE] at hx ⊢
    refine AWp.exit ?_
    refine AWp.rg [] [.c [] [.ptr 1000 0, .agg [.d (.int xk), .d (.int xn), .d (.str xa), .d (.str xb), .d (strsD xvs), .d (.sl (xxs.map Tm.row)), .d (.sl (xcs.map Cs.row))], .d (envD E)] [(1000, .blk 84 [.d (.sl (l.map Fn.row)), .d (.int f1), .d (.int c1), .d (.int 0)])] (.agg [.d (.bool uc), .d (.int un), .d (.sl (uks.map Vl.row))]) [(1000, .blk 84 [.d (.sl (l.map Fn.row)), .d (.int f2), .d (.int c1), .d (.int e2)])]] ?_ (hr := by conv => lhs; simp [Tm.row, Tm.rows_eq, Cs.rows_eq, Vl.row, Vl.rows_eq, Vl.con, Vl.n, Vl.kids, Fn.row, hjx, hP, hV, hcc, hcc2, hf1d, q2, q3, q4, q6])
    refine AWp.rg [] [] ?_ (hr := by conv => lhs; simp [Tm.row, Tm.rows_eq, Cs.rows_eq, Vl.row, Vl.rows_eq, Vl.con, Vl.n, Vl.kids, Fn.row, hjx, hP, hV, hcc, hcc2, hf1d, q2, q3, q4, q6])
    refine AWp.rg [] [] ?_ (hr := by conv => lhs; simp [Tm.row, Tm.rows_eq, Cs.rows_eq, Vl.row, Vl.rows_eq, Vl.con, Vl.n, Vl.kids, Fn.row, hjx, hP, hV, hcc, hcc2, hf1d, q2, q3, q4, q6])
    refine AWp.ret ?_
    try dsimp only [thenQ, blockQ]
    apply endC.ret
    · rfl
    · conv => lhs; simp [resAV, Tryd.results72]
    · rfl
    · simp [moEnd, memGet]
  refine AWp.rg [] [] ?_ (hr := by conv => lhs; simp [Tm.row, Tm.rows_eq, Cs.rows_eq, Vl.row, Vl.rows_eq, Vl.con, Vl.n, Vl.kids, Fn.row, hjx, hP, hV, q2, q3])
  refine AWp.cy ?_
  rw [evCall_bad hfd m vs fuel (by show xps.length ≠ vs.length; omega)]
  have hf8 := cs_fail l fuel c 6
  refine AWp.rg [] [.c [] [.ptr 1000 0, .d (.int 6)] [(1000, .blk 84 [.d (.sl (l.map Fn.row)), .d (.int fuel), .d (.int c), .d (.int 0)])] (vlAV zeroV) [(1000, .blk 84 [.d (.sl (l.map Fn.row)), .d (.int fuel), .d (.int c), .d (.int 6)])]] ?_ (hr := by conv => lhs; simp [Tm.row, Tm.rows_eq, Cs.rows_eq, Vl.row, Vl.rows_eq, Vl.con, Vl.n, Vl.kids, Fn.row, hjx, hP, hV, q2, q3])
  refine AWp.ret ?_
  try dsimp only [thenQ, blockQ]
  apply endC.ret
  · rfl
  · conv => lhs; simp [resAV, Tryd.results72]
  · rfl
  · simp [moEnd, memGet]
set_option maxRecDepth 20000 in
set_option maxHeartbeats 16000000 in
theorem cs_term_err (l : List Fn) (t : Tm) (env : Env) (f c e : Int) (he : ¬ e = 0) : CSpec Tryd.prog 116 [.ptr 1000 0, tmAV t, .d (envD env)] [(1000, tlObj l f c e)] (vlAV zeroV) [(1000, tlObj l f c e)] := by
  obtain ⟨tk, tn, ta, tb, tvs, txs, tcs⟩ := t
  refine CSpec.of Tryd.func116 rfl rfl (Nat.le_of_ble_eq_true rfl) ?_
  show AWp _ _ (endC _ Tryd.f116 _ _) (startC 159 _ _)
  refine AWp.rg [] [] ?_ (hr := by conv => lhs; simp [Tm.row, Tm.rows_eq, Cs.rows_eq, Vl.row, Vl.rows_eq, Vl.con, Vl.n, Vl.kids, he])
  refine AWp.rg [] [] ?_ (hr := by conv => lhs; simp [Tm.row, Tm.rows_eq, Cs.rows_eq, Vl.row, Vl.rows_eq, Vl.con, Vl.n, Vl.kids, he])
  refine AWp.cy ?_
  refine AWp.rg [] [] ?_ (hr := by conv => lhs; simp [Tm.row, Tm.rows_eq, Cs.rows_eq, Vl.row, Vl.rows_eq, Vl.con, Vl.n, Vl.kids, he])
  refine AWp.ret ?_
  try dsimp only [thenQ, blockQ]
  apply endC.ret
  · rfl
  · conv => lhs; simp [resAV, Tryd.results116]
  · rfl
  · simp [moEnd, memGet]
set_option maxRecDepth 20000 in
set_option maxHeartbeats 16000000 in
theorem ev_term_step (l : List Fn) (n N : Nat) (hCF : CFine (evCall true l n)) (ih : TermE l n N) (hAll : AllE l n N) (hMatch : MatchE l n N) (hCall : CallE l n) : TermE l n (N + 1) := by
  intro t env names deep fuel hN hO hwr hcov hF hf0 hf1
  obtain ⟨C, hCd⟩ : ∃ C, C = evCall true l n := ⟨_, rfl⟩
  obtain ⟨c, hcd⟩ : ∃ c : Int, c = 40 - n := ⟨_, rfl⟩
  rw [← hCd] at hCF ⊢
  rw [← hcd]
  obtain ⟨tk, tn, ta, tb, tvs, txs, tcs⟩ := t
  obtain ⟨h1, h2, h3, h4, h5, h6, h7⟩ := wrong_zero hwr
  have hn6 := many_six h4 fun h => (h7 h).2.1
  have hx6 : txs.length ≤ 6 := by omega
  have hxN : ∀ x ∈ txs, x.sz < N := fun x hx => by have := Tm.sz_arg (k := tk) (n := tn) (a := ta) (b := tb) (vs := tvs) (cs := tcs) hx; omega
  have hxOk : ∀ x ∈ txs, x.Ok := fun x hx => Tm.Oks_iff.1 hO.2.2.1 x hx
  obtain ⟨R, hR⟩ : ∃ R, R = evT true C (.mk tk tn ta tb tvs txs tcs) env fuel := ⟨_, rfl⟩
  rw [← hR]
  clear hwr
  refine CSpec.of Tryd.func116 rfl rfl (Nat.le_of_ble_eq_true rfl) ?_
  show AWp _ _ (endC _ Tryd.f116 _ _) (startC 159 _ _)
  refine AWp.rg [] [] ?_ (hr := by conv => lhs; simp [Tm.row, Tm.rows_eq, Cs.rows_eq, Vl.row, Vl.rows_eq, Vl.con, Vl.n, Vl.kids])
  refine AWp.rg [] [] ?_ (hr := by conv => lhs; simp [Tm.row, Tm.rows_eq, Cs.rows_eq, Vl.row, Vl.rows_eq, Vl.con, Vl.n, Vl.kids])
  refine AWp.cn ?_
  refine AWp.skip ?_
  refine AWp.rg [] [] ?_ (hr := by conv => lhs; simp [Tm.row, Tm.rows_eq, Cs.rows_eq, Vl.row, Vl.rows_eq, Vl.con, Vl.n, Vl.kids])
  by_cases q1 : tk = 1
  · refine AWp.rg [] [] ?_ (hr := by conv => lhs; simp [Tm.row, Tm.rows_eq, Cs.rows_eq, Vl.row, Vl.rows_eq, Vl.con, Vl.n, Vl.kids, q1])
    refine AWp.cy ?_
    subst q1
    unfold headE at h5
    rw [if_pos rfl] at h5
    obtain ⟨v, hv⟩ := hcov ta (by
      rw [← hasB_iff]
      cases hb : hasB names ta with
      | true => rfl
      | false => rw [hb] at h5; simp at h5)
    have hp := sp_find env ta
    rw [show envVal env ta = v by simp [envVal, hv], show envHas env ta = true by simp [envHas, hv]] at hp
    obtain rfl : R = (v, fuel, 0) := by rw [hR, evT, if_pos rfl, show envVal env ta = v by simp [envVal, hv]]
    obtain ⟨vc, vn, vks⟩ := v
    refine AWp.rg [] [.p (fun _ => .tuple [.agg [.d (.bool vc), .d (.int vn), .d (.sl (vks.map Vl.row))], .d (.bool true)]) none] ?_ (hr := by conv => lhs; simp [Tm.row, Tm.rows_eq, Cs.rows_eq, Vl.row, Vl.rows_eq, Vl.con, Vl.n, Vl.kids])
    refine AWp.rg [] [] ?_ (hr := by conv => lhs; simp [Tm.row, Tm.rows_eq, Cs.rows_eq, Vl.row, Vl.rows_eq, Vl.con, Vl.n, Vl.kids])
    refine AWp.cn ?_
    refine AWp.skip ?_
    refine AWp.rg [] [] ?_ (hr := by conv => lhs; simp [Tm.row, Tm.rows_eq, Cs.rows_eq, Vl.row, Vl.rows_eq, Vl.con, Vl.n, Vl.kids])
    refine AWp.ret ?_
    try dsimp only [thenQ, blockQ]
    apply endC.ret
    · rfl
    · conv => lhs; simp [resAV, Tryd.results116]
    · rfl
    · simp [moEnd, memGet]
  refine AWp.rg [] [] ?_ (hr := by conv => lhs; simp [Tm.row, Tm.rows_eq, Cs.rows_eq, Vl.row, Vl.rows_eq, Vl.con, Vl.n, Vl.kids, q1])
  refine AWp.cn ?_
  by_cases q2 : tk = 2
  · refine AWp.rg [] [] ?_ (hr := by conv => lhs; simp [Tm.row, Tm.rows_eq, Cs.rows_eq, Vl.row, Vl.rows_eq, Vl.con, Vl.n, Vl.kids, q1, q2])
    refine AWp.cy ?_
    subst q2
    obtain rfl : R = (.mk false tn [], fuel, 0) := by rw [hR, evT, if_neg (by omega), if_pos rfl]
    refine AWp.rg [] [] ?_ (hr := by conv => lhs; simp [Tm.row, Tm.rows_eq, Cs.rows_eq, Vl.row, Vl.rows_eq, Vl.con, Vl.n, Vl.kids, q1])
    refine AWp.ret ?_
    try dsimp only [thenQ, blockQ]
    apply endC.ret
    · rfl
    · conv => lhs; simp [resAV, Tryd.results116]
    · rfl
    · simp [moEnd, memGet]
  refine AWp.rg [] [] ?_ (hr := by conv => lhs; simp [Tm.row, Tm.rows_eq, Cs.rows_eq, Vl.row, Vl.rows_eq, Vl.con, Vl.n, Vl.kids, q1, q2])
  refine AWp.cn ?_
  by_cases q3 : tk = 3
  · refine AWp.rg [] [] ?_ (hr := by conv => lhs; simp [Tm.row, Tm.rows_eq, Cs.rows_eq, Vl.row, Vl.rows_eq, Vl.con, Vl.n, Vl.kids, q1, q2, q3])
    refine AWp.cy ?_
    subst q3
    have hxw : ∀ x ∈ txs, x.wrong (arOf l) names (deep + 1) = 0 := fun x hx => by
      obtain ⟨j, hj⟩ := List.mem_iff_getElem?.1 hx
      have := wrongs_zero h6 j x hj
      rw [if_neg (by omega)] at this
      exact this
    have ha := hAll txs env names (deep + 1) fuel hxN hxOk hxw hx6 hcov hF hf0 hf1
    rw [← hCd, ← hcd] at ha
    have hlen := evL_len true C env txs fuel
    have hfine := evL_fine (g := true) hCF hF txs fuel hxw hf0 hf1
    have hRk : R = afterL true C 3 tn ta (evL true C txs env fuel) (fun v f => evC true C v tcs env f) := by rw [hR, evT, if_neg (by omega), if_neg (by omega), if_neg (by omega)]
    clear hR
    generalize evL true C txs env fuel = o at ha hlen hfine hRk
    obtain ⟨us, f2, e2⟩ := o
    dsimp only at ha hlen hfine
    unfold afterL at hRk
    dsimp only at hRk
    rw [if_pos rfl, if_pos (.inl rfl)] at hRk
    subst hRk
    refine AWp.dw [] [.c [] [.ptr 1000 0, .d (.sl (txs.map Tm.row)), .d (envD env)] [(1000, .blk 84 [.d (.sl (l.map Fn.row)), .d (.int fuel), .d (.int c), .d (.int 0)])] (.d (.sl (us.map Vl.row))) [(1000, .blk 84 [.d (.sl (l.map Fn.row)), .d (.int f2), .d (.int c), .d (.int e2)])]] mixed ?_ (hr := by conv => lhs; simp [Tm.row, Tm.rows_eq, Cs.rows_eq, Vl.row, Vl.rows_eq, Vl.con, Vl.n, Vl.kids, q1, q2])
    refine AWp.ret ?_
    try dsimp only [thenQ, blockQ]
    apply endC.ret
    · rfl
    · conv => lhs; simp [resAV, Tryd.results116]
    · rfl
    · simp [moEnd, memGet]
  refine AWp.rg [] [] ?_ (hr := by conv => lhs; simp [Tm.row, Tm.rows_eq, Cs.rows_eq, Vl.row, Vl.rows_eq, Vl.con, Vl.n, Vl.kids, q1, q2, q3])
  refine AWp.cn ?_
  by_cases q4 : tk = 4
  · refine AWp.rg [] [] ?_ (hr := by conv => lhs; simp [Tm.row, Tm.rows_eq, Cs.rows_eq, Vl.row, Vl.rows_eq, Vl.con, Vl.n, Vl.kids, q1, q2, q3, q4])
    refine AWp.cy ?_
    subst q4
    have hxw : ∀ x ∈ txs, x.wrong (arOf l) names (deep + 1) = 0 := fun x hx => by
      obtain ⟨j, hj⟩ := List.mem_iff_getElem?.1 hx
      have := wrongs_zero h6 j x hj
      rw [if_neg (by omega)] at this
      exact this
    have ha := hAll txs env names (deep + 1) fuel hxN hxOk hxw hx6 hcov hF hf0 hf1
    rw [← hCd, ← hcd] at ha
    have hlen := evL_len true C env txs fuel
    have hfine := evL_fine (g := true) hCF hF txs fuel hxw hf0 hf1
    have hRk : R = afterL true C 4 tn ta (evL true C txs env fuel) (fun v f => evC true C v tcs env f) := by rw [hR, evT, if_neg (by omega), if_neg (by omega), if_neg (by omega)]
    clear hR
    generalize evL true C txs env fuel = o at ha hlen hfine hRk
    obtain ⟨us, f2, e2⟩ := o
    dsimp only at ha hlen hfine
    unfold afterL at hRk
    dsimp only at hRk
    rw [if_neg (by omega)] at hRk
    refine AWp.rg [] [.c [] [.ptr 1000 0, .d (.sl (txs.map Tm.row)), .d (envD env)] [(1000, .blk 84 [.d (.sl (l.map Fn.row)), .d (.int fuel), .d (.int c), .d (.int 0)])] (.d (.sl (us.map Vl.row))) [(1000, .blk 84 [.d (.sl (l.map Fn.row)), .d (.int f2), .d (.int c), .d (.int e2)])]] ?_ (hr := by conv => lhs; simp [Tm.row, Tm.rows_eq, Cs.rows_eq, Vl.row, Vl.rows_eq, Vl.con, Vl.n, Vl.kids, q1, q2, q3])
    by_cases q5 : e2 = 0
    · refine AWp.rg [] [] ?_ (hr := by conv => lhs; simp [Tm.row, Tm.rows_eq, Cs.rows_eq, Vl.row, Vl.rows_eq, Vl.con, Vl.n, Vl.kids, q1, q2, q3, q5])
      refine AWp.cn ?_
      refine AWp.skip ?_
      subst q5
      rw [if_neg (fun e => e rfl), if_pos rfl] at hRk
      have hcl := hCall ta us f2 hfine.1 (by have := hlen.1; omega) hfine.2.1 hfine.2.2
      rw [← hCd, ← hcd] at hcl
      generalize C ta us f2 = o2 at hcl hRk
      obtain ⟨⟨uc, un, uks⟩, f3, e3⟩ := o2
      subst hRk
      refine AWp.rg [] [.c [] [.ptr 1000 0, .d (.str ta), .d (.sl (us.map Vl.row))] [(1000, .blk 84 [.d (.sl (l.map Fn.row)), .d (.int f2), .d (.int c), .d (.int 0)])] (.agg [.d (.bool uc), .d (.int un), .d (.sl (uks.map Vl.row))]) [(1000, .blk 84 [.d (.sl (l.map Fn.row)), .d (.int f3), .d (.int c), .d (.int e3)])]] ?_ (hr := by conv => lhs; simp [Tm.row, Tm.rows_eq, Cs.rows_eq, Vl.row, Vl.rows_eq, Vl.con, Vl.n, Vl.kids, q1, q2, q3])
      refine AWp.ret ?_
      try dsimp only [thenQ, blockQ]
      apply endC.ret
      · rfl
      · conv => lhs; simp [resAV, Tryd.results116]
      · rfl
      · simp [moEnd, memGet]
    refine AWp.rg [] [] ?_ (hr := by conv => lhs; simp [Tm.row, Tm.rows_eq, Cs.rows_eq, Vl.row, Vl.rows_eq, Vl.con, Vl.n, Vl.kids, q1, q2, q3, q5])
    refine AWp.cy ?_
    rw [if_pos q5] at hRk
    subst hRk
    refine AWp.rg [] [] ?_ (hr := by conv => lhs; simp [Tm.row, Tm.rows_eq, Cs.rows_eq, Vl.row, Vl.rows_eq, Vl.con, Vl.n, Vl.kids, q1, q2, q3, q5])
    refine AWp.ret ?_
    try dsimp only [thenQ, blockQ]
    apply endC.ret
    · rfl
    · conv => lhs; simp [resAV, Tryd.results116]
    · rfl
    · simp [moEnd, memGet]
  refine AWp.rg [] [] ?_ (hr := by conv => lhs; simp [Tm.row, Tm.rows_eq, Cs.rows_eq, Vl.row, Vl.rows_eq, Vl.con, Vl.n, Vl.kids, q1, q2, q3, q4])
  refine AWp.cn ?_
  by_cases q6 : tk = 5
  · refine AWp.rg [] [] ?_ (hr := by conv => lhs; simp [Tm.row, Tm.rows_eq, Cs.rows_eq, Vl.row, Vl.rows_eq, Vl.con, Vl.n, Vl.kids, q1, q2, q3, q4, q6])
    refine AWp.cy ?_
    subst q6
    have hxw : ∀ x ∈ txs, x.wrong (arOf l) names (deep + 1) = 0 := fun x hx => by
      obtain ⟨j, hj⟩ := List.mem_iff_getElem?.1 hx
      have := wrongs_zero h6 j x hj
      rw [if_neg (by omega)] at this
      exact this
    have ha := hAll txs env names (deep + 1) fuel hxN hxOk hxw hx6 hcov hF hf0 hf1
    rw [← hCd, ← hcd] at ha
    have hlen := evL_len true C env txs fuel
    have hfine := evL_fine (g := true) hCF hF txs fuel hxw hf0 hf1
    have hRk : R = afterL true C 5 tn ta (evL true C txs env fuel) (fun v f => evC true C v tcs env f) := by rw [hR, evT, if_neg (by omega), if_neg (by omega), if_neg (by omega)]
    clear hR
    generalize evL true C txs env fuel = o at ha hlen hfine hRk
    obtain ⟨us, f2, e2⟩ := o
    dsimp only at ha hlen hfine
    unfold afterL at hRk
    dsimp only at hRk
    rw [if_neg (by omega)] at hRk
    refine AWp.rg [] [.c [] [.ptr 1000 0, .d (.sl (txs.map Tm.row)), .d (envD env)] [(1000, .blk 84 [.d (.sl (l.map Fn.row)), .d (.int fuel), .d (.int c), .d (.int 0)])] (.d (.sl (us.map Vl.row))) [(1000, .blk 84 [.d (.sl (l.map Fn.row)), .d (.int f2), .d (.int c), .d (.int e2)])]] ?_ (hr := by conv => lhs; simp [Tm.row, Tm.rows_eq, Cs.rows_eq, Vl.row, Vl.rows_eq, Vl.con, Vl.n, Vl.kids, q1, q2, q3, q4])
    by_cases q7 : e2 = 0
    · refine AWp.rg [] [] ?_ (hr := by conv => lhs; simp [Tm.row, Tm.rows_eq, Cs.rows_eq, Vl.row, Vl.rows_eq, Vl.con, Vl.n, Vl.kids, q1, q2, q3, q4, q7])
      refine AWp.cn ?_
      refine AWp.skip ?_
      subst q7
      rw [if_neg (fun e => e rfl), if_neg (by omega), if_pos rfl] at hRk
      have hx2 : txs.length = 2 := by
        have h4' := h4
        unfold manyB at h4'
        simp at h4'
        omega
      have hu2 : us.length = 2 := by rw [hlen.2 rfl, hx2]
      obtain ⟨y, z, hus⟩ : ∃ y z, us = [y, z] := by
        match us, hu2 with
        | [y, z], _ => exact ⟨y, z, rfl⟩
      have hu0 : us[0]? = some y := by rw [hus]; rfl
      have hu0h : us.head? = some y := by rw [hus]; rfl
      have hu1 : us[1]? = some z := by rw [hus]; rfl
      rw [show us.getD 0 zeroV = y by rw [hus]; rfl, show us.getD 1 zeroV = z by rw [hus]; rfl] at hRk
      clear hus
      obtain ⟨yc, yn, yks⟩ := y
      obtain ⟨zc, zn, zks⟩ := z
      cases yc with
      | true =>
        refine AWp.rg [] [] ?_ (hr := by conv => lhs; simp [Tm.row, Tm.rows_eq, Cs.rows_eq, Vl.row, Vl.rows_eq, Vl.con, Vl.n, Vl.kids, hu0, hu1, hu0h, q1, q2, q3, q4])
        refine AWp.cy ?_
        rw [primR_con rfl] at hRk
        subst hRk
        have hf8 := cs_fail l f2 c 10
        refine AWp.rg [] [.c [] [.ptr 1000 0, .d (.int 10)] [(1000, .blk 84 [.d (.sl (l.map Fn.row)), .d (.int f2), .d (.int c), .d (.int 0)])] (vlAV zeroV) [(1000, .blk 84 [.d (.sl (l.map Fn.row)), .d (.int f2), .d (.int c), .d (.int 10)])]] ?_ (hr := by conv => lhs; simp [Tm.row, Tm.rows_eq, Cs.rows_eq, Vl.row, Vl.rows_eq, Vl.con, Vl.n, Vl.kids, hu0, hu1, hu0h, q1, q2, q3, q4])
        refine AWp.ret ?_
        try dsimp only [thenQ, blockQ]
        apply endC.ret
        · rfl
        · conv => lhs; simp [resAV, Tryd.results116]
        · rfl
        · simp [moEnd, memGet]
      | false =>
        cases zc with
        | true =>
          refine AWp.rg [] [] ?_ (hr := by conv => lhs; simp [Tm.row, Tm.rows_eq, Cs.rows_eq, Vl.row, Vl.rows_eq, Vl.con, Vl.n, Vl.kids, hu0, hu1, hu0h, q1, q2, q3, q4])
          refine AWp.cy ?_
          rw [primR_con rfl] at hRk
          subst hRk
          have hf9 := cs_fail l f2 c 10
          refine AWp.rg [] [.c [] [.ptr 1000 0, .d (.int 10)] [(1000, .blk 84 [.d (.sl (l.map Fn.row)), .d (.int f2), .d (.int c), .d (.int 0)])] (vlAV zeroV) [(1000, .blk 84 [.d (.sl (l.map Fn.row)), .d (.int f2), .d (.int c), .d (.int 10)])]] ?_ (hr := by conv => lhs; simp [Tm.row, Tm.rows_eq, Cs.rows_eq, Vl.row, Vl.rows_eq, Vl.con, Vl.n, Vl.kids, hu0, hu1, hu0h, q1, q2, q3, q4])
          refine AWp.ret ?_
          try dsimp only [thenQ, blockQ]
          apply endC.ret
          · rfl
          · conv => lhs; simp [resAV, Tryd.results116]
          · rfl
          · simp [moEnd, memGet]
        | false =>
          refine AWp.rg [] [] ?_ (hr := by conv => lhs; simp [Tm.row, Tm.rows_eq, Cs.rows_eq, Vl.row, Vl.rows_eq, Vl.con, Vl.n, Vl.kids, hu0, hu1, hu0h, q1, q2, q3, q4])
          refine AWp.cn ?_
          refine AWp.skip ?_
          rw [primR_num] at hRk
          have hpr := sp_evPrim tn yn zn
          generalize primV tn yn zn = o2 at hpr hRk
          obtain ⟨⟨rc, rn, rks⟩, w⟩ := o2
          dsimp only at hpr hRk
          refine AWp.dw [] [.p (fun _ => .tuple [.agg [.d (.bool rc), .d (.int rn), .d (.sl (rks.map Vl.row))], .d (.int w)]) none] mixed ?_ (hr := by conv => lhs; simp [Tm.row, Tm.rows_eq, Cs.rows_eq, Vl.row, Vl.rows_eq, Vl.con, Vl.n, Vl.kids, hu0, hu1, hu0h, q1, q2, q3, q4])
          by_cases q10 : w = 0
          · refine AWp.rg [] [] ?_ (hr := by conv => lhs; simp [Tm.row, Tm.rows_eq, Cs.rows_eq, Vl.row, Vl.rows_eq, Vl.con, Vl.n, Vl.kids, hu0, hu1, hu0h, q1, q2, q3, q4, q10])
            refine AWp.cn ?_
            refine AWp.skip ?_
            subst q10
            rw [if_neg (fun e => e rfl)] at hRk
            subst hRk
            refine AWp.rg [] [] ?_ (hr := by conv => lhs; simp [Tm.row, Tm.rows_eq, Cs.rows_eq, Vl.row, Vl.rows_eq, Vl.con, Vl.n, Vl.kids, hu0, hu1, hu0h, q1, q2, q3, q4])
            refine AWp.ret ?_
            try dsimp only [thenQ, blockQ]
            apply endC.ret
            · rfl
            · conv => lhs; simp [resAV, Tryd.results116]
            · rfl
            · simp [moEnd, memGet]
          refine AWp.rg [] [] ?_ (hr := by conv => lhs; simp [Tm.row, Tm.rows_eq, Cs.rows_eq, Vl.row, Vl.rows_eq, Vl.con, Vl.n, Vl.kids, hu0, hu1, hu0h, q1, q2, q3, q4, q10])
          refine AWp.cy ?_
          rw [if_pos q10] at hRk
          subst hRk
          have hf11 := cs_fail l f2 c w
          refine AWp.rg [] [.c [] [.ptr 1000 0, .d (.int w)] [(1000, .blk 84 [.d (.sl (l.map Fn.row)), .d (.int f2), .d (.int c), .d (.int 0)])] (vlAV zeroV) [(1000, .blk 84 [.d (.sl (l.map Fn.row)), .d (.int f2), .d (.int c), .d (.int w)])]] ?_ (hr := by conv => lhs; simp [Tm.row, Tm.rows_eq, Cs.rows_eq, Vl.row, Vl.rows_eq, Vl.con, Vl.n, Vl.kids, hu0, hu1, hu0h, q1, q2, q3, q4, q10])
          refine AWp.ret ?_
          try dsimp only [thenQ, blockQ]
          apply endC.ret
          · rfl
          · conv => lhs; simp [resAV, Tryd.results116]
          · rfl
          · simp [moEnd, memGet]
    refine AWp.rg [] [] ?_ (hr := by conv => lhs; simp [Tm.row, Tm.rows_eq, Cs.rows_eq, Vl.row, Vl.rows_eq, Vl.con, Vl.n, Vl.kids, q1, q2, q3, q4, q7])
    refine AWp.cy ?_
    rw [if_pos q7] at hRk
    subst hRk
    refine AWp.rg [] [] ?_ (hr := by conv => lhs; simp [Tm.row, Tm.rows_eq, Cs.rows_eq, Vl.row, Vl.rows_eq, Vl.con, Vl.n, Vl.kids, q1, q2, q3, q4, q7])
    refine AWp.ret ?_
    try dsimp only [thenQ, blockQ]
    apply endC.ret
    · rfl
    · conv => lhs; simp [resAV, Tryd.results116]
    · rfl
    · simp [moEnd, memGet]
  refine AWp.rg [] [] ?_ (hr := by conv => lhs; simp [Tm.row, Tm.rows_eq, Cs.rows_eq, Vl.row, Vl.rows_eq, Vl.con, Vl.n, Vl.kids, q1, q2, q3, q4, q6])
  refine AWp.cn ?_
  by_cases q12 : tk = 6
  · refine AWp.rg [] [] ?_ (hr := by conv => lhs; simp [Tm.row, Tm.rows_eq, Cs.rows_eq, Vl.row, Vl.rows_eq, Vl.con, Vl.n, Vl.kids, q1, q2, q3, q4, q6, q12])
    refine AWp.cy ?_
    subst q12
    have hx2 : txs.length = 2 := by
      have h4' := h4
      unfold manyB at h4'
      simp at h4'
      omega
    obtain ⟨y, z, hxs⟩ : ∃ y z, txs = [y, z] := by
      match txs, hx2 with
      | [y, z], _ => exact ⟨y, z, rfl⟩
    have hu0 : txs[0]? = some y := by rw [hxs]; rfl
    have hu0h : txs.head? = some y := by rw [hxs]; rfl
    have hu1 : txs[1]? = some z := by rw [hxs]; rfl
    have hw0 := wrongs_zero h6 0 y hu0
    have hw1 := wrongs_zero h6 1 z hu1
    rw [if_neg (by omega)] at hw0
    rw [if_pos (by omega)] at hw1
    have hy := hxN y (List.mem_of_getElem? hu0)
    have hz := hxN z (List.mem_of_getElem? hu1)
    have ha := ih y env names (deep + 1) fuel hy (hxOk y (List.mem_of_getElem? hu0)) hw0 hcov hF hf0 hf1
    rw [← hCd, ← hcd] at ha
    have hfine := evT_fine (g := true) hCF _ y env names (deep + 1) fuel (Nat.lt_succ_self _) hw0 hF hf0 hf1
    have hRk : R = evLet true C ta [y, z] env fuel := by rw [hR, evT, if_neg (by omega), if_neg (by omega), if_pos rfl, hxs]
    clear hR
    rw [evLet, evIn] at hRk
    generalize evT true C y env fuel = o at ha hfine hRk
    obtain ⟨v, f2, e2⟩ := o
    dsimp only at ha hfine hRk
    have hzz := ih z ((ta, v) :: env) (names ++ [ta]) (deep + 1) f2 hz (hxOk z (List.mem_of_getElem? hu1)) hw1 (hcov.cons ta v) (hF.cons hfine.1 ta) hfine.2.1 hfine.2.2
    rw [← hCd, ← hcd] at hzz
    obtain ⟨yk, yn, ya, yb, yvs, yxs, ycs⟩ := y
    obtain ⟨vc, vn, vks⟩ := v
    refine AWp.rg [] [.c [] [.ptr 1000 0, .agg [.d (.int yk), .d (.int yn), .d (.str ya), .d (.str yb), .d (strsD yvs), .d (.sl (yxs.map Tm.row)), .d (.sl (ycs.map Cs.row))], .d (envD env)] [(1000, .blk 84 [.d (.sl (l.map Fn.row)), .d (.int fuel), .d (.int c), .d (.int 0)])] (.agg [.d (.bool vc), .d (.int vn), .d (.sl (vks.map Vl.row))]) [(1000, .blk 84 [.d (.sl (l.map Fn.row)), .d (.int f2), .d (.int c), .d (.int e2)])]] ?_ (hr := by conv => lhs; simp [Tm.row, Tm.rows_eq, Cs.rows_eq, Vl.row, Vl.rows_eq, Vl.con, Vl.n, Vl.kids, hu0, hu1, hu0h, q1, q2, q3, q4, q6])
    by_cases q0 : e2 = 0
    · subst q0
      rw [if_neg (fun e => e rfl)] at hRk
      generalize evT true C z ((ta, Vl.mk vc vn vks) :: env) f2 = o2 at hzz hRk
      obtain ⟨⟨uc, un, uks⟩, f3, e3⟩ := o2
      subst hRk
      simp only [envD, Vl.row, Vl.rows_eq, List.cons_append, List.nil_append] at hzz
      obtain ⟨zk, zn, za, zb, zvs, zxs, zcs⟩ := z
      refine AWp.dw [10] [.c [] [.ptr 1000 0, .agg [.d (.int zk), .d (.int zn), .d (.str za), .d (.str zb), .d (strsD zvs), .d (.sl (zxs.map Tm.row)), .d (.sl (zcs.map Cs.row))], .d (.ptr [.str ta, .bool vc, .int vn, .sl (vks.map Vl.row), envD env])] [(1000, .blk 84 [.d (.sl (l.map Fn.row)), .d (.int f2), .d (.int c), .d (.int 0)])] (.agg [.d (.bool uc), .d (.int un), .d (.sl (uks.map Vl.row))]) [(1000, .blk 84 [.d (.sl (l.map Fn.row)), .d (.int f3), .d (.int c), .d (.int e3)])]] mixed ?_ (hr := by conv => lhs; simp [Tm.row, Tm.rows_eq, Cs.rows_eq, Vl.row, Vl.rows_eq, Vl.con, Vl.n, Vl.kids, hu0, hu1, hu0h, q1, q2, q3, q4, q6])
      refine AWp.ret ?_
      try dsimp only [thenQ, blockQ]
      apply endC.ret
      · rfl
      · conv => lhs; simp [resAV, Tryd.results116]
      · rfl
      · simp [moEnd, memGet]
    rw [if_pos q0] at hRk
    subst hRk
    clear hzz
    have hzz := cs_term_err l z ((ta, Vl.mk vc vn vks) :: env) f2 c e2 q0
    simp only [envD, Vl.row, Vl.rows_eq, List.cons_append, List.nil_append] at hzz
    obtain ⟨zk, zn, za, zb, zvs, zxs, zcs⟩ := z
    refine AWp.dw [10] [.c [] [.ptr 1000 0, .agg [.d (.int zk), .d (.int zn), .d (.str za), .d (.str zb), .d (strsD zvs), .d (.sl (zxs.map Tm.row)), .d (.sl (zcs.map Cs.row))], .d (.ptr [.str ta, .bool vc, .int vn, .sl (vks.map Vl.row), envD env])] [(1000, .blk 84 [.d (.sl (l.map Fn.row)), .d (.int f2), .d (.int c), .d (.int e2)])] (.agg [.d (.bool false), .d (.int 0), .d (.sl (([] : List Vl).map Vl.row))]) [(1000, .blk 84 [.d (.sl (l.map Fn.row)), .d (.int f2), .d (.int c), .d (.int e2)])]] mixed ?_ (hr := by conv => lhs; simp [Tm.row, Tm.rows_eq, Cs.rows_eq, Vl.row, Vl.rows_eq, Vl.con, Vl.n, Vl.kids, hu0, hu1, hu0h, q1, q2, q3, q4, q6, q0])
    refine AWp.ret ?_
    try dsimp only [thenQ, blockQ]
    apply endC.ret
    · rfl
    · conv => lhs; simp [resAV, Tryd.results116]
    · rfl
    · simp [moEnd, memGet]
  refine AWp.rg [] [] ?_ (hr := by conv => lhs; simp [Tm.row, Tm.rows_eq, Cs.rows_eq, Vl.row, Vl.rows_eq, Vl.con, Vl.n, Vl.kids, q1, q2, q3, q4, q6, q12])
  refine AWp.cn ?_
  by_cases q13 : tk = 7
  · refine AWp.rg [] [] ?_ (hr := by conv => lhs; simp [Tm.row, Tm.rows_eq, Cs.rows_eq, Vl.row, Vl.rows_eq, Vl.con, Vl.n, Vl.kids, q1, q2, q3, q4, q6, q12, q13])
    refine AWp.cy ?_
    subst q13
    have hx1 : txs.length = 1 := by
      have h4' := h4
      unfold manyB at h4'
      simp at h4'
      omega
    obtain ⟨y, hxs⟩ : ∃ y, txs = [y] := by
      match txs, hx1 with
      | [y], _ => exact ⟨y, rfl⟩
    have hu0 : txs[0]? = some y := by rw [hxs]; rfl
    have hu0h : txs.head? = some y := by rw [hxs]; rfl
    have hw0 := wrongs_zero h6 0 y hu0
    rw [if_neg (by omega)] at hw0
    have hy := hxN y (List.mem_of_getElem? hu0)
    have ha := ih y env names (deep + 1) fuel hy (hxOk y (List.mem_of_getElem? hu0)) hw0 hcov hF hf0 hf1
    rw [← hCd, ← hcd] at ha
    have hfine := evT_fine (g := true) hCF _ y env names (deep + 1) fuel (Nat.lt_succ_self _) hw0 hF hf0 hf1
    have hRk : R = afterL true C 7 tn ta (evL true C [y] env fuel) (fun v f => evC true C v tcs env f) := by rw [hR, evT, if_neg (by omega), if_neg (by omega), if_neg (by omega), hxs]
    clear hR
    rw [evL_one] at hRk
    generalize evT true C y env fuel = o at ha hfine hRk
    obtain ⟨v, f2, e2⟩ := o
    dsimp only at ha hfine hRk
    unfold afterL at hRk
    dsimp only at hRk
    rw [if_neg (by omega)] at hRk
    have hm := fun he : e2 = 0 => hMatch v tcs env names (deep + 1) f2 (fun t ws b hb => by
      have h8 := cwrongs_zero (h7 rfl).2.2 hb
      exact ⟨by have := Tm.sz_case (k := 7) (n := tn) (a := ta) (b := tb) (vs := tvs) (xs := txs) hb; omega, (Cs.Oks_iff.1 hO.2.2.2 _ hb).2.2, h8.2.2.2.2.1, h8.2.2.2.2.2⟩) (by have := (h7 rfl).2.1; omega) hfine.1 hcov hF hfine.2.1 hfine.2.2
    rw [← hCd, ← hcd] at hm
    obtain ⟨yk, yn, ya, yb, yvs, yxs, ycs⟩ := y
    obtain ⟨vc, vn, vks⟩ := v
    refine AWp.rg [] [.c [] [.ptr 1000 0, .agg [.d (.int yk), .d (.int yn), .d (.str ya), .d (.str yb), .d (strsD yvs), .d (.sl (yxs.map Tm.row)), .d (.sl (ycs.map Cs.row))], .d (envD env)] [(1000, .blk 84 [.d (.sl (l.map Fn.row)), .d (.int fuel), .d (.int c), .d (.int 0)])] (.agg [.d (.bool vc), .d (.int vn), .d (.sl (vks.map Vl.row))]) [(1000, .blk 84 [.d (.sl (l.map Fn.row)), .d (.int f2), .d (.int c), .d (.int e2)])]] ?_ (hr := by conv => lhs; simp [Tm.row, Tm.rows_eq, Cs.rows_eq, Vl.row, Vl.rows_eq, Vl.con, Vl.n, Vl.kids, hu0, hu0h, q1, q2, q3, q4, q6, q12])
    by_cases q14 : e2 = 0
    · refine AWp.rg [] [] ?_ (hr := by conv => lhs; simp [Tm.row, Tm.rows_eq, Cs.rows_eq, Vl.row, Vl.rows_eq, Vl.con, Vl.n, Vl.kids, hu0, hu0h, q1, q2, q3, q4, q6, q12, q14])
      refine AWp.cn ?_
      refine AWp.skip ?_
      subst q14
      rw [if_neg (fun e => e rfl), if_neg (by omega), if_neg (by omega)] at hRk
      have hm := hm rfl
      unfold mOut at hm
      change R = (if (Vl.mk vc vn vks).con = true then evC true C (Vl.mk vc vn vks) tcs env f2 else (zeroV, f2, 10)) at hRk
      rw [← hRk] at hm
      clear hRk
      obtain ⟨⟨uc, un, uks⟩, f3, e3⟩ := R
      refine AWp.rg [] [.c [] [.ptr 1000 0, .agg [.d (.bool vc), .d (.int vn), .d (.sl (vks.map Vl.row))], .d (.sl (tcs.map Cs.row)), .d (envD env)] [(1000, .blk 84 [.d (.sl (l.map Fn.row)), .d (.int f2), .d (.int c), .d (.int 0)])] (.agg [.d (.bool uc), .d (.int un), .d (.sl (uks.map Vl.row))]) [(1000, .blk 84 [.d (.sl (l.map Fn.row)), .d (.int f3), .d (.int c), .d (.int e3)])]] ?_ (hr := by conv => lhs; simp [Tm.row, Tm.rows_eq, Cs.rows_eq, Vl.row, Vl.rows_eq, Vl.con, Vl.n, Vl.kids, hu0, hu0h, q1, q2, q3, q4, q6, q12])
      refine AWp.ret ?_
      try dsimp only [thenQ, blockQ]
      apply endC.ret
      · rfl
      · conv => lhs; simp [resAV, Tryd.results116]
      · rfl
      · simp [moEnd, memGet]
    refine AWp.rg [] [] ?_ (hr := by conv => lhs; simp [Tm.row, Tm.rows_eq, Cs.rows_eq, Vl.row, Vl.rows_eq, Vl.con, Vl.n, Vl.kids, hu0, hu0h, q1, q2, q3, q4, q6, q12, q14])
    refine AWp.cy ?_
    rw [if_pos q14] at hRk
    subst hRk
    refine AWp.rg [] [] ?_ (hr := by conv => lhs; simp [Tm.row, Tm.rows_eq, Cs.rows_eq, Vl.row, Vl.rows_eq, Vl.con, Vl.n, Vl.kids, hu0, hu0h, q1, q2, q3, q4, q6, q12, q14])
    refine AWp.ret ?_
    try dsimp only [thenQ, blockQ]
    apply endC.ret
    · rfl
    · conv => lhs; simp [resAV, Tryd.results116]
    · rfl
    · simp [moEnd, memGet]
  exfalso
  omega
end Go.Proofs.YtapiiklnnkkdlaaDoor
