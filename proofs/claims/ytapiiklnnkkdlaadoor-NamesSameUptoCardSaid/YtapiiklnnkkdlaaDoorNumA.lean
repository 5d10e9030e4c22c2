import Derived.Test.YtapiiklnnkkdlaaDoorEvalD
import Derived.Test.YtapiiklnnkkdlaaDoorWrongN
import Derived.Test.YtapiiklnnkkdlaaDoorFreeD
import Derived.Test.YtapiiklnnkkdlaaDoorNameB
import Derived.Lib.AtoiAll
import Derived.Lib.AtoiAllCases
import Derived.Lib.AtoiErrMem
/- The program's evaluator put together; eval.Run. Printed by a small program. -/
namespace Go.Proofs.YtapiiklnnkkdlaaDoor
open Go.RowKit
attribute [local simp] runD mkRc ldOf stOf stOk ldArg noAny dstOk guardOk opEff opEff0 effOp pureOp callOp zEff evA constAV scalAV Value.oneCell' frGet memGet startAS frOf isGoCall idIn AS.after nextR opnIds objIds AV.ids idsL AObj.ids frNo memNo opnAny isAny mkVal rdCells wrCells fldAddr idxAddr srcRows litRows toD1 toDs setAt sliceAV optI partAV bldAV fillAV binAV binI AV.cells callEff calleeOf frKill memKill AV.kill AObj.kill AV.has AV.hasL Op.operands Call.operands keepF keepM viewIds cChk renOf moGet moWs moQ cEff moLike moHave AV.ren renL AObj.ren AObj.like kept startC moMem AV.frz frz1 frzL frSub memSub frzs AS.frz frFrz memFrz AObj.frz takeMap takeLen bleF Nat.ble_eq memAny objAny mapOp D.keyOk rowAV valRow extOp wrapOp phO frLow memLow memLow1 objLow memEmpty Low LowL
set_option linter.unusedVariables false
set_option linter.unusedSimpArgs false
theorem eval_all {l : List Fn} (hl : l.length ≤ 879609302220) (hok : ∀ x ∈ l, x.body.Ok) (hr : ∀ x ∈ l, x.Fit (arOf l)) : ∀ n, n ≤ 40 → CallE l n ∧ ∀ N, TermE l n N := by
  intro n
  induction n with
  | zero =>
    intro h
    have hC : CallE l 0 := ev_call_step l 0 hl hok hr h fun k hk => by omega
    refine ⟨hC, fun N => ?_⟩
    induction N with
    | zero => intro t env names deep fuel hN; omega
    | succ N ih => exact ev_term_step l 0 N (evCall_fine true hr 0) ih (ev_all_step l 0 N (evCall_fine true hr 0) ih) (ev_match_step l 0 N ih) hC
  | succ n ihn =>
    intro h
    have hC : CallE l (n + 1) := ev_call_step l (n + 1) hl hok hr h fun k hk => by
      obtain rfl : k = n := by omega
      exact (ihn (by omega)).2
    refine ⟨hC, fun N => ?_⟩
    induction N with
    | zero => intro t env names deep fuel hN; omega
    | succ N ih => exact ev_term_step l (n + 1) N (evCall_fine true hr (n + 1)) ih (ev_all_step l (n + 1) N (evCall_fine true hr (n + 1)) ih) (ev_match_step l (n + 1) N ih) hC
def intR (n : Int) : List D := [.int n]
abbrev intsAV (l : List Int) : AV := .d (.sl (l.map intR))
def argV (n : Int) : Vl := .mk false (wr32 n) []
theorem argV_fine (n : Int) : (argV n).Fine := ⟨wr32_in n, Nat.zero_le _, trivial⟩
noncomputable def runE (g : Bool) (l : List Fn) (name : ByteArray) (args : List Int) (fuel : Int) : Vl × Int :=
  if fuel < 0 ∨ 300 < fuel then (zeroV, 3) else if (evCall g l 40 name (args.map argV) fuel).2.2 ≠ 0 then (zeroV, (evCall g l 40 name (args.map argV) fuel).2.2)
  else if 0 ≤ (evCall g l 40 name (args.map argV) fuel).1.left 1000 then ((evCall g l 40 name (args.map argV) fuel).1, 0) else (zeroV, 4)
set_option maxRecDepth 20000 in
set_option maxHeartbeats 16000000 in
theorem sp_evRun (l : List Fn) (name : ByteArray) (args : List Int) (fuel : Int) (hl : l.length ≤ 879609302220) (hok : ∀ x ∈ l, x.body.Ok) (hr : ∀ x ∈ l, x.Fit (arOf l)) (ha : args.length ≤ 1048576) : PSpec Tryd.prog 30 [fnsAV l, .d (.str name), intsAV args, .d (.int fuel)] (fun _ => .tuple [vlP (runE true l name args fuel).1, .d (.int (runE true l name args fuel).2)]) none := by
  obtain ⟨R, hR⟩ : ∃ R, R = runE true l name args fuel := ⟨_, rfl⟩
  rw [← hR]
  unfold runE at hR
  obtain ⟨vs, hvs⟩ : ∃ vs, vs = args.map argV := ⟨_, rfl⟩
  refine PSpec.of Tryd.func30 rfl rfl rfl (Nat.le_of_ble_eq_true rfl) ?_
  show AWp _ _ (endQ _ Tryd.f30 _ _ _) (startAS 69 _)
  refine AWp.rg [] [] ?_ (hr := by conv => lhs; simp [Vl.row, Vl.rows_eq])
  by_cases q1 : fuel < 0
  · refine AWp.rg [] [] ?_ (hr := by conv => lhs; simp [Vl.row, Vl.rows_eq, q1])
    refine AWp.cy ?_
    rw [if_pos (by omega)] at hR
    subst hR
    refine AWp.rg [] [] ?_ (hr := by conv => lhs; simp [Vl.row, Vl.rows_eq, q1])
    refine AWp.ret ?_
    try dsimp only [thenQ, blockQ]
    apply endQ.ret
    · rfl
    · conv => lhs; simp [resAV, Tryd.results30]
    · rfl
  by_cases q2 : 300 < fuel
  · refine AWp.rg [] [] ?_ (hr := by conv => lhs; simp [Vl.row, Vl.rows_eq, q1, q2])
    refine AWp.cy ?_
    rw [if_pos (by omega)] at hR
    subst hR
    refine AWp.rg [] [] ?_ (hr := by conv => lhs; simp [Vl.row, Vl.rows_eq, q1, q2])
    refine AWp.ret ?_
    try dsimp only [thenQ, blockQ]
    apply endQ.ret
    · rfl
    · conv => lhs; simp [resAV, Tryd.results30]
    · rfl
  refine AWp.rg [] [] ?_ (hr := by conv => lhs; simp [Vl.row, Vl.rows_eq, q1, q2])
  refine AWp.cn ?_
  refine AWp.skip ?_
  have hfu : ¬ (fuel < 0 ∨ 300 < fuel) := by omega
  rw [if_neg hfu] at hR
  refine AWp.rg [] [] ?_ (hr := by conv => lhs; simp [Vl.row, Vl.rows_eq, q1, q2])
  refine AWp.rg [] [] ?_ (hr := by conv => lhs; simp [Vl.row, Vl.rows_eq, q1, q2])
  refine AWp.rg [] [] ?_ (hr := by conv => lhs; simp [Vl.row, Vl.rows_eq, q1, q2])
  repeat (first | refine AWp.seq ?_ | refine AWp.block ?_)
  refine AWp.le (Le.low [400] [] (fr := [(1, .d (.str name)), (8, .ptr 8 0), (10, .ptr 25 0), (11, .arr 400 0 0), (26, .d (.sl (args.map intR))), (27, .d (.int (args.length : Int))), (28, .d (.int 0))]) (mem := [(8, some (.blk 47 [.d (.bool false), .d (.int 0), .lit (.slice none 0 0)])), (25, some (.blk 84 [.d (.sl (l.map Fn.row)), .d (.int fuel), .d (.int 0), .d (.int 0)])), (400, some (.arr 47 3 ((vs.map Vl.row).take 0)))]) rfl (by simp [intR]) (by simp [intR])) ?_
  refine AWp.loop (σ := fun u : {u : Nat // u ≤ args.length} => ⟨69, [(1, .d (.str name)), (8, .ptr 8 0), (10, .ptr 25 0), (11, .arr 400 0 u.1), (26, .d (.sl (args.map intR))), (27, .d (.int (args.length : Int))), (28, .d (.int u.1))], [(8, some (.blk 47 [.d (.bool false), .d (.int 0), .lit (.slice none 0 0)])), (25, some (.blk 84 [.d (.sl (l.map Fn.row)), .d (.int fuel), .d (.int 0), .d (.int 0)])), (400, some (.arr 47 3 ((vs.map Vl.row).take u.1)))]⟩)
    (μ := fun u => args.length - u.1) ⟨0, Nat.zero_le _⟩ (Le.sub (by simp [intR]) (by simp [intR])) (fun ⟨i, hi6⟩ => ?_)
  dsimp only
  refine AWp.rg [] [] ?_ (hr := by conv => lhs; simp [Vl.row, Vl.rows_eq, q1, q2])
  repeat (first | refine AWp.seq ?_ | refine AWp.block ?_)
  refine AWp.cond rfl (fun hc => ?_) (fun hc => ?_)
  · have hi1 : i < args.length := by have := of_decide_eq_true hc; omega
    clear hc
    have h1x : args[i]? = some args[i] := List.getElem?_eq_getElem hi1
    have hmx : args[i] ∈ args := List.getElem_mem hi1
    have hdx : args.drop i = args[i] :: args.drop (i + 1) := List.drop_eq_getElem_cons hi1
    generalize args[i] = x at h1x hmx hdx
    have hvi : vs[i]? = some (argV x) := by rw [hvs, List.getElem?_map, h1x]; rfl
    have hti : (vs.map Vl.row).take (i + 1) = (vs.map Vl.row).take i ++ [(argV x).row] := by rw [List.take_add_one, List.getElem?_map, hvi]; rfl
    have hw32 := inI_wr32 x
    have hvl : vs.length = args.length := by rw [hvs, List.length_map]
    have hmn : min i vs.length = i := Nat.min_eq_left (by omega)
    refine AWp.skip ?_
    refine AWp.rg [] [] ?_ (hr := by conv => lhs; simp [Vl.row, Vl.rows_eq, h1x, intR, q1, q2])
    refine AWp.rg [] [] ?_ (hr := by conv => lhs; simp [Vl.row, Vl.rows_eq, h1x, intR, q1, q2])
    refine AWp.rg [] [] ?_ (hr := by conv => lhs; simp [Vl.row, Vl.rows_eq, h1x, intR, q1, q2])
    refine ⟨⟨i + 1, hi1⟩, by simp; omega, ?_⟩
    dsimp only
    rw [hti]
    exact Le.sub (by simp [argV, Vl.row, Vl.rows_eq, hmn]) (by simp [argV, Vl.row, Vl.rows_eq, hmn])
  have hi1 : i = args.length := by have := of_decide_eq_false hc; omega
  subst hi1
  clear hc
  rw [show args.length = vs.length by rw [hvs, List.length_map], takeMap]
  refine AWp.exit ?_
  apply AWp.frzs [400]
  · conv => lhs; simp
  have hx := (eval_all hl hok hr 40 (Nat.le_refl _)).1 name vs fuel (fun v hv => by rw [hvs] at hv; obtain ⟨n, _, rfl⟩ := List.mem_map.1 hv; exact argV_fine n) (by rw [hvs, List.length_map]; exact ha) (by omega) (by omega)
  have hfn := evCall_fine true hr 40 name vs fuel (fun v hv => by rw [hvs] at hv; obtain ⟨n, _, rfl⟩ := List.mem_map.1 hv; exact argV_fine n) (by omega) (by omega)
  rw [show (40 : Int) - ((40 : Nat) : Int) = 0 by omega] at hx
  obtain ⟨c2, hc2⟩ : ∃ c2 : Int, c2 = 0 := ⟨_, rfl⟩
  rw [← hvs] at hR
  generalize evCall true l 40 name vs fuel = o at hx hR hfn
  obtain ⟨v, f2, e⟩ := o
  dsimp only at hx hR hfn
  have hvo := hfn.1.ok
  have hfw := sp_Few v hvo
  have how := sp_evOwn v hvo
  obtain ⟨B, hB⟩ : ∃ B, B = decide (0 ≤ v.left 1000) := ⟨_, rfl⟩
  rw [← hB] at hfw
  have hBt : B = true → R = (if e ≠ 0 then (zeroV, e) else (v, 0)) := fun h => by rw [h] at hB; rw [hR, if_pos (of_decide_eq_true hB.symm)]
  have hBf : B = false → R = (if e ≠ 0 then (zeroV, e) else (zeroV, 4)) := fun h => by rw [h] at hB; rw [hR, if_neg (of_decide_eq_false hB.symm)]
  clear hB hR
  obtain ⟨vc, vn, vks⟩ := v
  refine AWp.rg [] [.c [(1000, 25)] [.ptr 1000 0, .d (.str name), .d (.sl (vs.map Vl.row))] [(1000, .blk 84 [.d (.sl (l.map Fn.row)), .d (.int fuel), .d (.int 0), .d (.int 0)])] (.agg [.d (.bool vc), .d (.int vn), .d (.sl (vks.map Vl.row))]) [(1000, .blk 84 [.d (.sl (l.map Fn.row)), .d (.int f2), .d (.int 0), .d (.int e)])]] ?_ (hr := by conv => lhs; simp [Vl.row, Vl.rows_eq, q1, q2])
  by_cases q3 : e = 0
  · cases B with
    | true =>
      refine AWp.rg [] [.p (fun _ => .d (.bool true)) none] ?_ (hr := by conv => lhs; simp [Vl.row, Vl.rows_eq, q1, q2, q3])
      refine AWp.cn ?_
      refine AWp.skip ?_
      refine AWp.rg [] [] ?_ (hr := by conv => lhs; simp [Vl.row, Vl.rows_eq, q1, q2, q3])
      refine AWp.cn ?_
      refine AWp.skip ?_
      subst q3
      obtain rfl := hBt rfl
      rw [if_neg (fun e => e rfl)]
      refine AWp.rg [] [.p (fun _ => .agg [.d (.bool vc), .d (.int vn), .d (.sl (vks.map Vl.row))]) none] ?_ (hr := by conv => lhs; simp [Vl.row, Vl.rows_eq, q1, q2])
      refine AWp.ret ?_
      try dsimp only [thenQ, blockQ]
      apply endQ.ret
      · rfl
      · conv => lhs; simp [resAV, Tryd.results30]
      · rfl
    | false =>
      refine AWp.rg [] [.p (fun _ => .d (.bool false)) none] ?_ (hr := by conv => lhs; simp [Vl.row, Vl.rows_eq, q1, q2, q3])
      refine AWp.cy ?_
      refine AWp.rg [] [] ?_ (hr := by conv => lhs; simp [Vl.row, Vl.rows_eq, q1, q2, q3])
      refine AWp.rg [] [] ?_ (hr := by conv => lhs; simp [Vl.row, Vl.rows_eq, q1, q2, q3])
      refine AWp.cy ?_
      subst q3
      obtain rfl := hBf rfl
      rw [if_neg (fun e => e rfl)]
      refine AWp.dw [] [] mixed ?_ (hr := by conv => lhs; simp [Vl.row, Vl.rows_eq, q1, q2])
      refine AWp.ret ?_
      try dsimp only [thenQ, blockQ]
      apply endQ.ret
      · rfl
      · conv => lhs; simp [resAV, Tryd.results30]
      · rfl
  refine AWp.rg [] [] ?_ (hr := by conv => lhs; simp [Vl.row, Vl.rows_eq, q1, q2, q3])
  refine AWp.cn ?_
  refine AWp.skip ?_
  refine AWp.rg [] [] ?_ (hr := by conv => lhs; simp [Vl.row, Vl.rows_eq, q1, q2, q3])
  refine AWp.cy ?_
  obtain rfl : R = (zeroV, e) := by
    cases B with
    | true => rw [hBt rfl, if_pos q3]
    | false => rw [hBf rfl, if_pos q3]
  refine AWp.dw [] [] mixed ?_ (hr := by conv => lhs; simp [Vl.row, Vl.rows_eq, q1, q2, q3])
  refine AWp.ret ?_
  try dsimp only [thenQ, blockQ]
  apply endQ.ret
  · rfl
  · conv => lhs; simp [resAV, Tryd.results30]
  · rfl
end Go.Proofs.YtapiiklnnkkdlaaDoor

namespace Go.Proofs.YtapiiklnnkkdlaaDoor
open Go.RowKit
set_option linter.unusedVariables false
set_option linter.unusedSimpArgs false
def ORel (o o' : Out) : Prop := o.2 = o'.2 ∧ (o.2.2 = 0 → o.1 = o'.1)
def LRel (o o' : OutL) : Prop := o.2 = o'.2 ∧ (o.2.2 = 0 → o.1 = o'.1)
theorem ORel.refl (o : Out) : ORel o o := ⟨rfl, fun _ => rfl⟩
theorem ORel.eq {o o' : Out} (h : ORel o o') (he : o.2.2 = 0) : o = o' := by
  obtain ⟨v, f, e⟩ := o
  obtain ⟨v', f', e'⟩ := o'
  obtain ⟨h1, h2⟩ := h
  cases h1
  rw [show v = v' from h2 he]
theorem LRel.eq {o o' : OutL} (h : LRel o o') (he : o.2.2 = 0) : o = o' := by
  obtain ⟨v, f, e⟩ := o
  obtain ⟨v', f', e'⟩ := o'
  obtain ⟨h1, h2⟩ := h
  cases h1
  rw [show v = v' from h2 he]
theorem ORel.err {o o' : Out} (h : ORel o o') : o'.2.2 = o.2.2 ∧ o'.2.1 = o.2.1 := ⟨(congrArg Prod.snd h.1).symm, (congrArg Prod.fst h.1).symm⟩

def RnEv (names : List ByteArray) (ps : Ps) (c : Int) (env env' : Env) : Prop := ∀ s ∈ names, (∃ i, 1 ≤ i ∧ i ≤ c ∧ nowP ps s = vNm i) ∧ envVal env' (nowP ps s) = envVal env s
theorem envVal_cons (a : ByteArray) (u : Vl) (env : Env) (s : ByteArray) : envVal ((a, u) :: env) s = if a = s then u else envVal env s := by
  unfold envVal
  rw [envGet]
  split <;> rfl
theorem RnEv.mono {names : List ByteArray} {ps : Ps} {c e : Int} {env env' : Env} (h : RnEv names ps c env env') (he : c ≤ e) : RnEv names ps e env env' := fun s hs => by
  obtain ⟨⟨i, h1, h2, h3⟩, h4⟩ := h s hs
  exact ⟨⟨i, h1, by omega, h3⟩, h4⟩
theorem RnEv.one {names : List ByteArray} {ps : Ps} {c : Int} {env env' : Env} (h : RnEv names ps c env env') (h0 : 0 ≤ c) (a : ByteArray) (u : Vl) : RnEv (names ++ [a]) (ps ++ [(a, vNm (c + 1))]) (c + 1) ((a, u) :: env) ((vNm (c + 1), u) :: env') := fun s hs => by
  rw [nowP_add, envVal_cons, envVal_cons]
  by_cases e : a = s
  · rw [if_pos e, if_pos e, if_pos rfl]
    exact ⟨⟨c + 1, by omega, by omega, rfl⟩, rfl⟩
  · rw [if_neg e, if_neg e]
    have hs' : s ∈ names := (List.mem_append.1 hs).elim id fun h => absurd (List.mem_singleton.1 h).symm e
    obtain ⟨⟨i, h1, h2, h3⟩, h4⟩ := h s hs'
    rw [if_neg (fun q => by
      rw [h3] at q
      have := vNm_inj (by omega) (by omega) q
      omega)]
    exact ⟨⟨i, h1, by omega, h3⟩, h4⟩
theorem bindE_cons (w : ByteArray) (v : Vl) (ws : List ByteArray) (vs : List Vl) (env : Env) : bindE (w :: ws) (v :: vs) env = bindE ws vs ((w, v) :: env) := by
  unfold bindE
  rw [List.zip_cons_cons, List.reverse_cons, List.append_assoc]
  rfl
theorem RnEv.more : ∀ {ws : List ByteArray} {vs : List Vl} {names : List ByteArray} {ps : Ps} {c : Int} {env env' : Env}, RnEv names ps c env env' → 0 ≤ c → c + ws.length < 9223372036854775807 → ws.length = vs.length →
    RnEv (names ++ ws) (ps ++ ws.zip (freshL ws c)) (c + ws.length) (bindE ws vs env) (bindE (freshL ws c) vs env')
  | [], [], names, ps, c, env, env', h, _, _, _ => by simpa [freshL, bindE] using h
  | w :: ws, v :: vs, names, ps, c, env, env', h, h0, hb, hl => by
    rw [List.length_cons] at hb
    push_cast at hb
    have hw : wr (c + 1) = c + 1 := wr_of (by omega) (by omega)
    have h1 := RnEv.more (h.one h0 w v) (by omega) (by omega) (by simpa using hl : ws.length = vs.length)
    rw [freshL, hw, bindE_cons, bindE_cons, List.zip_cons_cons, List.length_cons]
    rw [List.append_assoc, List.append_assoc] at h1
    push_cast
    rw [show c + ((ws.length : Int) + 1) = c + 1 + ws.length from by omega]
    exact h1
  | [], _ :: _, _, _, _, _, _, _, _, _, hl => by simp at hl
  | _ :: _, [], _, _, _, _, _, _, _, _, hl => by simp at hl
theorem rn_ev (g : Bool) (C : CallF) (A : Arity) : ∀ (d : Nat) (t : Tm) (names : List ByteArray) (ps : Ps) (c deep : Int) (env env' : Env) (f : Int), t.Rt d → t.wrong A names deep = 0 → 0 ≤ c → c + t.bd.length ≤ 9999999 → RnEv names ps c env env' → evT g C (t.rn ps c).1 env' f = evT g C t env f := by
  intro d
  induction d with
  | zero => intro t _ _ _ _ _ _ _ h; exact h.elim
  | succ d ih =>
  intro t names ps c deep env env' f hR hw h0 hb hr
  obtain ⟨k, n, a, b, vs, xs, cs⟩ := t
  have hR' := hR
  obtain ⟨hk, hmany, _, hx, hc⟩ := hR'
  obtain ⟨h1, h2, h3, h4, h5, h6, h7⟩ := wrong_zero hw
  rw [Tm.rn]
  by_cases hk1 : k = 1
  · subst hk1
    rw [if_pos rfl]
    dsimp only
    rw [evT, if_pos rfl, evT, if_pos rfl]
    unfold headE at h5
    rw [if_pos rfl] at h5
    split at h5
    · rename_i hh
      rw [(hr a (hasB_iff.1 hh)).2]
    · cases h5
  rw [if_neg hk1]
  dsimp only
  by_cases hk2 : k = 2
  · rw [evT, if_neg hk1, if_pos hk2, evT, if_neg hk1, if_pos hk2]
  by_cases hk6 : k = 6
  · obtain ⟨x, y, rfl, rfl⟩ := rt_let hR hk6
    subst hk6
    have hl : (Tm.mk 6 n a b vs [x, y] []).bd.length = x.bd.length + (1 + y.bd.length) := by simp [Tm.bd, Tm.bdL, Cs.bdL]; omega
    rw [hl] at hb
    push_cast at hb
    rw [wrongs_cons, wrongs_cons, if_neg (by omega), if_pos (by omega)] at h6
    obtain ⟨_, e2⟩ := bd_rn d x ps c (hx x (by simp)) h0 (by omega)
    have hw1 : wr (c + x.bd.length + 1) = c + x.bd.length + 1 := wr_of (by omega) (by omega)
    have g1 := ih x names ps c (deep + 1) env env' f (hx x (by simp)) h6.1 h0 (by omega) hr
    have hE : Tm.rns 6 a ps 0 [x, y] a c = ([(x.rn ps c).1, (y.rn (ps ++ [(a, vNm (c + x.bd.length + 1))]) (c + x.bd.length + 1)).1], vNm (c + x.bd.length + 1), (y.rn (ps ++ [(a, vNm (c + x.bd.length + 1))]) (c + x.bd.length + 1)).2) := by simp [Tm.rns, e2, hw1]
    rw [hE, Cs.rnL]
    dsimp only
    rw [evT, if_neg (by omega), if_neg (by omega), if_pos rfl, evT, if_neg (by omega), if_neg (by omega), if_pos rfl, evLet, evLet, g1]
    split
    · rfl
    · rw [evIn, evIn]
      exact ih y (names ++ [a]) (ps ++ [(a, vNm (c + x.bd.length + 1))]) (c + x.bd.length + 1) (deep + 1) _ _ _ (hx y (by simp)) h6.2.1 (by omega) (by omega) ((hr.mono (by omega)).one (by omega) a _)
  · have hL : ∀ (ys : List Tm) (i : Nat) (nm : ByteArray) (c f : Int), (∀ y ∈ ys, y ∈ xs) → Tm.wrongs A k a names deep i ys = 0 → 0 ≤ c → c + (Tm.bdL ys).length ≤ 9999999 → RnEv names ps c env env' → evL g C (Tm.rns k a ps i ys nm c).1 env' f = evL g C ys env f ∧ (Tm.rns k a ps i ys nm c).2.2 = c + (Tm.bdL ys).length := by
      intro ys
      induction ys with
      | nil => intro i nm c f _ _ _ _ _; exact ⟨by rw [Tm.rns, evL, evL], by simp [Tm.rns, Tm.bdL]⟩
      | cons y r ih2 =>
        intro i nm c f hm hwr h0 hb hr
        rw [Tm.bdL, List.length_append] at hb ⊢
        push_cast at hb ⊢
        rw [wrongs_cons, if_neg (fun h => hk6 h.1)] at hwr
        have hy := hx y (hm y (List.mem_cons_self ..))
        obtain ⟨_, e2⟩ := bd_rn d y ps c hy h0 (by omega)
        have g0 := ih y names ps c (deep + 1) env env' f hy hwr.1 h0 (by omega) hr
        have hrec := fun f => ih2 (i + 1) nm (c + y.bd.length) f (fun z hz => hm z (List.mem_cons_of_mem _ hz)) hwr.2 (by omega) (by omega) (hr.mono (by omega))
        rw [Tm.rns, if_neg fun h => hk6 h.1, e2]
        dsimp only
        refine ⟨?_, by rw [(hrec 0).2]; omega⟩
        rw [evL, evL, g0, (hrec _).1]
    have hC : k = 7 → ∀ (v : Vl) (ys : List Cs) (had : List Int) (c f : Int), (∀ y ∈ ys, y ∈ cs) → Cs.wrongs A names deep had ys = 0 → 0 ≤ c → c + (Cs.bdL ys).length ≤ 9999999 → RnEv names ps c env env' → evC g C v (Cs.rnL ys ps c).1 env' f = evC g C v ys env f := by
      intro hk7 v ys
      induction ys with
      | nil => intro had c f _ _ _ _ _; rw [Cs.rnL, evC, evC]
      | cons y r ih2 =>
        intro had c f hm hwr h0 hb hr
        have hy := hm y (List.mem_cons_self ..)
        obtain ⟨t, ws, y⟩ := y
        rw [Cs.bdL, Cs.bd, List.length_append, List.length_append] at hb
        push_cast at hb
        rw [cwrongs_cons] at hwr
        obtain ⟨⟨w1, w2, w3, w4, w5, w6⟩, w7⟩ := hwr
        obtain ⟨e1, e2⟩ := freshL_seq ws c h0 (by omega)
        obtain ⟨_, e3⟩ := bd_rn d y (ps ++ ws.zip (freshL ws c)) (c + ws.length) (hc _ hy).2 (by omega) (by omega)
        have g1 := ih2 (t :: had) (c + ws.length + y.bd.length) f (fun z hz => hm z (List.mem_cons_of_mem _ hz)) w7 (by omega) (by omega) (hr.mono (by omega))
        rw [Cs.rnL, Cs.rn, e2, e3]
        dsimp only
        rw [evC, evC, g1]
        show (if t = v.n then if (freshL ws c).length = v.kids.length then _ else _ else _) = if t = v.n then if ws.length = v.kids.length then _ else _ else _
        rw [freshL_len]
        by_cases q1 : t = v.n
        · rw [if_pos q1, if_pos q1]
          by_cases q2 : ws.length = v.kids.length
          · rw [if_pos q2, if_pos q2, evB, evB]
            exact ih y (names ++ ws) (ps ++ ws.zip (freshL ws c)) (c + ws.length) (deep + 1) _ _ f (hc _ hy).2 w6 (by omega) (by omega) (RnEv.more hr h0 (by omega) q2)
          · rw [if_neg q2, if_neg q2]
        · rw [if_neg q1, if_neg q1]
    have hl : (Tm.mk k n a b vs xs cs).bd.length = (Tm.bdL xs).length + (Cs.bdL cs).length := by simp [Tm.bd, hk6]
    rw [hl] at hb
    push_cast at hb
    obtain ⟨g1, g3⟩ := hL xs 0 a c f (fun _ h => h) h6 h0 (by omega) hr
    have hno := rns_no hk6 a ps xs 0 a c
    rw [hno, g3, evT, if_neg hk1, if_neg hk2, if_neg hk6, evT, if_neg hk1, if_neg hk2, if_neg hk6, g1]
    unfold afterL
    by_cases k3 : k = 3
    · rw [if_pos k3, if_pos k3]
    rw [if_neg k3, if_neg k3]
    by_cases k4 : k = 4
    · rw [if_pos k4, if_pos k4]
    rw [if_neg k4, if_neg k4]
    by_cases k5 : k = 5
    · rw [if_pos k5, if_pos k5]
    rw [if_neg k5, if_neg k5]
    have hk7 : k = 7 := by omega
    dsimp only
    rw [hC hk7 _ cs [] _ _ (fun _ h => h) (h7 hk7).2.2 (by omega) (by omega) (hr.mono (by omega))]
theorem find_map {α : Type} (F : α → α) (p : α → Bool) (hp : ∀ x, p (F x) = p x) : ∀ l : List α, (l.map F).find? p = (l.find? p).map F
  | [] => rfl
  | x :: r => by
    rw [List.map_cons, List.find?_cons, List.find?_cons, hp x]
    cases p x with
    | true => rfl
    | false => exact find_map F p hp r
structure RnOk (A : Arity) (x : Fn) : Prop where
  rt : x.body.Rt 25
  wrong : x.body.wrong A x.params 0 = 0
  bd : x.params.length + x.body.bd.length ≤ 9999999
theorem evCall_rn (g : Bool) {A : Arity} {l : List Fn} (h : ∀ x ∈ l, RnOk A x) : ∀ (n : Nat) (a : ByteArray) (vs : List Vl) (f : Int), evCall g (l.map Fn.rn) n a vs f = evCall g l n a vs f := by
  have hf : ∀ a, (l.map Fn.rn).find? (fun x => eqB x.name a) = (l.find? (fun x => eqB x.name a)).map Fn.rn := fun a => find_map Fn.rn (fun x => eqB x.name a) (fun x => rfl) l
  intro n
  induction n with
  | zero =>
    intro a vs f
    rw [evCall, evCall, hf a]
    cases hq : l.find? (fun x => eqB x.name a) with
    | none => rfl
    | some y =>
      simp only [Option.map_some]
      rw [show y.rn.params.length = y.params.length from freshL_len _ _]
  | succ n ih =>
    intro a vs f
    rw [evCall, evCall, hf a]
    cases hq : l.find? (fun x => eqB x.name a) with
    | none => rfl
    | some y =>
      have hy := h y (List.mem_of_find?_eq_some hq)
      simp only [Option.map_some]
      rw [show y.rn.params.length = y.params.length from freshL_len _ _]
      by_cases q : y.params.length ≠ vs.length
      · rw [if_pos q, if_pos q]
      rw [if_neg q, if_neg q]
      have hl : y.params.length = vs.length := by omega
      have hbd := hy.bd
      have hC : evCall g (l.map Fn.rn) n = evCall g l n := funext fun a => funext fun vs => funext fun f => ih a vs f
      rw [hC]
      obtain ⟨e1, e2⟩ := freshL_seq y.params 0 (by omega) (by omega)
      have hE : RnEv y.params (y.params.zip (freshL y.params 0)) (freshC y.params 0) (bindE y.params vs []) (bindE (freshL y.params 0) vs []) := by
        have := RnEv.more (c := 0) (ws := y.params) (vs := vs) (names := []) (ps := []) (env := []) (env' := []) (fun s hs => by cases hs) (by omega) (by omega) hl
        rw [e2]
        simpa using this
      have := rn_ev g (evCall g l n) A 25 y.body y.params _ (freshC y.params 0) 0 _ _ (f - 1) hy.rt hy.wrong (by omega) (by omega) hE
      show (if f = 0 then _ else evT g (evCall g l n) (y.body.rn (y.params.zip (freshL y.params 0)) (freshC y.params 0)).1 (bindE (freshL y.params 0) vs []) (f - 1)) = _
      rw [this]
theorem runE_rn (g : Bool) {A : Arity} {l : List Fn} (h : ∀ x ∈ l, RnOk A x) (name : ByteArray) (args : List Int) (fuel : Int) : runE g (l.map Fn.rn) name args fuel = runE g l name args fuel := by
  unfold runE
  rw [evCall_rn g h]

theorem bd_le : ∀ (d : Nat) (t : Tm), t.Rt d → t.bd.length + 6 ≤ 7 * t.sz := by
  intro d
  induction d with
  | zero => intro t h; exact h.elim
  | succ d ih =>
  intro t hR
  obtain ⟨k, n, a, b, vs, xs, cs⟩ := t
  obtain ⟨hk, hmany, _, hx, hc⟩ := hR
  have hL : ∀ ys : List Tm, (∀ y ∈ ys, y ∈ xs) → (Tm.bdL ys).length ≤ 7 * Tm.szs ys := by
    intro ys
    induction ys with
    | nil => intro _; simp [Tm.bdL]
    | cons y r ih2 =>
      intro hm
      have h1 := ih y (hx y (hm y (List.mem_cons_self ..)))
      have h2 := ih2 fun z hz => hm z (List.mem_cons_of_mem _ hz)
      rw [Tm.bdL, List.length_append, Tm.szs]
      omega
  have hC : ∀ ys : List Cs, (∀ y ∈ ys, y ∈ cs) → (Cs.bdL ys).length ≤ 7 * Cs.szs ys := by
    intro ys
    induction ys with
    | nil => intro _; simp [Cs.bdL]
    | cons y r ih2 =>
      intro hm
      have hy := hc y (hm y (List.mem_cons_self ..))
      obtain ⟨t, ws, y⟩ := y
      have h1 := ih y hy.2
      have h2 := ih2 fun z hz => hm z (List.mem_cons_of_mem _ hz)
      have h3 : ws.length ≤ 6 := hy.1
      rw [Cs.bdL, Cs.bd, List.length_append, List.length_append, Cs.szs, Cs.sz]
      omega
  have h1 := hL xs fun _ h => h
  have h2 := hC cs fun _ h => h
  rw [Tm.bd, List.length_append, List.length_append, Tm.sz]
  have h3 : (if k = 6 then [a] else []).length ≤ 1 := by split <;> simp
  omega
theorem heads_map (F : Fn → Fn) (hn : ∀ x, (F x).name = x.name) (hp : ∀ x, (F x).params.length = x.params.length) {A : Arity} : ∀ (l : List Fn) (f : Arity), (∀ x ∈ l, (F x).Right A) → headsE f l = 0 → headsE f (l.map F) = 0
  | [], f, _, _ => rfl
  | x :: r, f, hR, h => by
    rw [headsE] at h
    by_cases h0 : x.headE f ≠ 0
    · rw [if_pos h0] at h; exact absurd h h0
    rw [if_neg h0] at h
    have h0 : x.headE f = 0 := Decidable.byContradiction h0
    have hx := hR x (List.mem_cons_self ..)
    have hsome : (f.get x.name).isSome = false := by
      unfold Fn.headE at h0
      split at h0
      · cases h0
      rename_i h2
      simp only [Bool.or_eq_true, not_or, Bool.not_eq_true] at h2
      exact h2.1.1.1
    have hsz := hx.sz
    have hpa := hx.params
    have hw : wr (F x).body.sz = (F x).body.sz := wrong_small hx.wrong
    have h1 : (F x).headE f = 0 := by
      unfold Fn.headE
      rw [if_neg (by rw [hn, hsome, ← hn x, hx.name, hx.twice, hx.bad]; simp), if_neg (by omega), if_neg (by rw [hw]; omega)]
    rw [List.map_cons, headsE, if_neg (by rw [h1]; simp), hn, hp]
    exact heads_map F hn hp r _ (fun y hy => hR y (List.mem_cons_of_mem _ hy)) h
theorem bodies_map (F : Fn → Fn) {A : Arity} : ∀ (l : List Fn), (∀ x ∈ l, (F x).Right A) → bodiesE A (l.map F) = 0
  | [], _ => rfl
  | x :: r, hR => by
    have hx := (hR x (List.mem_cons_self ..)).wrong
    rw [List.map_cons, bodiesE, if_neg (by rw [hx]; simp)]
    exact bodies_map F r fun y hy => hR y (List.mem_cons_of_mem _ hy)
theorem arOf_map (F : Fn → Fn) (hn : ∀ x, (F x).name = x.name) (hp : ∀ x, (F x).params.length = x.params.length) (l : List Fn) : arOf (l.map F) = arOf l := by
  unfold arOf
  rw [← List.map_reverse, List.map_map]
  refine List.map_congr_left fun x _ => ?_
  simp [hn, hp]
theorem check_map (F : Fn → Fn) (hn : ∀ x, (F x).name = x.name) (hp : ∀ x, (F x).params.length = x.params.length) {l : List Fn} (h : checkE l = 0) (hR : ∀ x ∈ l, (F x).Right (arOf l)) : checkE (l.map F) = 0 := by
  obtain ⟨h1, h2, h3, _⟩ := check_zero h
  unfold checkE
  rw [List.length_map, if_neg (by omega), heads_map F hn hp l [] hR h3, arOf_map F hn hp, bodies_map F l hR]
  simp
theorem Fn.rn_plen (f : Fn) : f.rn.params.length = f.params.length := freshL_len _ _
theorem Fn.Right.rnOk {A : Arity} {x : Fn} (h : x.Right A) (hr : x.body.Rt 25) : RnOk A x :=
  ⟨hr, h.wrong, by have := bd_le 25 x.body hr; have := h.sz; have := h.params; omega⟩
theorem Fn.Right.rn {A : Arity} {x : Fn} (h : x.Right A) (hr : x.body.Rt 25) : x.rn.Right A := by
  have hb := (h.rnOk hr).bd
  obtain ⟨e1, e2⟩ := freshL_seq x.params 0 (by omega) (by omega)
  have hp : x.rn.params = seqV 0 x.params.length := e1
  have hpa := h.params
  have hsz := h.sz
  have hs : x.rn.body.sz ≤ x.body.sz := Tm.rn_sz _ _ _
  refine ⟨h.name, by rw [hp]; exact twB_of (seqV_nodup (by omega) _), by rw [hp]; exact seqV_bad (by omega) (by omega), by rw [x.rn_plen]; exact hpa, by omega, ?_⟩
  have hR : RnR x.params (freshL x.params 0) (x.params.zip (freshL x.params 0)) := by
    have := RnR.more (names := []) (names' := []) (ps := []) (fun s hs => by cases hs) x.params (freshL x.params 0) (freshL_len _ _).symm
    simpa using this
  exact rn_wrong A 25 x.body x.params x.rn.params _ (freshC x.params 0) 0 hr h.wrong (by omega) (by omega) hR
theorem check_rn {l : List Fn} (hl : FnsOk l) (h : checkE l = 0) : checkE (l.map Fn.rn) = 0 :=
  check_map Fn.rn (fun _ => rfl) Fn.rn_plen h fun x hx => ((check_zero h).2.2.2 x hx).rn (right_all hl h x hx).2.1
theorem runE_rn_of {l : List Fn} (hl : FnsOk l) (h : checkE l = 0) (g : Bool) (name : ByteArray) (args : List Int) (fuel : Int) : runE g (l.map Fn.rn) name args fuel = runE g l name args fuel :=
  runE_rn g (A := arOf l) (fun x hx => ((check_zero h).2.2.2 x hx).rnOk (right_all hl h x hx).2.1) name args fuel
theorem rn_fns {l : List Fn} (hl : FnsOk l) (h : checkE l = 0) : FnsOk (l.map Fn.rn) := by
  refine ⟨by rw [List.length_map]; exact hl.len, fun f hf => ?_⟩
  obtain ⟨x, hx, rfl⟩ := List.mem_map.1 hf
  have ho := hl.all x hx
  obtain ⟨h1, h2, h3⟩ := right_all hl h x hx
  exact ⟨ho.name, by rw [x.rn_plen]; omega, fun s hs => freshL_le _ _ s hs, x.rn_ok h1 h2⟩

def Fmo {α : Type} (F : Int → α × Int × Int) : Prop := ∀ f, 0 ≤ f → 0 ≤ (F f).2.1 ∧ ∀ k, 0 ≤ k → (F f).2.2 ≠ 12 → F (f + k) = ((F f).1, (F f).2.1 + k, (F f).2.2)
theorem Fmo.const {α : Type} (v : α) (e : Int) : Fmo fun f => (v, f, e) := fun f hf => ⟨hf, fun k _ _ => rfl⟩
theorem Fmo.map {α β : Type} {F : Int → α × Int × Int} (h : Fmo F) (g : α → Int → β) : Fmo fun f => (g (F f).1 (F f).2.2, (F f).2.1, (F f).2.2) := fun f hf => by
  obtain ⟨h1, h2⟩ := h f hf
  refine ⟨h1, fun k hk he => ?_⟩
  dsimp only at he ⊢
  rw [h2 k hk he]
theorem Fmo.bind {α β : Type} {F : Int → α × Int × Int} (h : Fmo F) (z : α → β) {G : α → Int → β × Int × Int} (hG : ∀ v, Fmo (G v)) :
    Fmo fun f => if (F f).2.2 ≠ 0 then (z (F f).1, (F f).2.1, (F f).2.2) else G (F f).1 (F f).2.1 := fun f hf => by
  obtain ⟨h1, h2⟩ := h f hf
  dsimp only
  by_cases he : (F f).2.2 ≠ 0
  · rw [if_pos he]
    refine ⟨h1, fun k hk h3 => ?_⟩
    dsimp only at h3
    rw [h2 k hk h3]
    dsimp only
    rw [if_pos he]
  · rw [if_neg he]
    obtain ⟨g1, g2⟩ := hG (F f).1 (F f).2.1 h1
    refine ⟨g1, fun k hk h3 => ?_⟩
    have h4 : (F f).2.2 ≠ 12 := fun e => he (by rw [e]; omega)
    rw [h2 k hk h4]
    dsimp only
    rw [if_neg he, g2 k hk h3]
theorem Fmo.congr {α : Type} {F G : Int → α × Int × Int} (h : Fmo F) (e : ∀ f, G f = F f) : Fmo G := by
  have : G = F := funext e
  rw [this]; exact h

abbrev PS := Nat × Int
def isBl (c : UInt8) : Bool := c.toNat == 32 || (c.toNat == 9 || c.toNat == 10)
def isBr (c : UInt8) : Bool := c.toNat == 40 || c.toNat == 41
def nBl : List UInt8 → Nat
  | [] => 0
  | c :: r => if isBl c then nBl r + 1 else 0
def nWd : List UInt8 → Nat
  | [] => 0
  | c :: r => if isBl c || isBr c then 0 else nWd r + 1
def nPk : List UInt8 → Nat
  | [] => 0
  | c :: r => if isBr c then 1 else nWd (c :: r)
def pkA (s : ByteArray) (a : Nat) : Nat := a + nBl (s.data.toList.drop a)
def pkE (s : ByteArray) (a : Nat) : Nat := a + nPk (s.data.toList.drop a)
def pkW (s : ByteArray) (a : Nat) : ByteArray := s.extract (pkA s a) (pkE s (pkA s a))
def badE (e x : Int) : Int := if e = 0 then x else e
def nxS (s : ByteArray) (p : PS) : PS := (pkE s (pkA s p.1), if (pkW s p.1).size = 0 then badE p.2 8 else p.2)
def wantS (s w : ByteArray) (p : PS) : PS := if pkW s p.1 = w then nxS s p else ((nxS s p).1, badE (nxS s p).2 2)
def namP (s : ByteArray) (p : PS) : ByteArray × PS := (pkW s p.1, if nameB (pkW s p.1) then nxS s p else ((nxS s p).1, badE (nxS s p).2 7))
def numP (w : ByteArray) : Int × Bool := match Lib.atoiAll w.data.toList with
  | .ok v => (v, decide (itoaB v = w))
  | .range => (Lib.atoiSat w.data.toList, false)
  | _ => (0, false)
def sharp (w : ByteArray) : Bool := match w.data.toList with
  | c :: _ => c.toNat == 35
  | [] => false
def tagP (g : Bool) (s : ByteArray) (p : PS) : Int × PS :=
  if decide (1 < (pkW s p.1).size) && sharp (pkW s p.1) && (numP ((pkW s p.1).extract 1 (pkW s p.1).size)).2 then ((numP ((pkW s p.1).extract 1 (pkW s p.1).size)).1, nxS s p)
  else (if g && (decide (1 < (pkW s p.1).size) && sharp (pkW s p.1)) then (numP ((pkW s p.1).extract 1 (pkW s p.1).size)).1 else 0, ((nxS s p).1, badE (nxS s p).2 2))
theorem tagP_ref (s : ByteArray) (p : PS) : tagP false s p = if decide (1 < (pkW s p.1).size) && sharp (pkW s p.1) && (numP ((pkW s p.1).extract 1 (pkW s p.1).size)).2 then ((numP ((pkW s p.1).extract 1 (pkW s p.1).size)).1, nxS s p)
  else (0, ((nxS s p).1, badE (nxS s p).2 2)) := by
  unfold tagP
  rw [Bool.false_and]
  rfl
abbrev rbr : ByteArray := ⟨#[41]⟩
abbrev lbr : ByteArray := ⟨#[40]⟩
def manyP {α : Type} (s : ByteArray) (one : PS → α × PS) : Nat → PS → List α × PS
  | 0, p => ([], p)
  | n + 1, p =>
    if p.2 = 0 then
      if pkW s p.1 = rbr then ([], wantS s rbr (pkA s p.1, p.2))
      else ((one (pkA s p.1, p.2)).1 :: (manyP s one n (one (pkA s p.1, p.2)).2).1, (manyP s one n (one (pkA s p.1, p.2)).2).2)
    else ([], wantS s rbr p)
def primsL : List ByteArray := [⟨#[43]⟩, ⟨#[45]⟩, ⟨#[42]⟩, ⟨#[60]⟩, ⟨#[61]⟩]
def primI (w : ByteArray) : List ByteArray → Int → Int → Int
  | [], _, r => r
  | x :: l, i, r => primI w l (i + 1) (if w = x then i + 1 else r)
abbrev wLet : ByteArray := ⟨#[108, 101, 116]⟩
abbrev wMatch : ByteArray := ⟨#[109, 97, 116, 99, 104]⟩
def casP (g : Bool) (s : ByteArray) (one : PS → Tm × PS) (p : PS) : Cs × PS :=
  let t := tagP g s (wantS s lbr p)
  let ws := manyP s (namP s) (s.size + 2) (wantS s lbr t.2)
  let y := one ws.2
  (.mk t.1 ws.1 y.1, wantS s rbr y.2)
def atomP (s : ByteArray) (p : PS) : Tm × PS :=
  if (numP (pkW s p.1)).2 then (.mk 2 (numP (pkW s p.1)).1 .empty .empty [] [] [], nxS s p)
  else (.mk 1 0 (pkW s p.1) .empty [] [] [], if nameB (pkW s p.1) then nxS s p else ((nxS s p).1, badE (nxS s p).2 7))
def formP (g : Bool) (s : ByteArray) (one : PS → Tm × PS) (w : ByteArray) (p : PS) : Tm × PS :=
  if sharp w then
    let t := tagP g s p
    let xs := manyP s one (s.size + 2) t.2
    (.mk 3 t.1 .empty .empty [] xs.1 [], xs.2)
  else if w = wLet then
    let nm := namP s (nxS s p)
    let x := one nm.2
    let y := one x.2
    (.mk 6 0 nm.1 .empty [] [x.1, y.1] [], wantS s rbr y.2)
  else if w = wMatch then
    let x := one (nxS s p)
    let cs := manyP s (casP g s one) (s.size + 2) x.2
    (.mk 7 0 .empty .empty [] [x.1] cs.1, cs.2)
  else if 0 < primI w primsL 0 0 then
    let x := one (nxS s p)
    let y := one x.2
    (.mk 5 (primI w primsL 0 0) .empty .empty [] [x.1, y.1] [], wantS s rbr y.2)
  else
    let nm := namP s p
    let xs := manyP s one (s.size + 2) nm.2
    (.mk 4 0 nm.1 .empty [] xs.1 [], xs.2)
def Tm.ps (g : Bool) (s : ByteArray) : Nat → PS → Tm × PS
  | 0, p => (.mk 0 0 .empty .empty [] [] [], (p.1, badE p.2 9))
  | n + 1, p =>
    if pkW s p.1 = lbr then formP g s (Tm.ps g s n) (pkW s (nxS s p).1) (pkA s (nxS s p).1, (nxS s p).2)
    else atomP s (pkA s p.1, p.2)
abbrev wFn : ByteArray := ⟨#[102, 110]⟩
def fnP (g : Bool) (s : ByteArray) (p : PS) : Fn × PS :=
  let nm := namP s (wantS s wFn (wantS s lbr p))
  let ws := manyP s (namP s) (s.size + 2) (wantS s lbr nm.2)
  let y := Tm.ps g s 25 ws.2
  (⟨nm.1, ws.1, y.1⟩, wantS s rbr y.2)
def fnsP (g : Bool) (s : ByteArray) : Nat → PS → List Fn × PS
  | 0, p => ([], p)
  | n + 1, p =>
    if p.2 = 0 then
      if (pkW s p.1).size = 0 then ([], (pkA s p.1, p.2))
      else ((fnP g s (pkA s p.1, p.2)).1 :: (fnsP g s n (fnP g s (pkA s p.1, p.2)).2).1, (fnsP g s n (fnP g s (pkA s p.1, p.2)).2).2)
    else ([], p)
def parseP (g : Bool) (s : ByteArray) : List Fn × Int :=
  if 1500 < s.size then ([], 4)
  else if (fnsP g s (s.size + 2) (0, 0)).2.2 = 0 then ((fnsP g s (s.size + 2) (0, 0)).1, 0) else ([], (fnsP g s (s.size + 2) (0, 0)).2.2)
structure Stp (s : ByteArray) (p q : PS) : Prop where
  le : p.1 ≤ q.1
  sz : q.1 ≤ s.size
  er : p.2 ≠ 0 → q.2 = p.2
structure Adv (s : ByteArray) (p q : PS) : Prop extends Stp s p q where
  on : q.2 ≠ 0 ∨ p.1 < q.1
theorem Stp.trans {s : ByteArray} {p q r : PS} (h : Stp s p q) (h2 : Stp s q r) : Stp s p r := ⟨Nat.le_trans h.le h2.le, h2.sz, fun e => by have h3 := h.er e; rw [h2.er (by rw [h3]; exact e), h3]⟩
theorem Adv.trans {s : ByteArray} {p q r : PS} (h : Stp s p q) (h2 : Adv s q r) : Adv s p r := ⟨h.trans h2.toStp, h2.on.imp id fun h3 => Nat.lt_of_le_of_lt h.le h3⟩
theorem Adv.then {s : ByteArray} {p q r : PS} (h : Adv s p q) (h2 : Stp s q r) : Adv s p r := ⟨h.toStp.trans h2, by
  rcases h.on with h3 | h3
  · exact .inl (by rw [h2.er h3]; exact h3)
  · exact .inr (Nat.lt_of_lt_of_le h3 h2.le)⟩
theorem nBl_le : ∀ l : List UInt8, nBl l ≤ l.length
  | [] => Nat.le_refl _
  | c :: r => by
    have := nBl_le r
    rw [nBl]; split <;> simp <;> omega
theorem nWd_le : ∀ l : List UInt8, nWd l ≤ l.length
  | [] => Nat.le_refl _
  | c :: r => by
    have := nWd_le r
    rw [nWd]; split <;> simp <;> omega
theorem nPk_le : ∀ l : List UInt8, nPk l ≤ l.length
  | [] => Nat.le_refl _
  | c :: r => by
    have := nWd_le (c :: r)
    rw [nPk]; split
    · simp
    · exact this
theorem toList_size (s : ByteArray) : s.data.toList.length = s.size := Array.length_toList
theorem pkA_le {s : ByteArray} {a : Nat} (h : a ≤ s.size) : a ≤ pkA s a ∧ pkA s a ≤ s.size := by
  have := nBl_le (s.data.toList.drop a)
  rw [List.length_drop, toList_size] at this
  unfold pkA; omega
theorem pkE_le {s : ByteArray} {a : Nat} (h : a ≤ s.size) : a ≤ pkE s a ∧ pkE s a ≤ s.size := by
  have := nPk_le (s.data.toList.drop a)
  rw [List.length_drop, toList_size] at this
  unfold pkE; omega
theorem pkW_size {s : ByteArray} {a : Nat} (h : a ≤ s.size) : (pkW s a).size = pkE s (pkA s a) - pkA s a := by
  have h1 := pkA_le h
  have h2 := pkE_le h1.2
  unfold pkW
  rw [ByteArray.size_extract]; omega
theorem badE_ne {e x : Int} (hx : x ≠ 0) : badE e x ≠ 0 := by
  unfold badE; split <;> assumption
theorem badE_er {e x : Int} (h : e ≠ 0) : badE e x = e := if_neg h
theorem Stp.pk {s : ByteArray} {p : PS} (h : p.1 ≤ s.size) : Stp s p (pkA s p.1, p.2) := ⟨(pkA_le h).1, (pkA_le h).2, fun _ => rfl⟩
theorem Stp.bad {s : ByteArray} {p q : PS} {x : Int} (h : Stp s p q) : Stp s p (q.1, badE q.2 x) := ⟨h.le, h.sz, fun e => by
  have h2 := h.er e
  dsimp only
  rw [badE_er (by rw [h2]; exact e), h2]⟩
theorem Adv.bad {s : ByteArray} {p q : PS} {x : Int} (h : Adv s p q) : Adv s p (q.1, badE q.2 x) := ⟨h.toStp.bad, by
  rcases h.on with h3 | h3
  · exact .inl (by dsimp only; rw [badE_er h3]; exact h3)
  · exact .inr h3⟩
theorem nxS_adv {s : ByteArray} {p : PS} (h : p.1 ≤ s.size) : Adv s p (nxS s p) := by
  have h1 := pkA_le h
  have h2 := pkE_le h1.2
  have h3 := pkW_size h
  unfold nxS
  refine ⟨⟨Nat.le_trans h1.1 h2.1, h2.2, fun e => ?_⟩, ?_⟩
  · dsimp only
    split
    · exact badE_er e
    · rfl
  · dsimp only
    split
    · exact .inl (badE_ne (by decide))
    · exact .inr (by omega)
theorem wantS_adv {s w : ByteArray} {p : PS} (h : p.1 ≤ s.size) : Adv s p (wantS s w p) := by
  unfold wantS
  split
  · exact nxS_adv h
  · exact (nxS_adv h).bad
theorem namP_adv {s : ByteArray} {p : PS} (h : p.1 ≤ s.size) : Adv s p (namP s p).2 := by
  unfold namP
  dsimp only
  split
  · exact nxS_adv h
  · exact (nxS_adv h).bad
theorem tagP_adv {g : Bool} {s : ByteArray} {p : PS} (h : p.1 ≤ s.size) : Adv s p (tagP g s p).2 := by
  unfold tagP
  split
  · exact nxS_adv h
  · exact (nxS_adv h).bad
theorem manyP_adv {α : Type} {s : ByteArray} {one : PS → α × PS} (ho : ∀ p : PS, p.1 ≤ s.size → Adv s p (one p).2) : ∀ (n : Nat) (p : PS), p.1 ≤ s.size → Stp s p (manyP s one n p).2 ∧ (n ≠ 0 → Adv s p (manyP s one n p).2) ∧ (manyP s one n p).1.length ≤ n
  | 0, p, h => ⟨⟨Nat.le_refl _, h, fun _ => rfl⟩, fun h => absurd rfl h, Nat.le_refl _⟩
  | n + 1, p, h => by
    have key : Adv s p (manyP s one (n + 1) p).2 ∧ (manyP s one (n + 1) p).1.length ≤ n + 1 := by
      rw [manyP]
      split
      · split
        · exact ⟨Adv.trans (Stp.pk h) (wantS_adv (pkA_le h).2), Nat.zero_le _⟩
        · have h1 := ho (pkA s p.1, p.2) (pkA_le h).2
          obtain ⟨h2, _, h3⟩ := manyP_adv ho n (one (pkA s p.1, p.2)).2 h1.sz
          exact ⟨Adv.trans (Stp.pk h) (h1.then h2), by simpa using h3⟩
      · exact ⟨wantS_adv h, Nat.zero_le _⟩
    exact ⟨key.1.toStp, fun _ => key.1, key.2⟩
theorem casP_adv {g : Bool} {s : ByteArray} {one : PS → Tm × PS} (ho : ∀ p : PS, p.1 ≤ s.size → Adv s p (one p).2) {p : PS} (h : p.1 ≤ s.size) : Adv s p (casP g s one p).2 := by
  unfold casP
  dsimp only
  have h1 := wantS_adv (w := lbr) h
  have h2 := tagP_adv (g := g) h1.sz
  have h3 := wantS_adv (w := lbr) h2.sz
  have h4 := (manyP_adv (fun p h => namP_adv h) (s.size + 2) _ h3.sz).1
  have h5 := ho _ h4.sz
  exact (h1.then h2.toStp).then ((h3.toStp.trans h4).trans (h5.toStp.trans (wantS_adv h5.sz).toStp))
theorem formP_adv {g : Bool} {s w : ByteArray} {one : PS → Tm × PS} (ho : ∀ p : PS, p.1 ≤ s.size → Adv s p (one p).2) {p : PS} (h : p.1 ≤ s.size) : Adv s p (formP g s one w p).2 := by
  unfold formP
  split
  · have h1 := tagP_adv (g := g) h
    exact h1.then (manyP_adv ho _ _ h1.sz).1
  split
  · have h1 := nxS_adv h
    have h2 := namP_adv h1.sz
    have h3 := ho _ h2.sz
    have h4 := ho _ h3.sz
    exact (h1.then h2.toStp).then (h3.toStp.trans (h4.toStp.trans (wantS_adv h4.sz).toStp))
  split
  · have h1 := nxS_adv h
    have h3 := ho _ h1.sz
    exact h1.then (h3.toStp.trans (manyP_adv (fun p h => casP_adv ho h) _ _ h3.sz).1)
  split
  · have h1 := nxS_adv h
    have h3 := ho _ h1.sz
    have h4 := ho _ h3.sz
    exact h1.then (h3.toStp.trans (h4.toStp.trans (wantS_adv h4.sz).toStp))
  · have h1 := namP_adv h
    exact h1.then (manyP_adv ho _ _ h1.sz).1
theorem ps_adv {g : Bool} {s : ByteArray} : ∀ (n : Nat) (p : PS), p.1 ≤ s.size → Adv s p (Tm.ps g s n p).2
  | 0, p, h => ⟨⟨Nat.le_refl _, h, fun e => badE_er e⟩, .inl (badE_ne (by decide))⟩
  | n + 1, p, h => by
    rw [Tm.ps]
    split
    · have h1 := nxS_adv h
      exact h1.then ((Stp.pk h1.sz).trans (formP_adv (ps_adv n) (pkA_le h1.sz).2).toStp)
    · refine Adv.trans (Stp.pk h) ?_
      have h1 := nxS_adv (s := s) (p := (pkA s p.1, p.2)) (pkA_le h).2
      unfold atomP
      split
      · exact h1
      · dsimp only
        split
        · exact h1
        · exact h1.bad
theorem fnP_adv {g : Bool} {s : ByteArray} {p : PS} (h : p.1 ≤ s.size) : Adv s p (fnP g s p).2 := by
  unfold fnP
  dsimp only
  have h1 := wantS_adv (w := lbr) h
  have h2 := wantS_adv (w := wFn) h1.sz
  have h3 := namP_adv h2.sz
  have h4 := wantS_adv (w := lbr) h3.sz
  have h5 := (manyP_adv (fun p h => namP_adv h) (s.size + 2) _ h4.sz).1
  have h6 := ps_adv (g := g) 25 _ h5.sz
  exact (h1.then h2.toStp).then ((h3.toStp.trans h4.toStp).trans (h5.trans (h6.toStp.trans (wantS_adv h6.sz).toStp)))

theorem numP_in (s : ByteArray) : inI (numP s).1 := by
  unfold numP
  rcases h : Lib.atoiAll s.data.toList with v | _ | _
  · exact Lib.atoiAll_bounds h
  · exact ⟨by dsimp only; decide, by dsimp only; decide⟩
  · exact Lib.atoiSat_bounds _
set_option maxRecDepth 100000 in
set_option maxHeartbeats 4000000 in
theorem number_calls (s : ByteArray) (hs : s.size ≤ 281474976710656) (w : World) (hg : GI w) : Calls Tryd.prog 137 #[.string s] w fun e w' => e = .returned (.tuple #[.int .i64 (numP s).1, .bool (numP s).2]) ∧ Below w.heap.size w w' := by
  have gi : ∀ w' : World, Below w.heap.size w w' → GI w' := fun w' hB => hg.keep fun b hb => hB.block b (hg.lt hb)
  unfold numP
  rcases h : Lib.atoiAll s.data.toList with v | _ | _
  · have hv := Lib.atoiAll_bounds h
    go_enter Tryd.func137, Tryd.ntmps137
    go_wp2_with (first
      | (go_at_call 167; refine (Tryd.strconv_Atoi_ok s (by omega) v h _).mono ?_; rintro e w1 ⟨rfl, hw⟩; have hB : Below w.heap.size w w1 := by
          rcases hw with rfl | ⟨t, rfl⟩
          · exact Below.refl _ _
          · exact Lib.bytesWorld_below _ _ _
         clear hw; have hG := (gi _ hB).pow)
      | (go_at_call 97; refine (Tryd.strconv_Itoa v hv.1 hv.2 _ (by assumption)).mono ?_; rintro e w2 ⟨rfl, k, os, rfl⟩))
    go_ret2
    refine ⟨?_, hB.trans ⟨rfl, rfl, rfl, by simp [Go.Sort.grow, World.drewN], fun b hb => ?_⟩⟩
    · have e1 : (Lib.itoa v == s.toList) = decide ((⟨(Lib.itoa v).toArray⟩ : ByteArray) = s) := by
        have h2 := ByteArray.beq_toList (⟨(Lib.itoa v).toArray⟩ : ByteArray) s
        rwa [ByteArray.toList_eq (⟨(Lib.itoa v).toArray⟩ : ByteArray)] at h2
      show _ = Ending.returned (Value.tuple #[Value.int IntKind.i64 v, Value.bool (decide ((⟨(Lib.itoa v).toArray⟩ : ByteArray) = s))])
      rw [← e1]
      rfl
    simp only [Go.Sort.grow, World.drewN]
    rw [Array.getElem?_append_left (Nat.lt_of_lt_of_le hb hB.size)]
  · obtain ⟨tp, p, hvar⟩ := hg.syn
    go_enter Tryd.func137, Tryd.ntmps137
    go_wp2_with (go_at_call 167; refine (Tryd.strconv_Atoi_syntax_var s hs h tp p _ hvar).mono ?_; rintro e w' ⟨N, rfl, _, _, hB⟩)
    go_ret2
    exact ⟨rfl, hB⟩
  · obtain ⟨tp, p, hvar⟩ := hg.rng
    go_enter Tryd.func137, Tryd.ntmps137
    go_wp2_with (go_at_call 167; refine (Tryd.strconv_Atoi_range_var s hs h tp p _ hvar).mono ?_; rintro e w' ⟨N, rfl, _, _, hB⟩)
    go_ret2
    exact ⟨rfl, hB⟩
theorem sp_Number (s : ByteArray) (hs : s.size ≤ 281474976710656) : PSpec Tryd.prog 137 [.d (.str s)] (fun _ => .tuple [.d (.int (numP s).1), .d (.bool (numP s).2)]) none := by
  refine ⟨⟨_, Tryd.func137, rfl, rfl⟩, fun d => rfl, fun _ d => rfl, by simp, fun d w ok vals hgi hok hl hv => ?_⟩
  match vals, hl with
  | ⟨[v]⟩, _ =>
  obtain ⟨rfl, _⟩ := (hv 0 _ v rfl rfl).d_inv.str_inv
  refine (number_calls s hs w hgi).mono ?_
  rintro e w' ⟨rfl, hB⟩
  obtain ⟨h1, h2⟩ := numP_in s
  exact ⟨_, ok, noG, rfl, hB, fun b h => h, fun b h => .inl h, .tuple _ _ rfl (fun i c v hc hv => by
    rcases i with _ | _ | i <;> simp at hc hv <;> subst hc hv
    · exact .d _ _ (.int _ h1 h2)
    · exact .d _ _ (.bool _)), by simp⟩
end Go.Proofs.YtapiiklnnkkdlaaDoor
