import Derived.Test.YtapiiklnnkkdlaaDoorEvalD
import Derived.Test.YtapiiklnnkkdlaaDoorScopeC
import Derived.Test.YtapiiklnnkkdlaaDoorPlainQ
/- The program's evaluator put together; eval.Run. Printed by a small program. -/
namespace Go.Proofs.YtapiiklnnkkdlaaDoor
open Go.RowKit
attribute [local simp] runD mkRc ldOf stOf stOk ldArg noAny dstOk guardOk opEff opEff0 effOp pureOp callOp zEff evA constAV scalAV Value.oneCell' frGet memGet startAS frOf isGoCall idIn AS.after nextR opnIds objIds AV.ids idsL AObj.ids frNo memNo opnAny isAny mkVal rdCells wrCells fldAddr idxAddr srcRows litRows toD1 toDs setAt sliceAV optI partAV bldAV fillAV binAV binI AV.cells callEff calleeOf frKill memKill AV.kill AObj.kill AV.has AV.hasL Op.operands Call.operands keepF keepM viewIds cChk renOf moGet moWs moQ cEff moLike moHave AV.ren renL AObj.ren AObj.like kept startC moMem AV.frz frz1 frzL frSub memSub frzs AS.frz frFrz memFrz AObj.frz takeMap takeLen bleF Nat.ble_eq memAny objAny mapOp D.keyOk rowAV valRow extOp wrapOp phO frLow memLow memLow1 objLow memEmpty Low LowL
set_option linter.unusedVariables false
set_option linter.unusedSimpArgs false
theorem eval_all {l : List Fn} (hl : l.length ≤ 879609302220) (hok : ∀ x ∈ l, x.body.Ok) (hr : ∀ x ∈ l, x.Fit (arOf l)) : ∀ n, n ≤ 40 → CallE l n ∧ ∀ N, TermE l n N := by
  intro n
  induction n with
  | zero =>
    intro h
    have hC : CallE l 0 := ev_call_step l 0 hl hok hr h fun k hk => by omega
    refine ⟨hC, fun N => ?_⟩
    induction N with
    | zero => intro t env names deep fuel hN; omega
    | succ N ih => exact ev_term_step l 0 N (evCall_fine true hr 0) ih (ev_all_step l 0 N (evCall_fine true hr 0) ih) (ev_match_step l 0 N ih) hC
  | succ n ihn =>
    intro h
    have hC : CallE l (n + 1) := ev_call_step l (n + 1) hl hok hr h fun k hk => by
      obtain rfl : k = n := by omega
      exact (ihn (by omega)).2
    refine ⟨hC, fun N => ?_⟩
    induction N with
    | zero => intro t env names deep fuel hN; omega
    | succ N ih => exact ev_term_step l (n + 1) N (evCall_fine true hr (n + 1)) ih (ev_all_step l (n + 1) N (evCall_fine true hr (n + 1)) ih) (ev_match_step l (n + 1) N ih) hC
def intR (n : Int) : List D := [.int n]
abbrev intsAV (l : List Int) : AV := .d (.sl (l.map intR))
def argV (n : Int) : Vl := .mk false (wr32 n) []
theorem argV_fine (n : Int) : (argV n).Fine := ⟨wr32_in n, Nat.zero_le _, trivial⟩
noncomputable def runE (g : Bool) (l : List Fn) (name : ByteArray) (args : List Int) (fuel : Int) : Vl × Int :=
  if fuel < 0 ∨ 300 < fuel then (zeroV, 3) else if (evCall g l 40 name (args.map argV) fuel).2.2 ≠ 0 then (zeroV, (evCall g l 40 name (args.map argV) fuel).2.2)
  else if 0 ≤ (evCall g l 40 name (args.map argV) fuel).1.left 1000 then ((evCall g l 40 name (args.map argV) fuel).1, 0) else (zeroV, 4)
set_option maxRecDepth 20000 in
set_option maxHeartbeats 16000000 in
theorem sp_evRun (l : List Fn) (name : ByteArray) (args : List Int) (fuel : Int) (hl : l.length ≤ 879609302220) (hok : ∀ x ∈ l, x.body.Ok) (hr : ∀ x ∈ l, x.Fit (arOf l)) (ha : args.length ≤ 1048576) : PSpec Tryd.prog 30 [fnsAV l, .d (.str name), intsAV args, .d (.int fuel)] (fun _ => .tuple [vlP (runE true l name args fuel).1, .d (.int (runE true l name args fuel).2)]) none := by
  obtain ⟨R, hR⟩ : ∃ R, R = runE true l name args fuel := ⟨_, rfl⟩
  rw [← hR]
  unfold runE at hR
  obtain ⟨vs, hvs⟩ : ∃ vs, vs = args.map argV := ⟨_, rfl⟩
  refine PSpec.of Tryd.func30 rfl rfl rfl (Nat.le_of_ble_eq_true rfl) ?_
  show AWp _ _ (endQ _ Tryd.f30 _ _ _) (startAS 69 _)
  refine AWp.rg [] [] ?_ (hr := by conv => lhs; simp [Vl.row, Vl.rows_eq])
  by_cases q1 : fuel < 0
  · refine AWp.rg [] [] ?_ (hr := by conv => lhs; simp [Vl.row, Vl.rows_eq, q1])
    refine AWp.cy ?_
    rw [if_pos (by omega)] at hR
    subst hR
    refine AWp.rg [] [] ?_ (hr := by conv => lhs; simp [Vl.row, Vl.rows_eq, q1])
    refine AWp.ret ?_
    try dsimp only [thenQ, blockQ]
    apply endQ.ret
    · rfl
    · conv => lhs; simp [resAV, Tryd.results30]
    · rfl
  by_cases q2 : 300 < fuel
  · refine AWp.rg [] [] ?_ (hr := by conv => lhs; simp [Vl.row, Vl.rows_eq, q1, q2])
    refine AWp.cy ?_
    rw [if_pos (by omega)] at hR
    subst hR
    refine AWp.rg [] [] ?_ (hr := by conv => lhs; simp [Vl.row, Vl.rows_eq, q1, q2])
    refine AWp.ret ?_
    try dsimp only [thenQ, blockQ]
    apply endQ.ret
    · rfl
    · conv => lhs; simp [resAV, Tryd.results30]
    · rfl
  refine AWp.rg [] [] ?_ (hr := by conv => lhs; simp [Vl.row, Vl.rows_eq, q1, q2])
  refine AWp.cn ?_
  refine AWp.skip ?_
  have hfu : ¬ (fuel < 0 ∨ 300 < fuel) := by omega
  rw [if_neg hfu] at hR
  refine AWp.rg [] [] ?_ (hr := by conv => lhs; simp [Vl.row, Vl.rows_eq, q1, q2])
  refine AWp.rg [] [] ?_ (hr := by conv => lhs; simp [Vl.row, Vl.rows_eq, q1, q2])
  refine AWp.rg [] [] ?_ (hr := by conv => lhs; simp [Vl.row, Vl.rows_eq, q1, q2])
  repeat (first | refine AWp.seq ?_ | refine AWp.block ?_)
  refine AWp.le (Le.low [400] [] (fr := [(1, .d (.str name)), (8, .ptr 8 0), (10, .ptr 25 0), (11, .arr 400 0 0), (26, .d (.sl (args.map intR))), (27, .d (.int (args.length : Int))), (28, .d (.int 0))]) (mem := [(8, some (.blk 47 [.d (.bool false), .d (.int 0), .lit (.slice none 0 0)])), (25, some (.blk 84 [.d (.sl (l.map Fn.row)), .d (.int fuel), .d (.int 0), .d (.int 0)])), (400, some (.arr 47 3 ((vs.map Vl.row).take 0)))]) rfl (by simp [intR]) (by simp [intR])) ?_
  refine AWp.loop (σ := fun u : {u : Nat // u ≤ args.length} => ⟨69, [(1, .d (.str name)), (8, .ptr 8 0), (10, .ptr 25 0), (11, .arr 400 0 u.1), (26, .d (.sl (args.map intR))), (27, .d (.int (args.length : Int))), (28, .d (.int u.1))], [(8, some (.blk 47 [.d (.bool false), .d (.int 0), .lit (.slice none 0 0)])), (25, some (.blk 84 [.d (.sl (l.map Fn.row)), .d (.int fuel), .d (.int 0), .d (.int 0)])), (400, some (.arr 47 3 ((vs.map Vl.row).take u.1)))]⟩)
    (μ := fun u => args.length - u.1) ⟨0, Nat.zero_le _⟩ (Le.sub (by simp [intR]) (by simp [intR])) (fun ⟨i, hi6⟩ => ?_)
  dsimp only
  refine AWp.rg [] [] ?_ (hr := by conv => lhs; simp [Vl.row, Vl.rows_eq, q1, q2])
  repeat (first | refine AWp.seq ?_ | refine AWp.block ?_)
  refine AWp.cond rfl (fun hc => ?_) (fun hc => ?_)
  · have hi1 : i < args.length := by have := of_decide_eq_true hc; omega
    clear hc
    have h1x : args[i]? = some args[i] := List.getElem?_eq_getElem hi1
    have hmx : args[i] ∈ args := List.getElem_mem hi1
    have hdx : args.drop i = args[i] :: args.drop (i + 1) := List.drop_eq_getElem_cons hi1
    generalize args[i] = x at h1x hmx hdx
    have hvi : vs[i]? = some (argV x) := by rw [hvs, List.getElem?_map, h1x]; rfl
    have hti : (vs.map Vl.row).take (i + 1) = (vs.map Vl.row).take i ++ [(argV x).row] := by rw [List.take_add_one, List.getElem?_map, hvi]; rfl
    have hw32 := inI_wr32 x
    have hvl : vs.length = args.length := by rw [hvs, List.length_map]
    have hmn : min i vs.length = i := Nat.min_eq_left (by omega)
    refine AWp.skip ?_
    refine AWp.rg [] [] ?_ (hr := by conv => lhs; simp [Vl.row, Vl.rows_eq, h1x, intR, q1, q2])
    refine AWp.rg [] [] ?_ (hr := by conv => lhs; simp [Vl.row, Vl.rows_eq, h1x, intR, q1, q2])
    refine AWp.rg [] [] ?_ (hr := by conv => lhs; simp [Vl.row, Vl.rows_eq, h1x, intR, q1, q2])
    refine ⟨⟨i + 1, hi1⟩, by simp; omega, ?_⟩
    dsimp only
    rw [hti]
    exact Le.sub (by simp [argV, Vl.row, Vl.rows_eq, hmn]) (by simp [argV, Vl.row, Vl.rows_eq, hmn])
  have hi1 : i = args.length := by have := of_decide_eq_false hc; omega
  subst hi1
  clear hc
  rw [show args.length = vs.length by rw [hvs, List.length_map], takeMap]
  refine AWp.exit ?_
  apply AWp.frzs [400]
  · conv => lhs; simp
  have hx := (eval_all hl hok hr 40 (Nat.le_refl _)).1 name vs fuel (fun v hv => by rw [hvs] at hv; obtain ⟨n, _, rfl⟩ := List.mem_map.1 hv; exact argV_fine n) (by rw [hvs, List.length_map]; exact ha) (by omega) (by omega)
  have hfn := evCall_fine true hr 40 name vs fuel (fun v hv => by rw [hvs] at hv; obtain ⟨n, _, rfl⟩ := List.mem_map.1 hv; exact argV_fine n) (by omega) (by omega)
  rw [show (40 : Int) - ((40 : Nat) : Int) = 0 by omega] at hx
  obtain ⟨c2, hc2⟩ : ∃ c2 : Int, c2 = 0 := ⟨_, rfl⟩
  rw [← hvs] at hR
  generalize evCall true l 40 name vs fuel = o at hx hR hfn
  obtain ⟨v, f2, e⟩ := o
  dsimp only at hx hR hfn
  have hvo := hfn.1.ok
  have hfw := sp_Few v hvo
  have how := sp_evOwn v hvo
  obtain ⟨B, hB⟩ : ∃ B, B = decide (0 ≤ v.left 1000) := ⟨_, rfl⟩
  rw [← hB] at hfw
  have hBt : B = true → R = (if e ≠ 0 then (zeroV, e) else (v, 0)) := fun h => by rw [h] at hB; rw [hR, if_pos (of_decide_eq_true hB.symm)]
  have hBf : B = false → R = (if e ≠ 0 then (zeroV, e) else (zeroV, 4)) := fun h => by rw [h] at hB; rw [hR, if_neg (of_decide_eq_false hB.symm)]
  clear hB hR
  obtain ⟨vc, vn, vks⟩ := v
  refine AWp.rg [] [.c [(1000, 25)] [.ptr 1000 0, .d (.str name), .d (.sl (vs.map Vl.row))] [(1000, .blk 84 [.d (.sl (l.map Fn.row)), .d (.int fuel), .d (.int 0), .d (.int 0)])] (.agg [.d (.bool vc), .d (.int vn), .d (.sl (vks.map Vl.row))]) [(1000, .blk 84 [.d (.sl (l.map Fn.row)), .d (.int f2), .d (.int 0), .d (.int e)])]] ?_ (hr := by conv => lhs; simp [Vl.row, Vl.rows_eq, q1, q2])
  by_cases q3 : e = 0
  · cases B with
    | true =>
      refine AWp.rg [] [.p (fun _ => .d (.bool true)) none] ?_ (hr := by conv => lhs; simp [Vl.row, Vl.rows_eq, q1, q2, q3])
      refine AWp.cn ?_
      refine AWp.skip ?_
      refine AWp.rg [] [] ?_ (hr := by conv => lhs; simp [Vl.row, Vl.rows_eq, q1, q2, q3])
      refine AWp.cn ?_
      refine AWp.skip ?_
      subst q3
      obtain rfl := hBt rfl
      rw [if_neg (fun e => e rfl)]
      refine AWp.rg [] [.p (fun _ => .agg [.d (.bool vc), .d (.int vn), .d (.sl (vks.map Vl.row))]) none] ?_ (hr := by conv => lhs; simp [Vl.row, Vl.rows_eq, q1, q2])
      refine AWp.ret ?_
      try dsimp only [thenQ, blockQ]
      apply endQ.ret
      · rfl
      · conv => lhs; simp [resAV, Tryd.results30]
      · rfl
    | false =>
      refine AWp.rg [] [.p (fun _ => .d (.bool false)) none] ?_ (hr := by conv => lhs; simp [Vl.row, Vl.rows_eq, q1, q2, q3])
      refine AWp.cy ?_
      refine AWp.rg [] [] ?_ (hr := by conv => lhs; simp [Vl.row, Vl.rows_eq, q1, q2, q3])
      refine AWp.rg [] [] ?_ (hr := by conv => lhs; simp [Vl.row, Vl.rows_eq, q1, q2, q3])
      refine AWp.cy ?_
      subst q3
      obtain rfl := hBf rfl
      rw [if_neg (fun e => e rfl)]
      refine AWp.dw [] [] mixed ?_ (hr := by conv => lhs; simp [Vl.row, Vl.rows_eq, q1, q2])
      refine AWp.ret ?_
      try dsimp only [thenQ, blockQ]
      apply endQ.ret
      · rfl
      · conv => lhs; simp [resAV, Tryd.results30]
      · rfl
  refine AWp.rg [] [] ?_ (hr := by conv => lhs; simp [Vl.row, Vl.rows_eq, q1, q2, q3])
  refine AWp.cn ?_
  refine AWp.skip ?_
  refine AWp.rg [] [] ?_ (hr := by conv => lhs; simp [Vl.row, Vl.rows_eq, q1, q2, q3])
  refine AWp.cy ?_
  obtain rfl : R = (zeroV, e) := by
    cases B with
    | true => rw [hBt rfl, if_pos q3]
    | false => rw [hBf rfl, if_pos q3]
  refine AWp.dw [] [] mixed ?_ (hr := by conv => lhs; simp [Vl.row, Vl.rows_eq, q1, q2, q3])
  refine AWp.ret ?_
  try dsimp only [thenQ, blockQ]
  apply endQ.ret
  · rfl
  · conv => lhs; simp [resAV, Tryd.results30]
  · rfl
end Go.Proofs.YtapiiklnnkkdlaaDoor

namespace Go.Proofs.YtapiiklnnkkdlaaDoor
open Go.RowKit
set_option linter.unusedVariables false
set_option linter.unusedSimpArgs false
def ORel (o o' : Out) : Prop := o.2 = o'.2 ∧ (o.2.2 = 0 → o.1 = o'.1)
def LRel (o o' : OutL) : Prop := o.2 = o'.2 ∧ (o.2.2 = 0 → o.1 = o'.1)
theorem ORel.refl (o : Out) : ORel o o := ⟨rfl, fun _ => rfl⟩
theorem ORel.eq {o o' : Out} (h : ORel o o') (he : o.2.2 = 0) : o = o' := by
  obtain ⟨v, f, e⟩ := o
  obtain ⟨v', f', e'⟩ := o'
  obtain ⟨h1, h2⟩ := h
  cases h1
  rw [show v = v' from h2 he]
theorem LRel.eq {o o' : OutL} (h : LRel o o') (he : o.2.2 = 0) : o = o' := by
  obtain ⟨v, f, e⟩ := o
  obtain ⟨v', f', e'⟩ := o'
  obtain ⟨h1, h2⟩ := h
  cases h1
  rw [show v = v' from h2 he]
theorem ORel.err {o o' : Out} (h : ORel o o') : o'.2.2 = o.2.2 ∧ o'.2.1 = o.2.1 := ⟨(congrArg Prod.snd h.1).symm, (congrArg Prod.fst h.1).symm⟩
theorem evT_g {C C' : CallF} (hC : ∀ a vs f, ORel (C a vs f) (C' a vs f)) : ∀ (N : Nat) (t : Tm) (env : Env) (fuel : Int), t.sz < N → ORel (evT true C t env fuel) (evT false C' t env fuel) := by
  intro N
  induction N with
  | zero => intro t _ _ h; omega
  | succ N ih =>
  intro t env fuel hN
  obtain ⟨k, n, a, b, vs, xs, cs⟩ := t
  have hx : ∀ x ∈ xs, x.sz < N := fun x hj => by have := Tm.sz_arg (k := k) (n := n) (a := a) (b := b) (vs := vs) (cs := cs) hj; omega
  have hL : ∀ (ys : List Tm) (fuel : Int), (∀ y ∈ ys, y.sz < N) → LRel (evL true C ys env fuel) (evL false C' ys env fuel) := by
    intro ys
    induction ys with
    | nil => intro fuel _; rw [evL, evL]; exact ⟨rfl, fun _ => rfl⟩
    | cons y r ih2 =>
      intro fuel hm
      have h1 := ih y env fuel (hm y (List.mem_cons_self ..))
      rw [evL, evL, h1.err.1, h1.err.2]
      by_cases h : (evT true C y env fuel).2.2 = 0
      · have hn : ¬ (evT true C y env fuel).2.2 ≠ 0 := fun e => e h
        simp only [if_neg hn]
        have h2 := ih2 (evT true C y env fuel).2.1 fun z hz => hm z (List.mem_cons_of_mem _ hz)
        refine ⟨h2.1, fun e => ?_⟩
        simp only [consL] at e ⊢
        rw [h2.2 e, h1.2 h]
      · have hn : (evT true C y env fuel).2.2 ≠ 0 := h
        simp only [if_pos hn]
        exact ⟨rfl, fun e => absurd e h⟩
  have hB : ∀ (v : Vl) (ds : List Cs) (f : Int), (∀ d ∈ ds, d ∈ cs) → ORel (evC true C v ds env f) (evC false C' v ds env f) := by
    intro v ds
    induction ds with
    | nil => intro f _; rw [evC, evC]; exact ORel.refl _
    | cons d r ih2 =>
      intro f hm
      obtain ⟨t, ws, y⟩ := d
      have hd := hm _ (List.mem_cons_self ..)
      rw [evC, evC]
      split
      · split
        · rw [evB, evB]
          exact ih y _ f (by have := Tm.sz_case (k := k) (n := n) (a := a) (b := b) (vs := vs) (xs := xs) hd; omega)
        · exact ORel.refl _
      · exact ih2 f fun z hz => hm z (List.mem_cons_of_mem _ hz)
  rw [evT, evT]
  by_cases k1 : k = 1
  · rw [if_pos k1, if_pos k1]; exact ORel.refl _
  rw [if_neg k1, if_neg k1]
  by_cases k2 : k = 2
  · rw [if_pos k2, if_pos k2]; exact ORel.refl _
  rw [if_neg k2, if_neg k2]
  by_cases k6 : k = 6
  · rw [if_pos k6, if_pos k6]
    match xs, hx with
    | [], _ => rw [evLet, evLet]; exact ORel.refl _
    | x :: r, hx =>
      have h1 := ih x env fuel (hx x (List.mem_cons_self ..))
      rw [evLet, evLet, h1.err.1, h1.err.2]
      by_cases h : (evT true C x env fuel).2.2 = 0
      · have hn : ¬ (evT true C x env fuel).2.2 ≠ 0 := fun e => e h
        simp only [if_neg hn]
        rw [← h1.2 h]
        match r, hx with
        | [], _ => rw [evIn, evIn]; exact ORel.refl _
        | y :: r, hx => rw [evIn, evIn]; exact ih y _ _ (hx y (by simp))
      · have hn : (evT true C x env fuel).2.2 ≠ 0 := h
        simp only [if_pos hn]
        exact ORel.refl _
  rw [if_neg k6, if_neg k6]
  have h1 := hL xs fuel hx
  by_cases h : (evL true C xs env fuel).2.2 = 0
  · rw [← h1.eq h]
    unfold afterL
    split
    · rw [if_pos (.inl rfl), if_pos (.inr h)]; exact ORel.refl _
    split
    · exact ORel.refl _
    split
    · exact hC _ _ _
    split
    · exact ORel.refl _
    split
    · exact hB _ cs _ fun d hd => hd
    · exact ORel.refl _
  · have h' : ¬ (evL false C' xs env fuel).2.2 = 0 := by rw [← h1.1]; exact h
    have hn : (evL true C xs env fuel).2.2 ≠ 0 := h
    have hn' : (evL false C' xs env fuel).2.2 ≠ 0 := h'
    unfold afterL
    by_cases k3 : k = 3
    · simp only [if_pos k3]
      exact ⟨by rw [← h1.1], fun e => absurd e h⟩
    · simp only [if_neg k3, if_pos hn, if_pos hn']
      rw [← h1.1]
      exact ORel.refl _
theorem evCall_g (l : List Fn) : ∀ (n : Nat) (a : ByteArray) (vs : List Vl) (f : Int), ORel (evCall true l n a vs f) (evCall false l n a vs f) := by
  intro n
  induction n with
  | zero => intro a vs f; rw [evCall, evCall]; exact ORel.refl _
  | succ n ih =>
    intro a vs f
    rw [evCall, evCall]
    split
    · exact ORel.refl _
    split
    · exact ORel.refl _
    split
    · exact ORel.refl _
    · exact evT_g ih _ _ _ _ (Nat.lt_succ_self _)
theorem runE_g (l : List Fn) (name : ByteArray) (args : List Int) (fuel : Int) : runE true l name args fuel = runE false l name args fuel := by
  have h := evCall_g l 40 name (args.map argV) fuel
  unfold runE
  by_cases he : (evCall true l 40 name (args.map argV) fuel).2.2 = 0
  · rw [← h.eq he]
  · have hn : (evCall true l 40 name (args.map argV) fuel).2.2 ≠ 0 := he
    have hn' : (evCall false l 40 name (args.map argV) fuel).2.2 ≠ 0 := by rw [← h.1]; exact he
    rw [if_pos hn, if_pos hn', ← h.1]

def RnEv (names : List ByteArray) (ps : Ps) (c : Int) (env env' : Env) : Prop := ∀ s ∈ names, (∃ i, 1 ≤ i ∧ i ≤ c ∧ nowP ps s = vNm i) ∧ envVal env' (nowP ps s) = envVal env s
theorem envVal_cons (a : ByteArray) (u : Vl) (env : Env) (s : ByteArray) : envVal ((a, u) :: env) s = if a = s then u else envVal env s := by
  unfold envVal
  rw [envGet]
  split <;> rfl
theorem RnEv.mono {names : List ByteArray} {ps : Ps} {c e : Int} {env env' : Env} (h : RnEv names ps c env env') (he : c ≤ e) : RnEv names ps e env env' := fun s hs => by
  obtain ⟨⟨i, h1, h2, h3⟩, h4⟩ := h s hs
  exact ⟨⟨i, h1, by omega, h3⟩, h4⟩
theorem RnEv.one {names : List ByteArray} {ps : Ps} {c : Int} {env env' : Env} (h : RnEv names ps c env env') (h0 : 0 ≤ c) (a : ByteArray) (u : Vl) : RnEv (names ++ [a]) (ps ++ [(a, vNm (c + 1))]) (c + 1) ((a, u) :: env) ((vNm (c + 1), u) :: env') := fun s hs => by
  rw [nowP_add, envVal_cons, envVal_cons]
  by_cases e : a = s
  · rw [if_pos e, if_pos e, if_pos rfl]
    exact ⟨⟨c + 1, by omega, by omega, rfl⟩, rfl⟩
  · rw [if_neg e, if_neg e]
    have hs' : s ∈ names := (List.mem_append.1 hs).elim id fun h => absurd (List.mem_singleton.1 h).symm e
    obtain ⟨⟨i, h1, h2, h3⟩, h4⟩ := h s hs'
    rw [if_neg (fun q => by
      rw [h3] at q
      have := vNm_inj (by omega) (by omega) q
      omega)]
    exact ⟨⟨i, h1, by omega, h3⟩, h4⟩
theorem bindE_cons (w : ByteArray) (v : Vl) (ws : List ByteArray) (vs : List Vl) (env : Env) : bindE (w :: ws) (v :: vs) env = bindE ws vs ((w, v) :: env) := by
  unfold bindE
  rw [List.zip_cons_cons, List.reverse_cons, List.append_assoc]
  rfl
theorem RnEv.more : ∀ {ws : List ByteArray} {vs : List Vl} {names : List ByteArray} {ps : Ps} {c : Int} {env env' : Env}, RnEv names ps c env env' → 0 ≤ c → c + ws.length < 9223372036854775807 → ws.length = vs.length →
    RnEv (names ++ ws) (ps ++ ws.zip (freshL ws c)) (c + ws.length) (bindE ws vs env) (bindE (freshL ws c) vs env')
  | [], [], names, ps, c, env, env', h, _, _, _ => by simpa [freshL, bindE] using h
  | w :: ws, v :: vs, names, ps, c, env, env', h, h0, hb, hl => by
    rw [List.length_cons] at hb
    push_cast at hb
    have hw : wr (c + 1) = c + 1 := wr_of (by omega) (by omega)
    have h1 := RnEv.more (h.one h0 w v) (by omega) (by omega) (by simpa using hl : ws.length = vs.length)
    rw [freshL, hw, bindE_cons, bindE_cons, List.zip_cons_cons, List.length_cons]
    rw [List.append_assoc, List.append_assoc] at h1
    push_cast
    rw [show c + ((ws.length : Int) + 1) = c + 1 + ws.length from by omega]
    exact h1
  | [], _ :: _, _, _, _, _, _, _, _, _, hl => by simp at hl
  | _ :: _, [], _, _, _, _, _, _, _, _, hl => by simp at hl
theorem rn_ev (g : Bool) (C : CallF) (A : Arity) : ∀ (d : Nat) (t : Tm) (names : List ByteArray) (ps : Ps) (c deep : Int) (env env' : Env) (f : Int), t.Rt d → t.wrong A names deep = 0 → 0 ≤ c → c + t.bd.length ≤ 9999999 → RnEv names ps c env env' → evT g C (t.rn ps c).1 env' f = evT g C t env f := by
  intro d
  induction d with
  | zero => intro t _ _ _ _ _ _ _ h; exact h.elim
  | succ d ih =>
  intro t names ps c deep env env' f hR hw h0 hb hr
  obtain ⟨k, n, a, b, vs, xs, cs⟩ := t
  have hR' := hR
  obtain ⟨hk, hmany, _, hx, hc⟩ := hR'
  obtain ⟨h1, h2, h3, h4, h5, h6, h7⟩ := wrong_zero hw
  rw [Tm.rn]
  by_cases hk1 : k = 1
  · subst hk1
    rw [if_pos rfl]
    dsimp only
    rw [evT, if_pos rfl, evT, if_pos rfl]
    unfold headE at h5
    rw [if_pos rfl] at h5
    split at h5
    · rename_i hh
      rw [(hr a (hasB_iff.1 hh)).2]
    · cases h5
  rw [if_neg hk1]
  dsimp only
  by_cases hk2 : k = 2
  · rw [evT, if_neg hk1, if_pos hk2, evT, if_neg hk1, if_pos hk2]
  by_cases hk6 : k = 6
  · obtain ⟨x, y, rfl, rfl⟩ := rt_let hR hk6
    subst hk6
    have hl : (Tm.mk 6 n a b vs [x, y] []).bd.length = x.bd.length + (1 + y.bd.length) := by simp [Tm.bd, Tm.bdL, Cs.bdL]; omega
    rw [hl] at hb
    push_cast at hb
    rw [wrongs_cons, wrongs_cons, if_neg (by omega), if_pos (by omega)] at h6
    obtain ⟨_, e2⟩ := bd_rn d x ps c (hx x (by simp)) h0 (by omega)
    have hw1 : wr (c + x.bd.length + 1) = c + x.bd.length + 1 := wr_of (by omega) (by omega)
    have g1 := ih x names ps c (deep + 1) env env' f (hx x (by simp)) h6.1 h0 (by omega) hr
    have hE : Tm.rns 6 a ps 0 [x, y] a c = ([(x.rn ps c).1, (y.rn (ps ++ [(a, vNm (c + x.bd.length + 1))]) (c + x.bd.length + 1)).1], vNm (c + x.bd.length + 1), (y.rn (ps ++ [(a, vNm (c + x.bd.length + 1))]) (c + x.bd.length + 1)).2) := by simp [Tm.rns, e2, hw1]
    rw [hE, Cs.rnL]
    dsimp only
    rw [evT, if_neg (by omega), if_neg (by omega), if_pos rfl, evT, if_neg (by omega), if_neg (by omega), if_pos rfl, evLet, evLet, g1]
    split
    · rfl
    · rw [evIn, evIn]
      exact ih y (names ++ [a]) (ps ++ [(a, vNm (c + x.bd.length + 1))]) (c + x.bd.length + 1) (deep + 1) _ _ _ (hx y (by simp)) h6.2.1 (by omega) (by omega) ((hr.mono (by omega)).one (by omega) a _)
  · have hL : ∀ (ys : List Tm) (i : Nat) (nm : ByteArray) (c f : Int), (∀ y ∈ ys, y ∈ xs) → Tm.wrongs A k a names deep i ys = 0 → 0 ≤ c → c + (Tm.bdL ys).length ≤ 9999999 → RnEv names ps c env env' → evL g C (Tm.rns k a ps i ys nm c).1 env' f = evL g C ys env f ∧ (Tm.rns k a ps i ys nm c).2.2 = c + (Tm.bdL ys).length := by
      intro ys
      induction ys with
      | nil => intro i nm c f _ _ _ _ _; exact ⟨by rw [Tm.rns, evL, evL], by simp [Tm.rns, Tm.bdL]⟩
      | cons y r ih2 =>
        intro i nm c f hm hwr h0 hb hr
        rw [Tm.bdL, List.length_append] at hb ⊢
        push_cast at hb ⊢
        rw [wrongs_cons, if_neg (fun h => hk6 h.1)] at hwr
        have hy := hx y (hm y (List.mem_cons_self ..))
        obtain ⟨_, e2⟩ := bd_rn d y ps c hy h0 (by omega)
        have g0 := ih y names ps c (deep + 1) env env' f hy hwr.1 h0 (by omega) hr
        have hrec := fun f => ih2 (i + 1) nm (c + y.bd.length) f (fun z hz => hm z (List.mem_cons_of_mem _ hz)) hwr.2 (by omega) (by omega) (hr.mono (by omega))
        rw [Tm.rns, if_neg fun h => hk6 h.1, e2]
        dsimp only
        refine ⟨?_, by rw [(hrec 0).2]; omega⟩
        rw [evL, evL, g0, (hrec _).1]
    have hC : k = 7 → ∀ (v : Vl) (ys : List Cs) (had : List Int) (c f : Int), (∀ y ∈ ys, y ∈ cs) → Cs.wrongs A names deep had ys = 0 → 0 ≤ c → c + (Cs.bdL ys).length ≤ 9999999 → RnEv names ps c env env' → evC g C v (Cs.rnL ys ps c).1 env' f = evC g C v ys env f := by
      intro hk7 v ys
      induction ys with
      | nil => intro had c f _ _ _ _ _; rw [Cs.rnL, evC, evC]
      | cons y r ih2 =>
        intro had c f hm hwr h0 hb hr
        have hy := hm y (List.mem_cons_self ..)
        obtain ⟨t, ws, y⟩ := y
        rw [Cs.bdL, Cs.bd, List.length_append, List.length_append] at hb
        push_cast at hb
        rw [cwrongs_cons] at hwr
        obtain ⟨⟨w1, w2, w3, w4, w5, w6⟩, w7⟩ := hwr
        obtain ⟨e1, e2⟩ := freshL_seq ws c h0 (by omega)
        obtain ⟨_, e3⟩ := bd_rn d y (ps ++ ws.zip (freshL ws c)) (c + ws.length) (hc _ hy).2 (by omega) (by omega)
        have g1 := ih2 (t :: had) (c + ws.length + y.bd.length) f (fun z hz => hm z (List.mem_cons_of_mem _ hz)) w7 (by omega) (by omega) (hr.mono (by omega))
        rw [Cs.rnL, Cs.rn, e2, e3]
        dsimp only
        rw [evC, evC, g1]
        show (if t = v.n then if (freshL ws c).length = v.kids.length then _ else _ else _) = if t = v.n then if ws.length = v.kids.length then _ else _ else _
        rw [freshL_len]
        by_cases q1 : t = v.n
        · rw [if_pos q1, if_pos q1]
          by_cases q2 : ws.length = v.kids.length
          · rw [if_pos q2, if_pos q2, evB, evB]
            exact ih y (names ++ ws) (ps ++ ws.zip (freshL ws c)) (c + ws.length) (deep + 1) _ _ f (hc _ hy).2 w6 (by omega) (by omega) (RnEv.more hr h0 (by omega) q2)
          · rw [if_neg q2, if_neg q2]
        · rw [if_neg q1, if_neg q1]
    have hl : (Tm.mk k n a b vs xs cs).bd.length = (Tm.bdL xs).length + (Cs.bdL cs).length := by simp [Tm.bd, hk6]
    rw [hl] at hb
    push_cast at hb
    obtain ⟨g1, g3⟩ := hL xs 0 a c f (fun _ h => h) h6 h0 (by omega) hr
    have hno := rns_no hk6 a ps xs 0 a c
    rw [hno, g3, evT, if_neg hk1, if_neg hk2, if_neg hk6, evT, if_neg hk1, if_neg hk2, if_neg hk6, g1]
    unfold afterL
    by_cases k3 : k = 3
    · rw [if_pos k3, if_pos k3]
    rw [if_neg k3, if_neg k3]
    by_cases k4 : k = 4
    · rw [if_pos k4, if_pos k4]
    rw [if_neg k4, if_neg k4]
    by_cases k5 : k = 5
    · rw [if_pos k5, if_pos k5]
    rw [if_neg k5, if_neg k5]
    have hk7 : k = 7 := by omega
    dsimp only
    rw [hC hk7 _ cs [] _ _ (fun _ h => h) (h7 hk7).2.2 (by omega) (by omega) (hr.mono (by omega))]
theorem find_map {α : Type} (F : α → α) (p : α → Bool) (hp : ∀ x, p (F x) = p x) : ∀ l : List α, (l.map F).find? p = (l.find? p).map F
  | [] => rfl
  | x :: r => by
    rw [List.map_cons, List.find?_cons, List.find?_cons, hp x]
    cases p x with
    | true => rfl
    | false => exact find_map F p hp r
structure RnOk (A : Arity) (x : Fn) : Prop where
  rt : x.body.Rt 25
  wrong : x.body.wrong A x.params 0 = 0
  bd : x.params.length + x.body.bd.length ≤ 9999999
theorem evCall_rn (g : Bool) {A : Arity} {l : List Fn} (h : ∀ x ∈ l, RnOk A x) : ∀ (n : Nat) (a : ByteArray) (vs : List Vl) (f : Int), evCall g (l.map Fn.rn) n a vs f = evCall g l n a vs f := by
  have hf : ∀ a, (l.map Fn.rn).find? (fun x => eqB x.name a) = (l.find? (fun x => eqB x.name a)).map Fn.rn := fun a => find_map Fn.rn (fun x => eqB x.name a) (fun x => rfl) l
  intro n
  induction n with
  | zero =>
    intro a vs f
    rw [evCall, evCall, hf a]
    cases hq : l.find? (fun x => eqB x.name a) with
    | none => rfl
    | some y =>
      simp only [Option.map_some]
      rw [show y.rn.params.length = y.params.length from freshL_len _ _]
  | succ n ih =>
    intro a vs f
    rw [evCall, evCall, hf a]
    cases hq : l.find? (fun x => eqB x.name a) with
    | none => rfl
    | some y =>
      have hy := h y (List.mem_of_find?_eq_some hq)
      simp only [Option.map_some]
      rw [show y.rn.params.length = y.params.length from freshL_len _ _]
      by_cases q : y.params.length ≠ vs.length
      · rw [if_pos q, if_pos q]
      rw [if_neg q, if_neg q]
      have hl : y.params.length = vs.length := by omega
      have hbd := hy.bd
      have hC : evCall g (l.map Fn.rn) n = evCall g l n := funext fun a => funext fun vs => funext fun f => ih a vs f
      rw [hC]
      obtain ⟨e1, e2⟩ := freshL_seq y.params 0 (by omega) (by omega)
      have hE : RnEv y.params (y.params.zip (freshL y.params 0)) (freshC y.params 0) (bindE y.params vs []) (bindE (freshL y.params 0) vs []) := by
        have := RnEv.more (c := 0) (ws := y.params) (vs := vs) (names := []) (ps := []) (env := []) (env' := []) (fun s hs => by cases hs) (by omega) (by omega) hl
        rw [e2]
        simpa using this
      have := rn_ev g (evCall g l n) A 25 y.body y.params _ (freshC y.params 0) 0 _ _ (f - 1) hy.rt hy.wrong (by omega) (by omega) hE
      show (if f = 0 then _ else evT g (evCall g l n) (y.body.rn (y.params.zip (freshL y.params 0)) (freshC y.params 0)).1 (bindE (freshL y.params 0) vs []) (f - 1)) = _
      rw [this]
theorem runE_rn (g : Bool) {A : Arity} {l : List Fn} (h : ∀ x ∈ l, RnOk A x) (name : ByteArray) (args : List Int) (fuel : Int) : runE g (l.map Fn.rn) name args fuel = runE g l name args fuel := by
  unfold runE
  rw [evCall_rn g h]

theorem bd_le : ∀ (d : Nat) (t : Tm), t.Rt d → t.bd.length + 6 ≤ 7 * t.sz := by
  intro d
  induction d with
  | zero => intro t h; exact h.elim
  | succ d ih =>
  intro t hR
  obtain ⟨k, n, a, b, vs, xs, cs⟩ := t
  obtain ⟨hk, hmany, _, hx, hc⟩ := hR
  have hL : ∀ ys : List Tm, (∀ y ∈ ys, y ∈ xs) → (Tm.bdL ys).length ≤ 7 * Tm.szs ys := by
    intro ys
    induction ys with
    | nil => intro _; simp [Tm.bdL]
    | cons y r ih2 =>
      intro hm
      have h1 := ih y (hx y (hm y (List.mem_cons_self ..)))
      have h2 := ih2 fun z hz => hm z (List.mem_cons_of_mem _ hz)
      rw [Tm.bdL, List.length_append, Tm.szs]
      omega
  have hC : ∀ ys : List Cs, (∀ y ∈ ys, y ∈ cs) → (Cs.bdL ys).length ≤ 7 * Cs.szs ys := by
    intro ys
    induction ys with
    | nil => intro _; simp [Cs.bdL]
    | cons y r ih2 =>
      intro hm
      have hy := hc y (hm y (List.mem_cons_self ..))
      obtain ⟨t, ws, y⟩ := y
      have h1 := ih y hy.2
      have h2 := ih2 fun z hz => hm z (List.mem_cons_of_mem _ hz)
      have h3 : ws.length ≤ 6 := hy.1
      rw [Cs.bdL, Cs.bd, List.length_append, List.length_append, Cs.szs, Cs.sz]
      omega
  have h1 := hL xs fun _ h => h
  have h2 := hC cs fun _ h => h
  rw [Tm.bd, List.length_append, List.length_append, Tm.sz]
  have h3 : (if k = 6 then [a] else []).length ≤ 1 := by split <;> simp
  omega
theorem arOf_map (F : Fn → Fn) (hn : ∀ x, (F x).name = x.name) (hp : ∀ x, (F x).params.length = x.params.length) (l : List Fn) : arOf (l.map F) = arOf l := by
  unfold arOf
  rw [← List.map_reverse, List.map_map]
  refine List.map_congr_left fun x _ => ?_
  simp [hn, hp]
theorem Fn.rn_plen (f : Fn) : f.rn.params.length = f.params.length := freshL_len _ _
theorem Fn.Right.rnOk {A : Arity} {x : Fn} (h : x.Right A) (hr : x.body.Rt 25) : RnOk A x :=
  ⟨hr, h.wrong, by have := bd_le 25 x.body hr; have := h.sz; have := h.params; omega⟩
theorem Fn.Right.rn {A : Arity} {x : Fn} (h : x.Right A) (hr : x.body.Rt 25) : x.rn.Right A := by
  have hb := (h.rnOk hr).bd
  obtain ⟨e1, e2⟩ := freshL_seq x.params 0 (by omega) (by omega)
  have hp : x.rn.params = seqV 0 x.params.length := e1
  have hpa := h.params
  have hsz := h.sz
  have hs : x.rn.body.sz ≤ x.body.sz := Tm.rn_sz _ _ _
  refine ⟨h.name, by rw [hp]; exact twB_of (seqV_nodup (by omega) _), by rw [hp]; exact seqV_bad (by omega) (by omega), by rw [x.rn_plen]; exact hpa, by omega, ?_⟩
  have hR : RnR x.params (freshL x.params 0) (x.params.zip (freshL x.params 0)) := by
    have := RnR.more (names := []) (names' := []) (ps := []) (fun s hs => by cases hs) x.params (freshL x.params 0) (freshL_len _ _).symm
    simpa using this
  exact rn_wrong A 25 x.body x.params x.rn.params _ (freshC x.params 0) 0 hr h.wrong (by omega) (by omega) hR
theorem runE_rn_of {l : List Fn} (hl : FnsOk l) (h : checkE l = 0) (g : Bool) (name : ByteArray) (args : List Int) (fuel : Int) : runE g (l.map Fn.rn) name args fuel = runE g l name args fuel :=
  runE_rn g (A := arOf l) (fun x hx => ((check_zero h).2.2.2 x hx).rnOk (right_all hl h x hx).2.1) name args fuel

def NW (s : ByteArray) : Prop := ∀ i, s ≠ wNm i
def AgE (env env' : Env) : Prop := ∀ s, NW s → envVal env' s = envVal env s
theorem AgE.cons {env env' : Env} (h : AgE env env') (a : ByteArray) (u : Vl) : AgE ((a, u) :: env) ((a, u) :: env') := fun s hs => by
  rw [envVal_cons, envVal_cons]
  split
  · rfl
  · exact h s hs
theorem AgE.step {env env' : Env} (h : AgE env env') (i : Int) (u : Vl) : AgE env ((wNm i, u) :: env') := fun s hs => by
  rw [envVal_cons, if_neg fun e => hs i e.symm]
  exact h s hs
theorem AgE.bind : ∀ {ws : List ByteArray} {vs : List Vl} {env env' : Env}, AgE env env' → AgE (bindE ws vs env) (bindE ws vs env')
  | [], vs, env, env', h => by simpa [bindE] using h
  | w :: ws, [], env, env', h => by simpa [bindE] using h
  | w :: ws, v :: vs, env, env', h => by
    rw [bindE_cons, bindE_cons]
    exact AgE.bind (h.cons w v)
def CZ (C : CallF) : Prop := ∀ a vs f, (C a vs f).2.2 ≠ 0 → (C a vs f).1 = zeroV
theorem primR_zero (n : Int) (u v : Vl) (f : Int) (h : (primR n u v f).2.2 ≠ 0) : (primR n u v f).1 = zeroV := by
  unfold primR at h ⊢
  split
  · rfl
  rename_i h1
  rw [if_neg h1] at h
  split
  · rfl
  · rename_i h2
    rw [if_neg h2] at h
    exact absurd rfl h
theorem evT_zero {C : CallF} (hC : CZ C) : ∀ (N : Nat) (t : Tm) (env : Env) (f : Int), t.sz < N → (evT false C t env f).2.2 ≠ 0 → (evT false C t env f).1 = zeroV := by
  intro N
  induction N with
  | zero => intro t _ _ h; omega
  | succ N ih =>
  intro t env f hN he
  obtain ⟨k, n, a, b, vs, xs, cs⟩ := t
  have hx : ∀ x ∈ xs, x.sz < N := fun x hj => by have := Tm.sz_arg (k := k) (n := n) (a := a) (b := b) (vs := vs) (cs := cs) hj; omega
  have hB : ∀ (v : Vl) (ds : List Cs) (f : Int), (∀ d ∈ ds, d ∈ cs) → (evC false C v ds env f).2.2 ≠ 0 → (evC false C v ds env f).1 = zeroV := by
    intro v ds
    induction ds with
    | nil => intro f _ _; rw [evC]
    | cons d r ih2 =>
      intro f hm he
      obtain ⟨t, ws, y⟩ := d
      have hd := hm _ (List.mem_cons_self ..)
      rw [evC] at he ⊢
      split
      · rename_i q1
        rw [if_pos q1] at he
        split
        · rename_i q2
          rw [if_pos q2] at he
          rw [evB] at he ⊢
          exact ih y _ _ (by have := Tm.sz_case (k := k) (n := n) (a := a) (b := b) (vs := vs) (xs := xs) hd; omega) he
        · rfl
      · rename_i q1
        rw [if_neg q1] at he
        exact ih2 f (fun z hz => hm z (List.mem_cons_of_mem _ hz)) he
  rw [evT] at he ⊢
  by_cases k1 : k = 1
  · rw [if_pos k1] at he; exact absurd rfl he
  rw [if_neg k1] at he ⊢
  by_cases k2 : k = 2
  · rw [if_pos k2] at he; exact absurd rfl he
  rw [if_neg k2] at he ⊢
  by_cases k6 : k = 6
  · rw [if_pos k6] at he ⊢
    match xs, hx with
    | [], _ => rw [evLet]
    | x :: r, hx =>
      rw [evLet] at he ⊢
      split
      · rfl
      · rename_i q
        rw [if_neg q] at he
        match r, hx with
        | [], _ => rw [evIn]
        | y :: r, hx =>
          rw [evIn] at he ⊢
          exact ih y _ _ (hx y (by simp)) he
  rw [if_neg k6] at he ⊢
  unfold afterL at he ⊢
  by_cases k3 : k = 3
  · rw [if_pos k3] at he ⊢
    dsimp only at he ⊢
    rw [if_neg (by rintro (h | h); exact Bool.false_ne_true h; exact he h)]
  rw [if_neg k3] at he ⊢
  split
  · rfl
  rename_i q
  rw [if_neg q] at he
  by_cases k4 : k = 4
  · rw [if_pos k4] at he ⊢
    exact hC _ _ _ he
  rw [if_neg k4] at he ⊢
  by_cases k5 : k = 5
  · rw [if_pos k5] at he ⊢
    exact primR_zero _ _ _ _ he
  rw [if_neg k5] at he ⊢
  split
  · rename_i q2
    rw [if_pos q2] at he
    exact hB _ cs _ (fun _ h => h) he
  · rfl
theorem evCall_zero (l : List Fn) : ∀ n, CZ (evCall false l n) := by
  intro n
  induction n with
  | zero =>
    intro a vs f he
    rw [evCall] at he ⊢
    split
    · rfl
    split
    · rfl
    split <;> rfl
  | succ n ih =>
    intro a vs f he
    rw [evCall] at he ⊢
    cases hq : l.find? (fun x => eqB x.name a) with
    | none => rfl
    | some x =>
      rw [hq] at he
      dsimp only at he ⊢
      split
      · rfl
      rename_i q1
      rw [if_neg q1] at he
      split
      · rfl
      rename_i q2
      rw [if_neg q2] at he
      exact evT_zero ih _ _ _ _ (Nat.lt_succ_self _) he
theorem pl_ev {C : CallF} (hC : CZ C) (A : Arity) : ∀ (d : Nat) (t : Tm) (names : List ByteArray) (c deep : Int) (env env' : Env) (f : Int), t.Rt d → t.wrong A names deep = 0 → (∀ s ∈ names, NW s) → (∀ s ∈ t.bd, NW s) → 0 ≤ c → c + t.sz < 9223372036854775807 → AgE env env' → evT false C (t.pl c).1 env' f = evT false C t env f := by
  intro d
  induction d with
  | zero => intro t _ _ _ _ _ _ h; exact h.elim
  | succ d ih =>
  intro t names c deep env env' f hR hw hn hbd h0 hb hag
  have hR2 := hR
  obtain ⟨k, n, a, b, vs, xs, cs⟩ := t
  obtain ⟨hk, hmany, h6c, hx, hc⟩ := hR
  obtain ⟨h1, h2, h3, h4, h5, h6, h7⟩ := wrong_zero hw
  simp only [Tm.sz] at hb
  push_cast at hb
  have hbx : ∀ x ∈ xs, ∀ s ∈ x.bd, NW s := by
    intro x hx' s hs
    refine hbd s ?_
    rw [Tm.bd]
    refine List.mem_append_right _ (List.mem_append_left _ ?_)
    have : ∀ l : List Tm, x ∈ l → s ∈ Tm.bdL l := by
      intro l
      induction l with
      | nil => intro h; cases h
      | cons y r ih2 =>
        intro h
        rw [Tm.bdL]
        rcases List.mem_cons.1 h with rfl | h
        · exact List.mem_append_left _ hs
        · exact List.mem_append_right _ (ih2 h)
    exact this xs hx'
  have hbc : ∀ y ∈ cs, ∀ s ∈ y.bd, NW s := by
    intro x hx' s hs
    refine hbd s ?_
    rw [Tm.bd]
    refine List.mem_append_right _ (List.mem_append_right _ ?_)
    have : ∀ l : List Cs, x ∈ l → s ∈ Cs.bdL l := by
      intro l
      induction l with
      | nil => intro h; cases h
      | cons y r ih2 =>
        intro h
        rw [Cs.bdL]
        rcases List.mem_cons.1 h with rfl | h
        · exact List.mem_append_left _ hs
        · exact List.mem_append_right _ (ih2 h)
    exact this cs hx'
  have hA : ∀ (ys : List Tm) (i : Nat) (c f : Int) (env' : Env), (∀ y ∈ ys, y ∈ xs) → k ≠ 6 → Tm.wrongs A k a names deep i ys = 0 → 0 ≤ c → c + 1 + (Tm.szs ys : Nat) < 9223372036854775807 → AgE env env' → ∀ inner : Tm, ∃ env'', AgE env env'' ∧ (∀ i, 0 ≤ i → i ≤ c → envVal env'' (wNm i) = envVal env' (wNm i)) ∧
      evT false C (around (Tm.ats ys c).2.1 inner) env' f = (if (evL false C ys env f).2.2 ≠ 0 then (zeroV, (evL false C ys env f).2.1, (evL false C ys env f).2.2) else evT false C inner env'' (evL false C ys env f).2.1) ∧
      ((evL false C ys env f).2.2 = 0 → ∀ f2, evL false C (Tm.ats ys c).1 env'' f2 = ((evL false C ys env f).1, f2, 0)) := by
    intro ys
    induction ys with
    | nil =>
      intro i c f env' _ _ _ _ _ hag inner
      refine ⟨env', hag, fun _ _ _ => rfl, ?_, fun _ f2 => ?_⟩
      · rw [Tm.ats, evL]
        simp [around]
      · rw [Tm.ats, evL, evL]
    | cons y r ih2 =>
      intro i c f env' hm hk6 hwr h0 hb hag inner
      simp only [Tm.szs] at hb
      push_cast at hb
      rw [wrongs_cons, if_neg (fun h => hk6 h.1)] at hwr
      have hym := hm y (List.mem_cons_self ..)
      have hy := hx y hym
      have hsz := sz_pos y
      rw [Tm.ats]
      by_cases hv : y.tk = 1
      · rw [if_pos hv]
        obtain ⟨ky, ny, ay, bY, vy, xy, cy⟩ := y
        simp only [Tm.tk] at hv
        subst hv
        have e1 : ∀ env f, evT false C (.mk 1 ny ay bY vy xy cy) env f = (envVal env ay, f, 0) := fun env f => by rw [evT, if_pos rfl]
        have hay : NW ay := by
          obtain ⟨_, _, _, _, q5, _⟩ := wrong_zero hwr.1
          unfold headE at q5
          rw [if_pos rfl] at q5
          split at q5
          · rename_i hh
            exact hn ay (hasB_iff.1 hh)
          · cases q5
        obtain ⟨env'', g1, g2, g3, g4⟩ := ih2 (i + 1) c f env' (fun z hz => hm z (List.mem_cons_of_mem _ hz)) hk6 hwr.2 h0 (by omega) hag inner
        have e2 : evL false C (.mk 1 ny ay bY vy xy cy :: r) env f = consL (envVal env ay) (evL false C r env f) := by
          rw [evL, e1]
          simp
        refine ⟨env'', g1, g2, ?_, fun he f2 => ?_⟩
        · rw [e2]
          exact g3
        · rw [e2] at he ⊢
          dsimp only
          rw [evL, e1]
          simp only [ne_eq, not_true_eq_false, if_false]
          rw [g4 he f2, g1 ay hay]
          rfl
      · rw [if_neg hv]
        have hw1 : wr (c + 1) = c + 1 := wr_of (by omega) (by omega)
        rw [hw1]
        have hcn := pl_cnt d y (c + 1) hy (by omega) (by omega)
        have hy1 := ih y names (c + 1) (deep + 1) env env' f hy hwr.1 hn (hbx y hym) (by omega) (by omega) hag
        dsimp only
        rw [around]
        have e3 : ∀ z, evT false C (.mk 6 0 (wNm (c + 1)) .empty [] [(y.pl (c + 1)).1, z] []) env' f = if (evT false C y env f).2.2 ≠ 0 then (zeroV, (evT false C y env f).2.1, (evT false C y env f).2.2) else evT false C z ((wNm (c + 1), (evT false C y env f).1) :: env') (evT false C y env f).2.1 := fun z => by
          rw [evT, if_neg (by omega), if_neg (by omega), if_pos rfl, evLet, hy1, evIn]
        rw [e3]
        by_cases he : (evT false C y env f).2.2 ≠ 0
        · have e4 : evL false C (y :: r) env f = ([(evT false C y env f).1], (evT false C y env f).2.1, (evT false C y env f).2.2) := by rw [evL, if_pos he]
          refine ⟨env', hag, fun _ _ _ => rfl, ?_, fun h => ?_⟩
          · rw [e4]
            dsimp only
            rw [if_pos he, if_pos he]
          · rw [e4] at h
            exact absurd h he
        · have e4 : evL false C (y :: r) env f = consL (evT false C y env f).1 (evL false C r env (evT false C y env f).2.1) := by rw [evL, if_neg he]
          obtain ⟨env'', g1, g2, g3, g4⟩ := ih2 (i + 1) (y.pl (c + 1)).2 (evT false C y env f).2.1 ((wNm (c + 1), (evT false C y env f).1) :: env') (fun z hz => hm z (List.mem_cons_of_mem _ hz)) hk6 hwr.2 (by omega) (by omega) (hag.step _ _) inner
          refine ⟨env'', g1, fun i h1 h2 => ?_, ?_, fun h f2 => ?_⟩
          · rw [g2 i h1 (by omega), envVal_cons, if_neg fun e => by
              have := wNm_inj (by omega) h1 e
              omega]
          · rw [if_neg he, e4]
            exact g3
          · rw [e4] at h ⊢
            have hv2 : evT false C (varT (wNm (c + 1))) env'' f2 = ((evT false C y env f).1, f2, 0) := by
              unfold varT
              rw [evT, if_pos rfl, g2 (c + 1) (by omega) (by omega), envVal_cons, if_pos rfl]
            rw [evL, hv2]
            simp only [ne_eq, not_true_eq_false, if_false]
            rw [g4 h f2]
            rfl
  rw [Tm.pl]
  by_cases k3 : k = 3 ∨ k = 4 ∨ k = 5
  · rw [if_pos k3]
    obtain ⟨env'', g1, _, g3, g4⟩ := hA xs 0 c f env' (fun _ h => h) (by omega) h6 h0 (by omega) hag (.mk k n a .empty [] (Tm.ats xs c).1 [])
    have eO : evT false C (.mk k n a b vs xs cs) env f = afterL false C k n a (evL false C xs env f) (fun v f => evC false C v cs env f) := by rw [evT, if_neg (by omega), if_neg (by omega), if_neg (by omega)]
    have eI : ∀ f2, evT false C (.mk k n a .empty [] (Tm.ats xs c).1 []) env'' f2 = afterL false C k n a (evL false C (Tm.ats xs c).1 env'' f2) (fun v f => evC false C v [] env'' f) := fun f2 => by rw [evT, if_neg (by omega), if_neg (by omega), if_neg (by omega)]
    dsimp only
    rw [g3, eO]
    by_cases he : (evL false C xs env f).2.2 ≠ 0
    · rw [if_pos he]
      unfold afterL
      by_cases q3 : k = 3
      · rw [if_pos q3, if_neg (by rintro (h | h); exact Bool.false_ne_true h; exact he h)]
      · rw [if_neg q3, if_pos he]
    · rw [if_neg he]
      have he0 : (evL false C xs env f).2.2 = 0 := by omega
      rw [eI, g4 he0]
      unfold afterL
      dsimp only
      rw [if_neg (show ¬ ((0 : Int) ≠ 0) by omega), if_neg he]
      by_cases q3 : k = 3
      · rw [if_pos q3, if_pos q3, if_pos (.inr rfl), if_pos (.inr he0), he0]
      rw [if_neg q3, if_neg q3]
      by_cases q4 : k = 4
      · rw [if_pos q4, if_pos q4]
      · rw [if_neg q4, if_neg q4, if_pos (by omega), if_pos (by omega)]
  rw [if_neg k3]
  by_cases k6 : k = 6
  · rw [if_pos k6]
    obtain ⟨x, y, rfl, rfl⟩ := rt_let hR2 k6
    subst k6
    rw [wrongs_cons, wrongs_cons, if_neg (by omega), if_pos (by omega)] at h6
    simp only [Tm.szs] at hb
    push_cast at hb
    have hcn := pl_cnt d x c (hx x (by simp)) h0 (by omega)
    have ha : NW a := hbd a (by rw [Tm.bd, if_pos rfl]; simp)
    have g1 := ih x names c (deep + 1) env env' f (hx x (by simp)) h6.1 hn (hbx x (by simp)) h0 (by omega) hag
    rw [Tm.plL, Tm.plL, Tm.plL]
    dsimp only
    rw [evT, if_neg (by omega), if_neg (by omega), if_pos rfl, evT, if_neg (by omega), if_neg (by omega), if_pos rfl, evLet, evLet, g1]
    split
    · rfl
    · rw [evIn, evIn]
      exact ih y (names ++ [a]) (x.pl c).2 (deep + 1) _ _ _ (hx y (by simp)) h6.2.1 (fun s hs => (List.mem_append.1 hs).elim (hn s) fun h => by rw [List.mem_singleton.1 h]; exact ha) (hbx y (by simp)) (by omega) (by omega) (hag.cons a _)
  rw [if_neg k6]
  by_cases k7 : k = 7
  · rw [if_pos k7]
    have hxl1 : xs.length = 1 := by
      subst k7
      unfold manyB at hmany
      simp at hmany
      exact hmany
    have hcn : 0 ≤ (Tm.ats xs c).2.2 ∧ (Tm.ats xs c).2.2 ≤ c + (Tm.szs xs : Nat) := by
      match xs, hxl1, hx with
      | [x], _, hx =>
        have hsz := sz_pos x
        simp only [Tm.szs] at hb ⊢
        push_cast at hb ⊢
        rw [Tm.ats]
        split
        · dsimp only; rw [Tm.ats]; dsimp only; omega
        · have hw1 : wr (c + 1) = c + 1 := wr_of (by omega) (by omega)
          have := pl_cnt d x (c + 1) (hx x (by simp)) (by omega) (by omega)
          rw [hw1]
          dsimp only; rw [Tm.ats]; dsimp only; omega
    have hCc : ∀ (v : Vl) (ys : List Cs) (had : List Int) (c f : Int) (env' : Env), (∀ y ∈ ys, y ∈ cs) → Cs.wrongs A names deep had ys = 0 → 0 ≤ c → c + (Cs.szs ys : Nat) < 9223372036854775807 → AgE env env' → evC false C v (Cs.plL ys c).1 env' f = evC false C v ys env f := by
      intro v ys
      induction ys with
      | nil => intro had c f env' _ _ _ _ _; rw [Cs.plL, evC, evC]
      | cons y r ih2 =>
        intro had c f env' hm hwr h0 hb hag
        have hym := hm y (List.mem_cons_self ..)
        have hy := hc y hym
        have hby := hbc y hym
        obtain ⟨t, ws, y⟩ := y
        simp only [Cs.szs, Cs.sz] at hb
        push_cast at hb
        rw [cwrongs_cons] at hwr
        obtain ⟨⟨w1, w2, w3, w4, w5, w6⟩, w7⟩ := hwr
        have hcn := pl_cnt d y c hy.2 h0 (by omega)
        have g1 := ih2 (t :: had) (y.pl c).2 f env' (fun z hz => hm z (List.mem_cons_of_mem _ hz)) w7 (by omega) (by omega) hag
        rw [Cs.bd] at hby
        rw [Cs.plL, Cs.pl]
        dsimp only
        rw [evC, evC, g1]
        show (if t = v.n then if ws.length = v.kids.length then _ else _ else _) = if t = v.n then if ws.length = v.kids.length then _ else _ else _
        by_cases q1 : t = v.n
        · rw [if_pos q1, if_pos q1]
          by_cases q2 : ws.length = v.kids.length
          · rw [if_pos q2, if_pos q2, evB, evB]
            exact ih y (names ++ ws) c (deep + 1) _ _ f hy.2 w6 (fun s hs => (List.mem_append.1 hs).elim (hn s) fun h => hby s (List.mem_append_left _ h)) (fun s hs => hby s (List.mem_append_right _ hs)) h0 (by omega) hag.bind
          · rw [if_neg q2, if_neg q2]
        · rw [if_neg q1, if_neg q1]
    obtain ⟨env'', g1, _, g3, g4⟩ := hA xs 0 c f env' (fun _ h => h) (by omega) h6 h0 (by omega) hag (.mk 7 0 .empty .empty [] (Tm.ats xs c).1 (Cs.plL cs (Tm.ats xs c).2.2).1)
    subst k7
    have eO : evT false C (.mk 7 n a b vs xs cs) env f = afterL false C 7 n a (evL false C xs env f) (fun v f => evC false C v cs env f) := by rw [evT, if_neg (by omega), if_neg (by omega), if_neg (by omega)]
    have eI : ∀ f2, evT false C (.mk 7 0 .empty .empty [] (Tm.ats xs c).1 (Cs.plL cs (Tm.ats xs c).2.2).1) env'' f2 = afterL false C 7 0 .empty (evL false C (Tm.ats xs c).1 env'' f2) (fun v f => evC false C v (Cs.plL cs (Tm.ats xs c).2.2).1 env'' f) := fun f2 => by rw [evT, if_neg (by omega), if_neg (by omega), if_neg (by omega)]
    dsimp only
    rw [g3, eO]
    by_cases he : (evL false C xs env f).2.2 ≠ 0
    · rw [if_pos he]
      unfold afterL
      rw [if_neg (by omega), if_pos he]
    · rw [if_neg he]
      have he0 : (evL false C xs env f).2.2 = 0 := by omega
      rw [eI, g4 he0]
      unfold afterL
      dsimp only
      simp only [show ¬ ((7 : Int) = 3) by omega, show ¬ ((7 : Int) = 4) by omega, show ¬ ((7 : Int) = 5) by omega, if_false, he0, ne_eq, not_true_eq_false]
      rw [hCc _ cs [] _ _ env'' (fun _ h => h) (h7 rfl).2.2 (by omega) (by omega) g1]
  · rw [if_neg k7]
    have hk12 : k = 1 ∨ k = 2 := by omega
    rcases hk12 with rfl | rfl
    · rw [evT, if_pos rfl, evT, if_pos rfl]
      have ha : NW a := by
        unfold headE at h5
        rw [if_pos rfl] at h5
        split at h5
        · rename_i hh
          exact hn a (hasB_iff.1 hh)
        · cases h5
      rw [hag a ha]
    · rw [evT, if_neg (by omega), if_pos rfl, evT, if_neg (by omega), if_pos rfl]
def Fn.pl0 (f : Fn) : Fn := ⟨f.name, f.params, (f.body.pl 0).1⟩
structure PlOk (A : Arity) (x : Fn) : Prop where
  rt : x.body.Rt 25
  wrong : x.body.wrong A x.params 0 = 0
  params : ∀ s ∈ x.params, NW s
  bd : ∀ s ∈ x.body.bd, NW s
  sz : (x.body.sz : Int) < 9223372036854775807
theorem evCall_pl {A : Arity} {l : List Fn} (h : ∀ x ∈ l, PlOk A x) : ∀ (n : Nat) (a : ByteArray) (vs : List Vl) (f : Int), evCall false (l.map Fn.pl0) n a vs f = evCall false l n a vs f := by
  have hf : ∀ a, (l.map Fn.pl0).find? (fun x => eqB x.name a) = (l.find? (fun x => eqB x.name a)).map Fn.pl0 := fun a => find_map Fn.pl0 (fun x => eqB x.name a) (fun x => rfl) l
  intro n
  induction n with
  | zero =>
    intro a vs f
    rw [evCall, evCall, hf a]
    cases hq : l.find? (fun x => eqB x.name a) with
    | none => rfl
    | some y => rfl
  | succ n ih =>
    intro a vs f
    rw [evCall, evCall, hf a]
    cases hq : l.find? (fun x => eqB x.name a) with
    | none => rfl
    | some y =>
      have hy := h y (List.mem_of_find?_eq_some hq)
      simp only [Option.map_some]
      have hC : evCall false (l.map Fn.pl0) n = evCall false l n := funext fun a => funext fun vs => funext fun f => ih a vs f
      rw [hC]
      have hsz := hy.sz
      have := pl_ev (evCall_zero l n) A 25 y.body y.params 0 0 (bindE y.params vs []) (bindE y.params vs []) (f - 1) hy.rt hy.wrong hy.params hy.bd (by omega) (by omega) (fun _ _ => rfl)
      show (if y.params.length ≠ vs.length then _ else if f = 0 then _ else evT false (evCall false l n) (y.body.pl 0).1 (bindE y.params vs []) (f - 1)) = _
      rw [this]
theorem runE_pl {A : Arity} {l : List Fn} (h : ∀ x ∈ l, PlOk A x) (name : ByteArray) (args : List Int) (fuel : Int) : runE false (l.map Fn.pl0) name args fuel = runE false l name args fuel := by
  unfold runE
  rw [evCall_pl h]

theorem around_isP : ∀ (bs : Bs) (t : Tm), (∀ b ∈ bs, b.2.isP = true) → t.isP = true → (around bs t).isP = true
  | [], t, _, h => h
  | b :: r, t, hb, h => by
    have h1 := hb b (List.mem_cons_self ..)
    have h2 := around_isP r t (fun x hx => hb x (List.mem_cons_of_mem _ hx)) h
    simp [around, Tm.isP, Tm.isL, Cs.isL, h1, h2]
theorem isL_vars {k : Int} (hk : k ≠ 6) : ∀ l : List Tm, (∀ x ∈ l, x.tk = 1) → Tm.isL k l = true
  | [], _ => rfl
  | x :: r, h => by
    rw [Tm.isL, if_neg hk, isL_vars hk r fun y hy => h y (List.mem_cons_of_mem _ hy), h x (List.mem_cons_self ..)]
    rfl
theorem ats_vars : ∀ (l : List Tm) (c : Int), ∀ x ∈ (Tm.ats l c).1, x.tk = 1
  | [], c, x, hx => by simp [Tm.ats] at hx
  | y :: r, c, x, hx => by
    rw [Tm.ats] at hx
    by_cases h : y.tk = 1
    · rw [if_pos h] at hx
      rcases List.mem_cons.1 hx with rfl | hx
      · exact h
      · exact ats_vars r _ x hx
    · rw [if_neg h] at hx
      rcases List.mem_cons.1 hx with rfl | hx
      · rfl
      · exact ats_vars r _ x hx
theorem pl_isP : ∀ (d : Nat) (t : Tm) (c : Int), t.Rt d → (t.pl c).1.isP = true := by
  intro d
  induction d with
  | zero => intro t _ h; exact h.elim
  | succ d ih =>
  intro t c hR
  obtain ⟨k, n, a, b, vs, xs, cs⟩ := t
  have hR' := hR
  obtain ⟨hk, hmany, _, hx, hc⟩ := hR'
  have hA : ∀ (ys : List Tm) (c : Int), (∀ y ∈ ys, y ∈ xs) → ∀ b ∈ (Tm.ats ys c).2.1, b.2.isP = true := by
    intro ys
    induction ys with
    | nil => intro c _ b hb; simp [Tm.ats] at hb
    | cons y r ih2 =>
      intro c hm b hb
      rw [Tm.ats] at hb
      by_cases h : y.tk = 1
      · rw [if_pos h] at hb
        exact ih2 _ (fun z hz => hm z (List.mem_cons_of_mem _ hz)) b hb
      · rw [if_neg h] at hb
        rcases List.mem_cons.1 hb with rfl | hb
        · exact ih y _ (hx y (hm y (List.mem_cons_self ..)))
        · exact ih2 _ (fun z hz => hm z (List.mem_cons_of_mem _ hz)) b hb
  have hL : ∀ (ys : List Tm) (c : Int), (∀ y ∈ ys, y ∈ xs) → Tm.isL 6 (Tm.plL ys c).1 = true := by
    intro ys
    induction ys with
    | nil => intro c _; rfl
    | cons y r ih2 =>
      intro c hm
      rw [Tm.plL, Tm.isL, if_pos rfl, ih y _ (hx y (hm y (List.mem_cons_self ..))), ih2 _ fun z hz => hm z (List.mem_cons_of_mem _ hz)]
      rfl
  have hC : ∀ (ys : List Cs) (c : Int), (∀ y ∈ ys, y ∈ cs) → Cs.isL (Cs.plL ys c).1 = true := by
    intro ys
    induction ys with
    | nil => intro c _; rfl
    | cons y r ih2 =>
      intro c hm
      have hy := hc y (hm y (List.mem_cons_self ..))
      obtain ⟨t, ws, y⟩ := y
      rw [Cs.plL, Cs.isL, ih2 _ fun z hz => hm z (List.mem_cons_of_mem _ hz), Cs.pl, Cs.isP, ih y _ hy.2]
      rfl
  rw [Tm.pl]
  split
  · rename_i h
    refine around_isP _ _ (hA xs c fun _ h => h) ?_
    rw [Tm.isP, isL_vars (by omega) _ (ats_vars xs c)]
    rfl
  split
  · rename_i h
    rw [Tm.isP, hL xs c fun _ h => h]
    rfl
  split
  · rename_i h
    refine around_isP _ _ (hA xs c fun _ h => h) ?_
    rw [Tm.isP, isL_vars (by omega) _ (ats_vars xs c), hC cs _ fun _ h => h]
    rfl
  · have h1 : k = 1 ∨ k = 2 := by omega
    have h2 : xs = [] ∧ cs = [] := by
      unfold manyB at hmany
      rcases h1 with rfl | rfl <;> simpa using hmany
    obtain ⟨rfl, rfl⟩ := h2
    rfl
theorem seqV_nw {c : Int} {n : Nat} : ∀ s ∈ seqV c n, NW s := fun s hs i => by
  unfold seqV at hs
  obtain ⟨j, _, rfl⟩ := List.mem_map.1 hs
  exact vNm_ne_wNm _ _
theorem Fn.pl_plen (f : Fn) : f.pl.params.length = f.params.length := freshL_len _ _
theorem Fn.Right.plOk {A : Arity} {x : Fn} (h : x.Right A) (hr : x.body.Rt 25) : PlOk A x.rn := by
  have hb := (h.rnOk hr).bd
  obtain ⟨e1, e2⟩ := freshL_seq x.params 0 (by omega) (by omega)
  have hp : x.rn.params = seqV 0 x.params.length := e1
  have hR := h.rn hr
  have hsz := hR.sz
  obtain ⟨h3, _⟩ := bd_rn 25 x.body (x.params.zip (freshL x.params 0)) (freshC x.params 0) hr (by omega) (by omega)
  exact ⟨x.rn_rt hr, hR.wrong, by rw [hp]; exact seqV_nw, fun s hs => seqV_nw s (h3.mem_iff.1 hs), by omega⟩
theorem Fn.Right.plFit {A : Arity} {x : Fn} (h : x.Right A) (hr : x.body.Rt 25) : x.pl.Fit A := by
  have hR := h.rn hr
  have hsz := hR.sz
  exact ⟨by rw [x.pl_plen]; exact h.params, -151, pl_wrong A 25 x.rn.body x.rn.params x.rn.params 0 0 (-151) (x.rn_rt hr) hR.wrong (fun _ h => h) (by omega) (by omega) (by omega)⟩
theorem runE_pl_of {l : List Fn} (hl : FnsOk l) (h : checkE l = 0) (name : ByteArray) (args : List Int) (fuel : Int) : runE true (l.map Fn.pl) name args fuel = runE true l name args fuel := by
  rw [runE_g, show l.map Fn.pl = (l.map Fn.rn).map Fn.pl0 from by rw [List.map_map]; rfl]
  rw [runE_pl (A := arOf l) (fun y hy => by
    obtain ⟨x, hx, rfl⟩ := List.mem_map.1 hy
    exact ((check_zero h).2.2.2 x hx).plOk (right_all hl h x hx).2.1), runE_rn_of hl h, runE_g]
theorem pl_fit {l : List Fn} (hl : FnsOk l) (h : checkE l = 0) : ∀ y ∈ l.map Fn.pl, y.Fit (arOf (l.map Fn.pl)) := fun y hy => by
  rw [arOf_map Fn.pl (fun _ => rfl) Fn.pl_plen]
  obtain ⟨x, hx, rfl⟩ := List.mem_map.1 hy
  exact ((check_zero h).2.2.2 x hx).plFit (right_all hl h x hx).2.1
theorem pl_body {l : List Fn} (hl : FnsOk l) (h : checkE l = 0) : ∀ y ∈ l.map Fn.pl, y.body.Ok ∧ y.body.Rt 175 ∧ y.body.isP = true := fun y hy => by
  obtain ⟨x, hx, rfl⟩ := List.mem_map.1 hy
  obtain ⟨h1, h2, h3⟩ := right_all hl h x hx
  exact ⟨(x.pl_ok h1 h2 h3).1, pl_rt 25 x.rn.body 0 (x.rn_rt h2), pl_isP 25 x.rn.body 0 (x.rn_rt h2)⟩
end Go.Proofs.YtapiiklnnkkdlaaDoor

namespace Go.Proofs.YtapiiklnnkkdlaaDoor
open Go.RowKit
attribute [local simp] runD mkRc ldOf stOf stOk ldArg noAny dstOk guardOk opEff opEff0 effOp pureOp callOp zEff evA constAV scalAV Value.oneCell' frGet memGet startAS frOf isGoCall idIn AS.after nextR opnIds objIds AV.ids idsL AObj.ids frNo memNo opnAny isAny mkVal rdCells wrCells fldAddr idxAddr srcRows litRows toD1 toDs setAt sliceAV optI partAV bldAV fillAV binAV binI AV.cells callEff calleeOf frKill memKill AV.kill AObj.kill AV.has AV.hasL Op.operands Call.operands keepF keepM viewIds cChk renOf moGet moWs moQ cEff moLike moHave AV.ren renL AObj.ren AObj.like kept startC moMem AV.frz frz1 frzL frSub memSub frzs AS.frz frFrz memFrz AObj.frz takeMap takeLen bleF Nat.ble_eq memAny objAny mapOp D.keyOk rowAV valRow extOp wrapOp phO
set_option linter.unusedVariables false
set_option linter.unusedSimpArgs false
end Go.Proofs.YtapiiklnnkkdlaaDoor
