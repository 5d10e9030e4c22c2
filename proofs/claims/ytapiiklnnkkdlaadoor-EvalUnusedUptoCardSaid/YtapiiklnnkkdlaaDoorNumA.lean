import Derived.Test.YtapiiklnnkkdlaaDoorEvalD
import Derived.Shelf.Strconv.Itoa0
import Derived.Shelf.Strconv.Itoa1
import Derived.Shelf.LaysM
import Derived.Shelf.Strconv.Itoa2
import Derived.Shelf.Strconv.Itoa3
import Derived.Shelf.LaysC
import Derived.Shelf.Strconv.AtoiAll
import Derived.Shelf.Strconv.ErrVarAll
import Derived.Test.YtapiiklnnkkdlaaDoorProg
import Derived.Test.YtapiiklnnkkdlaaDoorTy
import Derived.Lib.ItoaLen
import Derived.Test.YtapiiklnnkkdlaaDoorEvalB
import Derived.Lib.AtoiAll
import Derived.Lib.AtoiAllCases
import Derived.Lib.AtoiErrMem
/- The program's evaluator put together; eval.Run. Printed by a small program. -/
namespace Go.Proofs.YtapiiklnnkkdlaaDoor
open Go.RowKit
attribute [local simp] runD mkRc ldOf stOf stOk ldArg noAny dstOk guardOk opEff opEff0 effOp pureOp callOp zEff evA constAV scalAV Value.oneCell' frGet memGet startAS frOf isGoCall idIn AS.after nextR opnIds objIds AV.ids idsL AObj.ids frNo memNo opnAny isAny mkVal rdCells wrCells fldAddr idxAddr srcRows litRows toD1 toDs setAt sliceAV optI partAV bldAV fillAV binAV binI AV.cells callEff calleeOf frKill memKill AV.kill AObj.kill AV.has AV.hasL Op.operands Call.operands keepF keepM viewIds cChk renOf moGet moWs moQ cEff moLike moHave AV.ren renL AObj.ren AObj.like kept startC moMem AV.frz frz1 frzL frSub memSub frzs AS.frz frFrz memFrz AObj.frz takeMap takeLen bleF Nat.ble_eq memAny objAny mapOp D.keyOk rowAV valRow extOp wrapOp phO frLow memLow memLow1 objLow memEmpty Low LowL
set_option linter.unusedVariables false
set_option linter.unusedSimpArgs false
theorem eval_all {l : List Fn} (hl : l.length ≤ 879609302220) (hok : ∀ x ∈ l, x.body.Ok) (hr : ∀ x ∈ l, x.Fit (arOf l)) : ∀ n, n ≤ 40 → CallE l n ∧ ∀ N, TermE l n N := by
  intro n
  induction n with
  | zero =>
    intro h
    have hC : CallE l 0 := ev_call_step l 0 hl hok hr h fun k hk => by omega
    refine ⟨hC, fun N => ?_⟩
    induction N with
    | zero => intro t env names deep fuel hN; omega
    | succ N ih => exact ev_term_step l 0 N (evCall_fine true hr 0) ih (ev_all_step l 0 N (evCall_fine true hr 0) ih) (ev_match_step l 0 N ih) hC
  | succ n ihn =>
    intro h
    have hC : CallE l (n + 1) := ev_call_step l (n + 1) hl hok hr h fun k hk => by
      obtain rfl : k = n := by omega
      exact (ihn (by omega)).2
    refine ⟨hC, fun N => ?_⟩
    induction N with
    | zero => intro t env names deep fuel hN; omega
    | succ N ih => exact ev_term_step l (n + 1) N (evCall_fine true hr (n + 1)) ih (ev_all_step l (n + 1) N (evCall_fine true hr (n + 1)) ih) (ev_match_step l (n + 1) N ih) hC
def intR (n : Int) : List D := [.int n]
abbrev intsAV (l : List Int) : AV := .d (.sl (l.map intR))
def argV (n : Int) : Vl := .mk false (wr32 n) []
theorem argV_fine (n : Int) : (argV n).Fine := ⟨wr32_in n, Nat.zero_le _, trivial⟩
noncomputable def runE (g : Bool) (l : List Fn) (name : ByteArray) (args : List Int) (fuel : Int) : Vl × Int :=
  if fuel < 0 ∨ 300 < fuel then (zeroV, 3) else if (evCall g l 40 name (args.map argV) fuel).2.2 ≠ 0 then (zeroV, (evCall g l 40 name (args.map argV) fuel).2.2)
  else if 0 ≤ (evCall g l 40 name (args.map argV) fuel).1.left 1000 then ((evCall g l 40 name (args.map argV) fuel).1, 0) else (zeroV, 4)
set_option maxRecDepth 20000 in
set_option maxHeartbeats 16000000 in
theorem sp_evRun (l : List Fn) (name : ByteArray) (args : List Int) (fuel : Int) (hl : l.length ≤ 879609302220) (hok : ∀ x ∈ l, x.body.Ok) (hr : ∀ x ∈ l, x.Fit (arOf l)) (ha : args.length ≤ 1048576) : PSpec Tryd.prog 30 [fnsAV l, .d (.str name), intsAV args, .d (.int fuel)] (fun _ => .tuple [vlP (runE true l name args fuel).1, .d (.int (runE true l name args fuel).2)]) none := by
  obtain ⟨R, hR⟩ : ∃ R, R = runE true l name args fuel := ⟨_, rfl⟩
  rw [← hR]
  unfold runE at hR
  obtain ⟨vs, hvs⟩ : ∃ vs, vs = args.map argV := ⟨_, rfl⟩
  refine PSpec.of Tryd.func30 rfl rfl rfl (Nat.le_of_ble_eq_true rfl) ?_
  show AWp _ _ (endQ _ Tryd.f30 _ _ _) (startAS 69 _)
  refine AWp.rg [] [] ?_ (hr := by conv => lhs; simp [Vl.row, Vl.rows_eq])
  by_cases q1 : fuel < 0
  · refine AWp.rg [] [] ?_ (hr := by conv => lhs; simp [Vl.row, Vl.rows_eq, q1])
    refine AWp.cy ?_
    rw [if_pos (by omega)] at hR
    subst hR
    refine AWp.rg [] [] ?_ (hr := by conv => lhs; simp [Vl.row, Vl.rows_eq, q1])
    refine AWp.ret ?_
    try dsimp only [thenQ, blockQ]
    apply endQ.ret
    · rfl
    · conv => lhs; simp [resAV, Tryd.results30]
    · rfl
  by_cases q2 : 300 < fuel
  · refine AWp.rg [] [] ?_ (hr := by conv => lhs; simp [Vl.row, Vl.rows_eq, q1, q2])
    refine AWp.cy ?_
    rw [if_pos (by omega)] at hR
    subst hR
    refine AWp.rg [] [] ?_ (hr := by conv => lhs; simp [Vl.row, Vl.rows_eq, q1, q2])
    refine AWp.ret ?_
    try dsimp only [thenQ, blockQ]
    apply endQ.ret
    · rfl
    · conv => lhs; simp [resAV, Tryd.results30]
    · rfl
  refine AWp.rg [] [] ?_ (hr := by conv => lhs; simp [Vl.row, Vl.rows_eq, q1, q2])
  refine AWp.cn ?_
  refine AWp.skip ?_
  have hfu : ¬ (fuel < 0 ∨ 300 < fuel) := by omega
  rw [if_neg hfu] at hR
  refine AWp.rg [] [] ?_ (hr := by conv => lhs; simp [Vl.row, Vl.rows_eq, q1, q2])
  refine AWp.rg [] [] ?_ (hr := by conv => lhs; simp [Vl.row, Vl.rows_eq, q1, q2])
  refine AWp.rg [] [] ?_ (hr := by conv => lhs; simp [Vl.row, Vl.rows_eq, q1, q2])
  repeat (first | refine AWp.seq ?_ | refine AWp.block ?_)
  refine AWp.le (Le.low [400] [] (fr := [(1, .d (.str name)), (8, .ptr 8 0), (10, .ptr 25 0), (11, .arr 400 0 0), (26, .d (.sl (args.map intR))), (27, .d (.int (args.length : Int))), (28, .d (.int 0))]) (mem := [(8, some (.blk 47 [.d (.bool false), .d (.int 0), .lit (.slice none 0 0)])), (25, some (.blk 84 [.d (.sl (l.map Fn.row)), .d (.int fuel), .d (.int 0), .d (.int 0)])), (400, some (.arr 47 3 ((vs.map Vl.row).take 0)))]) rfl (by simp [intR]) (by simp [intR])) ?_
  refine AWp.loop (σ := fun u : {u : Nat // u ≤ args.length} => ⟨69, [(1, .d (.str name)), (8, .ptr 8 0), (10, .ptr 25 0), (11, .arr 400 0 u.1), (26, .d (.sl (args.map intR))), (27, .d (.int (args.length : Int))), (28, .d (.int u.1))], [(8, some (.blk 47 [.d (.bool false), .d (.int 0), .lit (.slice none 0 0)])), (25, some (.blk 84 [.d (.sl (l.map Fn.row)), .d (.int fuel), .d (.int 0), .d (.int 0)])), (400, some (.arr 47 3 ((vs.map Vl.row).take u.1)))]⟩)
    (μ := fun u => args.length - u.1) ⟨0, Nat.zero_le _⟩ (Le.sub (by simp [intR]) (by simp [intR])) (fun ⟨i, hi6⟩ => ?_)
  dsimp only
  refine AWp.rg [] [] ?_ (hr := by conv => lhs; simp [Vl.row, Vl.rows_eq, q1, q2])
  repeat (first | refine AWp.seq ?_ | refine AWp.block ?_)
  refine AWp.cond rfl (fun hc => ?_) (fun hc => ?_)
  · have hi1 : i < args.length := by have := of_decide_eq_true hc; omega
    clear hc
    have h1x : args[i]? = some args[i] := List.getElem?_eq_getElem hi1
    have hmx : args[i] ∈ args := List.getElem_mem hi1
    have hdx : args.drop i = args[i] :: args.drop (i + 1) := List.drop_eq_getElem_cons hi1
    generalize args[i] = x at h1x hmx hdx
    have hvi : vs[i]? = some (argV x) := by rw [hvs, List.getElem?_map, h1x]; rfl
    have hti : (vs.map Vl.row).take (i + 1) = (vs.map Vl.row).take i ++ [(argV x).row] := by rw [List.take_add_one, List.getElem?_map, hvi]; rfl
    have hw32 := inI_wr32 x
    have hvl : vs.length = args.length := by rw [hvs, List.length_map]
    have hmn : min i vs.length = i := Nat.min_eq_left (by omega)
    refine AWp.skip ?_
    refine AWp.rg [] [] ?_ (hr := by conv => lhs; simp [Vl.row, Vl.rows_eq, h1x, intR, q1, q2])
    refine AWp.rg [] [] ?_ (hr := by conv => lhs; simp [Vl.row, Vl.rows_eq, h1x, intR, q1, q2])
    refine AWp.rg [] [] ?_ (hr := by conv => lhs; simp [Vl.row, Vl.rows_eq, h1x, intR, q1, q2])
    refine ⟨⟨i + 1, hi1⟩, by simp; omega, ?_⟩
    dsimp only
    rw [hti]
    exact Le.sub (by simp [argV, Vl.row, Vl.rows_eq, hmn]) (by simp [argV, Vl.row, Vl.rows_eq, hmn])
  have hi1 : i = args.length := by have := of_decide_eq_false hc; omega
  subst hi1
  clear hc
  rw [show args.length = vs.length by rw [hvs, List.length_map], takeMap]
  refine AWp.exit ?_
  apply AWp.frzs [400]
  · conv => lhs; simp
  have hx := (eval_all hl hok hr 40 (Nat.le_refl _)).1 name vs fuel (fun v hv => by rw [hvs] at hv; obtain ⟨n, _, rfl⟩ := List.mem_map.1 hv; exact argV_fine n) (by rw [hvs, List.length_map]; exact ha) (by omega) (by omega)
  have hfn := evCall_fine true hr 40 name vs fuel (fun v hv => by rw [hvs] at hv; obtain ⟨n, _, rfl⟩ := List.mem_map.1 hv; exact argV_fine n) (by omega) (by omega)
  rw [show (40 : Int) - ((40 : Nat) : Int) = 0 by omega] at hx
  obtain ⟨c2, hc2⟩ : ∃ c2 : Int, c2 = 0 := ⟨_, rfl⟩
  rw [← hvs] at hR
  generalize evCall true l 40 name vs fuel = o at hx hR hfn
  obtain ⟨v, f2, e⟩ := o
  dsimp only at hx hR hfn
  have hvo := hfn.1.ok
  have hfw := sp_Few v hvo
  have how := sp_evOwn v hvo
  obtain ⟨B, hB⟩ : ∃ B, B = decide (0 ≤ v.left 1000) := ⟨_, rfl⟩
  rw [← hB] at hfw
  have hBt : B = true → R = (if e ≠ 0 then (zeroV, e) else (v, 0)) := fun h => by rw [h] at hB; rw [hR, if_pos (of_decide_eq_true hB.symm)]
  have hBf : B = false → R = (if e ≠ 0 then (zeroV, e) else (zeroV, 4)) := fun h => by rw [h] at hB; rw [hR, if_neg (of_decide_eq_false hB.symm)]
  clear hB hR
  obtain ⟨vc, vn, vks⟩ := v
  refine AWp.rg [] [.c [(1000, 25)] [.ptr 1000 0, .d (.str name), .d (.sl (vs.map Vl.row))] [(1000, .blk 84 [.d (.sl (l.map Fn.row)), .d (.int fuel), .d (.int 0), .d (.int 0)])] (.agg [.d (.bool vc), .d (.int vn), .d (.sl (vks.map Vl.row))]) [(1000, .blk 84 [.d (.sl (l.map Fn.row)), .d (.int f2), .d (.int 0), .d (.int e)])]] ?_ (hr := by conv => lhs; simp [Vl.row, Vl.rows_eq, q1, q2])
  by_cases q3 : e = 0
  · cases B with
    | true =>
      refine AWp.rg [] [.p (fun _ => .d (.bool true)) none] ?_ (hr := by conv => lhs; simp [Vl.row, Vl.rows_eq, q1, q2, q3])
      refine AWp.cn ?_
      refine AWp.skip ?_
      refine AWp.rg [] [] ?_ (hr := by conv => lhs; simp [Vl.row, Vl.rows_eq, q1, q2, q3])
      refine AWp.cn ?_
      refine AWp.skip ?_
      subst q3
      obtain rfl := hBt rfl
      rw [if_neg (fun e => e rfl)]
      refine AWp.rg [] [.p (fun _ => .agg [.d (.bool vc), .d (.int vn), .d (.sl (vks.map Vl.row))]) none] ?_ (hr := by conv => lhs; simp [Vl.row, Vl.rows_eq, q1, q2])
      refine AWp.ret ?_
      try dsimp only [thenQ, blockQ]
      apply endQ.ret
      · rfl
      · conv => lhs; simp [resAV, Tryd.results30]
      · rfl
    | false =>
      refine AWp.rg [] [.p (fun _ => .d (.bool false)) none] ?_ (hr := by conv => lhs; simp [Vl.row, Vl.rows_eq, q1, q2, q3])
      refine AWp.cy ?_
      refine AWp.rg [] [] ?_ (hr := by conv => lhs; simp [Vl.row, Vl.rows_eq, q1, q2, q3])
      refine AWp.rg [] [] ?_ (hr := by conv => lhs; simp [Vl.row, Vl.rows_eq, q1, q2, q3])
      refine AWp.cy ?_
      subst q3
      obtain rfl := hBf rfl
      rw [if_neg (fun e => e rfl)]
      refine AWp.dw [] [] mixed ?_ (hr := by conv => lhs; simp [Vl.row, Vl.rows_eq, q1, q2])
      refine AWp.ret ?_
      try dsimp only [thenQ, blockQ]
      apply endQ.ret
      · rfl
      · conv => lhs; simp [resAV, Tryd.results30]
      · rfl
  refine AWp.rg [] [] ?_ (hr := by conv => lhs; simp [Vl.row, Vl.rows_eq, q1, q2, q3])
  refine AWp.cn ?_
  refine AWp.skip ?_
  refine AWp.rg [] [] ?_ (hr := by conv => lhs; simp [Vl.row, Vl.rows_eq, q1, q2, q3])
  refine AWp.cy ?_
  obtain rfl : R = (zeroV, e) := by
    cases B with
    | true => rw [hBt rfl, if_pos q3]
    | false => rw [hBf rfl, if_pos q3]
  refine AWp.dw [] [] mixed ?_ (hr := by conv => lhs; simp [Vl.row, Vl.rows_eq, q1, q2, q3])
  refine AWp.ret ?_
  try dsimp only [thenQ, blockQ]
  apply endQ.ret
  · rfl
  · conv => lhs; simp [resAV, Tryd.results30]
  · rfl
end Go.Proofs.YtapiiklnnkkdlaaDoor

namespace Go.Proofs.YtapiiklnnkkdlaaDoor
open Go.RowKit
set_option linter.unusedVariables false
set_option linter.unusedSimpArgs false
def Fmo {α : Type} (F : Int → α × Int × Int) : Prop := ∀ f, 0 ≤ f → 0 ≤ (F f).2.1 ∧ ∀ k, 0 ≤ k → (F f).2.2 ≠ 12 → F (f + k) = ((F f).1, (F f).2.1 + k, (F f).2.2)
theorem Fmo.const {α : Type} (v : α) (e : Int) : Fmo fun f => (v, f, e) := fun f hf => ⟨hf, fun k _ _ => rfl⟩
theorem Fmo.map {α β : Type} {F : Int → α × Int × Int} (h : Fmo F) (g : α → Int → β) : Fmo fun f => (g (F f).1 (F f).2.2, (F f).2.1, (F f).2.2) := fun f hf => by
  obtain ⟨h1, h2⟩ := h f hf
  refine ⟨h1, fun k hk he => ?_⟩
  dsimp only at he ⊢
  rw [h2 k hk he]
theorem Fmo.bind {α β : Type} {F : Int → α × Int × Int} (h : Fmo F) (z : α → β) {G : α → Int → β × Int × Int} (hG : ∀ v, Fmo (G v)) :
    Fmo fun f => if (F f).2.2 ≠ 0 then (z (F f).1, (F f).2.1, (F f).2.2) else G (F f).1 (F f).2.1 := fun f hf => by
  obtain ⟨h1, h2⟩ := h f hf
  dsimp only
  by_cases he : (F f).2.2 ≠ 0
  · rw [if_pos he]
    refine ⟨h1, fun k hk h3 => ?_⟩
    dsimp only at h3
    rw [h2 k hk h3]
    dsimp only
    rw [if_pos he]
  · rw [if_neg he]
    obtain ⟨g1, g2⟩ := hG (F f).1 (F f).2.1 h1
    refine ⟨g1, fun k hk h3 => ?_⟩
    have h4 : (F f).2.2 ≠ 12 := fun e => he (by rw [e]; omega)
    rw [h2 k hk h4]
    dsimp only
    rw [if_neg he, g2 k hk h3]
theorem Fmo.congr {α : Type} {F G : Int → α × Int × Int} (h : Fmo F) (e : ∀ f, G f = F f) : Fmo G := by
  have : G = F := funext e
  rw [this]; exact h

theorem get_some {l : List Fn} {a : ByteArray} {m : Nat} (h : (arOf l).get a = some m) : ∃ x ∈ l, x.name = a := by
  unfold Arity.get arOf at h
  obtain ⟨p, hp, _⟩ := Option.map_eq_some_iff.1 h
  have h1 := List.find?_some hp
  have h2 := List.mem_of_find?_eq_some hp
  obtain ⟨x, hx, rfl⟩ := List.mem_map.1 h2
  exact ⟨x, List.mem_reverse.1 hx, of_decide_eq_true h1⟩
theorem get_none {l : List Fn} {a : ByteArray} (h : ((arOf l).get a).isSome = false) : ∀ x ∈ l, x.name ≠ a := by
  intro x hx e
  unfold Arity.get arOf at h
  rw [Option.isSome_map] at h
  have h1 : ((l.reverse.map fun x => (x.name, x.params.length)).find? fun x => decide (x.1 = a)) = none := by
    cases hq : ((l.reverse.map fun x => (x.name, x.params.length)).find? fun x => decide (x.1 = a)) with
    | none => rfl
    | some p => rw [hq] at h; cases h
  rw [List.find?_eq_none] at h1
  exact h1 (x.name, x.params.length) (List.mem_map.2 ⟨x, List.mem_reverse.2 hx, rfl⟩) (decide_eq_true e)
theorem heads_last : ∀ (l : List Fn) (f : Arity) (x : Fn), headsE f (l ++ [x]) = 0 → x.headE ((l.reverse.map fun x => (x.name, x.params.length)) ++ f) = 0
  | [], f, x, h => by
    simp only [List.nil_append, headsE] at h
    split at h
    · rename_i h1; exact absurd h h1
    · rename_i h1
      exact Decidable.byContradiction fun e => h1 e
  | y :: r, f, x, h => by
    simp only [List.cons_append, headsE] at h
    split at h
    · rename_i h1; exact absurd h h1
    · have := heads_last r _ x h
      simpa using this
theorem check_last {l : List Fn} {x : Fn} (h : checkE (l ++ [x]) = 0) : ∀ y ∈ l, y.name ≠ x.name := by
  obtain ⟨_, _, h1, _⟩ := check_zero h
  have h2 := heads_last l [] x h1
  rw [List.append_nil] at h2
  change x.headE (arOf l) = 0 at h2
  refine get_none ?_
  unfold Fn.headE at h2
  split at h2
  · cases h2
  rename_i h3
  simp only [Bool.or_eq_true, not_or, Bool.not_eq_true] at h3
  exact h3.1.1.1
theorem ev_congr (g : Bool) {f : Arity} {C C' : CallF} (hC : ∀ a m, f.get a = some m → ∀ vs fu, C a vs fu = C' a vs fu) : ∀ (N : Nat) (t : Tm) (names : List ByteArray) (deep : Int) (env : Env) (fuel : Int), t.sz < N → t.wrong f names deep = 0 → evT g C t env fuel = evT g C' t env fuel := by
  intro N
  induction N with
  | zero => intro t _ _ _ _ h; omega
  | succ N ih =>
  intro t names deep env fuel hN hw
  obtain ⟨k, n, a, b, vs, xs, cs⟩ := t
  obtain ⟨h1, h2, h3, h4, h5, h6, h7⟩ := wrong_zero hw
  have hx : ∀ x ∈ xs, x.sz < N := fun x hj => by have := Tm.sz_arg (k := k) (n := n) (a := a) (b := b) (vs := vs) (cs := cs) hj; omega
  have hX : ∀ x ∈ xs, ∀ env fuel, evT g C x env fuel = evT g C' x env fuel := fun x hx' env fuel => by
    obtain ⟨j, hj⟩ := List.mem_iff_getElem?.1 hx'
    exact ih x _ (deep + 1) env fuel (hx x hx') (wrongs_zero h6 j x hj)
  have hL : ∀ (ys : List Tm) (fuel : Int), (∀ y ∈ ys, y ∈ xs) → evL g C ys env fuel = evL g C' ys env fuel := by
    intro ys
    induction ys with
    | nil => intro fuel _; rw [evL, evL]
    | cons y r ih2 =>
      intro fuel hm
      rw [evL, evL, hX y (hm y (List.mem_cons_self ..)), ih2 _ fun z hz => hm z (List.mem_cons_of_mem _ hz)]
  have hB : k = 7 → ∀ (v : Vl) (ds : List Cs) (f : Int), (∀ d ∈ ds, d ∈ cs) → evC g C v ds env f = evC g C' v ds env f := by
    intro hk7 v ds
    induction ds with
    | nil => intro f _; rw [evC, evC]
    | cons d r ih2 =>
      intro f hm
      have hd := hm _ (List.mem_cons_self ..)
      obtain ⟨t, ws, y⟩ := d
      rw [evC, evC, evB, evB, ih2 f fun z hz => hm z (List.mem_cons_of_mem _ hz)]
      rw [ih y (names ++ ws) (deep + 1) _ _ (by have := Tm.sz_case (k := k) (n := n) (a := a) (b := b) (vs := vs) (xs := xs) hd; omega) (cwrongs_zero (h7 hk7).2.2 hd).2.2.2.2.2]
  rw [evT, evT]
  by_cases k1 : k = 1
  · rw [if_pos k1, if_pos k1]
  rw [if_neg k1, if_neg k1]
  by_cases k2 : k = 2
  · rw [if_pos k2, if_pos k2]
  rw [if_neg k2, if_neg k2]
  by_cases k6 : k = 6
  · rw [if_pos k6, if_pos k6]
    match xs, hX with
    | [], _ => rw [evLet, evLet]
    | x :: r, hX =>
      rw [evLet, evLet, hX x (List.mem_cons_self ..)]
      match r, hX with
      | [], _ => rw [evIn, evIn]
      | y :: r, hX => rw [evIn, evIn, hX y (by simp)]
  rw [if_neg k6, if_neg k6, hL xs fuel fun _ h => h]
  unfold afterL
  by_cases k3 : k = 3
  · rw [if_pos k3, if_pos k3]
  rw [if_neg k3, if_neg k3]
  by_cases k4 : k = 4
  · rw [if_pos k4, if_pos k4]
    have h8 : ∃ m, f.get a = some m := by
      unfold headE at h5
      rw [if_neg k1, if_neg k2, if_neg k3, if_neg (by omega), if_neg k6, if_pos k4] at h5
      cases hq : f.get a with
      | none => rw [hq] at h5; cases h5
      | some m => exact ⟨m, rfl⟩
    obtain ⟨m, hm⟩ := h8
    rw [hC a m hm]
  rw [if_neg k4, if_neg k4]
  by_cases k5 : k = 5
  · rw [if_pos k5, if_pos k5]
  rw [if_neg k5, if_neg k5]
  have hk7 : k = 7 := by omega
  dsimp only
  rw [hB hk7 _ cs _ fun _ h => h]
theorem evCall_more (g : Bool) {l : List Fn} {x : Fn} (hr : ∀ y ∈ l, y.Right (arOf l)) (hn : ∀ y ∈ l, y.name ≠ x.name) : ∀ (n : Nat) (a : ByteArray), a ≠ x.name → ∀ vs f, evCall g (l ++ [x]) n a vs f = evCall g l n a vs f := by
  have hf : ∀ a, a ≠ x.name → (l ++ [x]).find? (fun x => eqB x.name a) = l.find? (fun x => eqB x.name a) := fun a ha => by
    rw [List.find?_append]
    have h1 : eqB x.name a = false := by
      cases hq : eqB x.name a with
      | false => rfl
      | true => exact absurd (eqB_iff.1 hq).symm ha
    simp [h1]
  intro n
  induction n with
  | zero => intro a ha vs f; rw [evCall, evCall, hf a ha]
  | succ n ih =>
    intro a ha vs f
    rw [evCall, evCall, hf a ha]
    cases hq : l.find? (fun x => eqB x.name a) with
    | none => rfl
    | some y =>
      dsimp only
      have hy := List.mem_of_find?_eq_some hq
      have h1 := ev_congr g (f := arOf l) (C := evCall g (l ++ [x]) n) (C' := evCall g l n) (fun b m hb vs fu => by
        obtain ⟨z, hz, e⟩ := get_some hb
        exact ih b (by rw [← e]; exact hn z hz) vs fu) _ y.body y.params 0 (bindE y.params vs []) (f - 1) (Nat.lt_succ_self _) (hr y hy).wrong
      rw [h1]
theorem runE_more (g : Bool) {l : List Fn} {x : Fn} (h1 : checkE l = 0) (h2 : checkE (l ++ [x]) = 0) {name : ByteArray} (hn : x.name ≠ name) (args : List Int) (fuel : Int) : runE g (l ++ [x]) name args fuel = runE g l name args fuel := by
  unfold runE
  rw [evCall_more g (check_zero h1).2.2.2 (check_last h2) 40 name (fun e => hn e.symm)]
end Go.Proofs.YtapiiklnnkkdlaaDoor

namespace Go.Proofs
open Go.Shelf
def Tryd.laysM171_ren : Go.Shelf.Ren := ⟨fun | 171 => 97 | 243 => 142 | 246 => 168 | 283 => 173 | 284 => 174 | 285 => 175 | 286 => 176 | 129 => 183 | 317 => 182 | 318 => 184 | 319 => 185 | 320 => 186 | 337 => 190 | 338 => 191 | n => n, fun | 3 => 3 | 9 => 9 | 2 => 2 | 4 => 4 | 171 => 177 | 0 => 0 | 53 => 178 | 37 => 181 | 5 => 5 | 173 => 182 | 212 => 192 | 51 => 193 | 20 => 20 | 213 => 194 | 46 => 196 | 232 => 209 | 233 => 210 | n => n, fun | 17 => 0 | 18 => 3 | 19 => 4 | n => n⟩
theorem Tryd.laysM171 : Go.Proofs.LaysM.n171 Tryd.prog Tryd.laysM171_ren := {
  mixed := by kernel_rfl
  f129 := Tryd.func183.trans (congrArg some (by kernel_rfl))
  f171 := Tryd.func97.trans (congrArg some (by kernel_rfl))
  f243 := Tryd.func142.trans (congrArg some (by kernel_rfl))
  f246 := Tryd.func168.trans (congrArg some (by kernel_rfl))
  f283 := Tryd.func173.trans (congrArg some (by kernel_rfl))
  f284 := Tryd.func174.trans (congrArg some (by kernel_rfl))
  f285 := Tryd.func175.trans (congrArg some (by kernel_rfl))
  f286 := Tryd.func176.trans (congrArg some (by kernel_rfl))
  f317 := Tryd.func182.trans (congrArg some (by kernel_rfl))
  f318 := Tryd.func184.trans (congrArg some (by kernel_rfl))
  f319 := Tryd.func185.trans (congrArg some (by kernel_rfl))
  f320 := Tryd.func186.trans (congrArg some (by kernel_rfl))
  f337 := Tryd.func190.trans (congrArg some (by kernel_rfl))
  f338 := Tryd.func191.trans (congrArg some (by kernel_rfl))
  t0 := Tryd.underlying0
  a0 := Tryd.isAgg0
  z0 := Tryd.sizeOf0
  v0 := Tryd.zeroValue0
  t2 := Tryd.underlying2
  a2 := Tryd.isAgg2
  z2 := Tryd.sizeOf2
  v2 := Tryd.zeroValue2
  t3 := Tryd.underlying3
  a3 := Tryd.isAgg3
  z3 := Tryd.sizeOf3
  v3 := Tryd.zeroValue3
  t4 := Tryd.underlying4
  a4 := Tryd.isAgg4
  z4 := Tryd.sizeOf4
  v4 := Tryd.zeroValue4
  t5 := Tryd.underlying5
  a5 := Tryd.isAgg5
  z5 := Tryd.sizeOf5
  v5 := Tryd.zeroValue5
  t9 := Tryd.underlying9
  a9 := Tryd.isAgg9
  z9 := Tryd.sizeOf9
  v9 := Tryd.zeroValue9
  t20 := Tryd.underlying20
  a20 := Tryd.isAgg20
  z20 := Tryd.sizeOf20
  v20 := Tryd.zeroValue20
  t37 := Tryd.underlying181
  a37 := Tryd.isAgg181
  z37 := Tryd.sizeOf181
  v37 := Tryd.zeroValue181
  t46 := Tryd.underlying196
  a46 := Tryd.isAgg196
  z46 := Tryd.sizeOf196
  v46 := Tryd.zeroValue196
  t51 := Tryd.underlying193
  a51 := Tryd.isAgg193
  z51 := Tryd.sizeOf193
  v51 := Tryd.zeroValue193
  t53 := Tryd.underlying178
  a53 := Tryd.isAgg178
  z53 := Tryd.sizeOf178
  v53 := Tryd.zeroValue178
  t171 := Tryd.underlying177
  a171 := Tryd.isAgg177
  z171 := Tryd.sizeOf177
  v171 := Tryd.zeroValue177
  t173 := Tryd.underlying182
  a173 := Tryd.isAgg182
  z173 := Tryd.sizeOf182
  v173 := Tryd.zeroValue182
  t212 := Tryd.underlying192
  a212 := Tryd.isAgg192
  z212 := Tryd.sizeOf192
  v212 := Tryd.zeroValue192
  t213 := Tryd.underlying194
  a213 := Tryd.isAgg194
  z213 := Tryd.sizeOf194
  t232 := Tryd.underlying209
  a232 := Tryd.isAgg209
  z232 := Tryd.sizeOf209
  v232 := Tryd.zeroValue209
  t233 := Tryd.underlying210
  a233 := Tryd.isAgg210
  z233 := Tryd.sizeOf210
  v233 := Tryd.zeroValue210
  g17 := by kernel_rfl
  g18 := by kernel_rfl
  g19 := by kernel_rfl
  i0 := by kernel_rfl
  i2 := by kernel_rfl
  i3 := by kernel_rfl
  i4 := by kernel_rfl
  i5 := by kernel_rfl
  i9 := by kernel_rfl
  i20 := by kernel_rfl
  i37 := by kernel_rfl
  i46 := by kernel_rfl
  i51 := by kernel_rfl
  i53 := by kernel_rfl
  i171 := by kernel_rfl
  i173 := by kernel_rfl
  i212 := by kernel_rfl
  i232 := by kernel_rfl
  i233 := by kernel_rfl
  m17 := by kernel_rfl
  m18 := by kernel_rfl
  m19 := by kernel_rfl }
open Go.RowKit Go.Sort Go.Lib in
theorem Tryd.strconv_Itoa (n : Int) (h0 : -9223372036854775808 ≤ n) (h1 : n ≤ 9223372036854775807) (w : World) (htab : Lib.TabIs Tryd.prog w "internal/strconv.uint64pow10" .u64 Lib.pow10Tab) :
    Calls Tryd.prog 97 #[.int .i64 n] w fun e w' => e = .returned (.string ⟨(Lib.itoa n).toArray⟩) ∧ ∃ k os, w' = grow (w.drewN k) os := Any.strconv_Itoa Tryd.laysM171 n h0 h1 w htab
def Tryd.laysC172_ren : Go.Shelf.Ren := ⟨fun | 172 => 167 | 244 => 171 | 245 => 172 | 247 => 177 | 279 => 178 | 280 => 179 | 281 => 180 | 282 => 181 | 287 => 187 | 316 => 188 | 171 => 97 | 205 => 189 | 321 => 192 | 322 => 193 | 243 => 142 | 246 => 168 | 283 => 173 | 284 => 174 | 285 => 175 | 286 => 176 | 129 => 183 | 317 => 182 | 318 => 184 | 319 => 185 | 320 => 186 | 337 => 190 | 338 => 191 | n => n, fun | 9 => 9 | 3 => 3 | 75 => 172 | 76 => 173 | 4 => 4 | 5 => 5 | 167 => 184 | 37 => 181 | 0 => 0 | 85 => 185 | 2 => 2 | 168 => 187 | 53 => 178 | 175 => 198 | 46 => 196 | 210 => 201 | 127 => 205 | 145 => 208 | 143 => 206 | 21 => 21 | 171 => 177 | 173 => 182 | 212 => 192 | 51 => 193 | 20 => 20 | 213 => 194 | 232 => 209 | 233 => 210 | 80 => 97 | n => n, fun | 15 => 1 | 16 => 2 | 17 => 0 | 18 => 3 | 19 => 4 | n => n⟩
theorem Tryd.laysC172 : Go.Proofs.LaysC.n172 Tryd.prog Tryd.laysC172_ren := {
  mixed := by kernel_rfl
  f129 := Tryd.func183.trans (congrArg some (by kernel_rfl))
  f171 := Tryd.func97.trans (congrArg some (by kernel_rfl))
  f172 := Tryd.func167.trans (congrArg some (by kernel_rfl))
  f205 := Tryd.func189.trans (congrArg some (by kernel_rfl))
  f243 := Tryd.func142.trans (congrArg some (by kernel_rfl))
  f244 := Tryd.func171.trans (congrArg some (by kernel_rfl))
  f245 := Tryd.func172.trans (congrArg some (by kernel_rfl))
  f246 := Tryd.func168.trans (congrArg some (by kernel_rfl))
  f247 := Tryd.func177.trans (congrArg some (by kernel_rfl))
  f279 := Tryd.func178.trans (congrArg some (by kernel_rfl))
  f280 := Tryd.func179.trans (congrArg some (by kernel_rfl))
  f281 := Tryd.func180.trans (congrArg some (by kernel_rfl))
  f282 := Tryd.func181.trans (congrArg some (by kernel_rfl))
  f283 := Tryd.func173.trans (congrArg some (by kernel_rfl))
  f284 := Tryd.func174.trans (congrArg some (by kernel_rfl))
  f285 := Tryd.func175.trans (congrArg some (by kernel_rfl))
  f286 := Tryd.func176.trans (congrArg some (by kernel_rfl))
  f287 := Tryd.func187.trans (congrArg some (by kernel_rfl))
  f316 := Tryd.func188.trans (congrArg some (by kernel_rfl))
  f317 := Tryd.func182.trans (congrArg some (by kernel_rfl))
  f318 := Tryd.func184.trans (congrArg some (by kernel_rfl))
  f319 := Tryd.func185.trans (congrArg some (by kernel_rfl))
  f320 := Tryd.func186.trans (congrArg some (by kernel_rfl))
  f321 := Tryd.func192.trans (congrArg some (by kernel_rfl))
  f322 := Tryd.func193.trans (congrArg some (by kernel_rfl))
  f337 := Tryd.func190.trans (congrArg some (by kernel_rfl))
  f338 := Tryd.func191.trans (congrArg some (by kernel_rfl))
  t0 := Tryd.underlying0
  a0 := Tryd.isAgg0
  z0 := Tryd.sizeOf0
  v0 := Tryd.zeroValue0
  t2 := Tryd.underlying2
  a2 := Tryd.isAgg2
  z2 := Tryd.sizeOf2
  v2 := Tryd.zeroValue2
  t3 := Tryd.underlying3
  a3 := Tryd.isAgg3
  z3 := Tryd.sizeOf3
  v3 := Tryd.zeroValue3
  t4 := Tryd.underlying4
  a4 := Tryd.isAgg4
  z4 := Tryd.sizeOf4
  v4 := Tryd.zeroValue4
  t5 := Tryd.underlying5
  a5 := Tryd.isAgg5
  z5 := Tryd.sizeOf5
  v5 := Tryd.zeroValue5
  t9 := Tryd.underlying9
  a9 := Tryd.isAgg9
  z9 := Tryd.sizeOf9
  v9 := Tryd.zeroValue9
  t20 := Tryd.underlying20
  a20 := Tryd.isAgg20
  z20 := Tryd.sizeOf20
  v20 := Tryd.zeroValue20
  t21 := Tryd.underlying21
  a21 := Tryd.isAgg21
  z21 := Tryd.sizeOf21
  v21 := Tryd.zeroValue21
  t37 := Tryd.underlying181
  a37 := Tryd.isAgg181
  z37 := Tryd.sizeOf181
  v37 := Tryd.zeroValue181
  t46 := Tryd.underlying196
  a46 := Tryd.isAgg196
  z46 := Tryd.sizeOf196
  v46 := Tryd.zeroValue196
  t51 := Tryd.underlying193
  a51 := Tryd.isAgg193
  z51 := Tryd.sizeOf193
  v51 := Tryd.zeroValue193
  t53 := Tryd.underlying178
  a53 := Tryd.isAgg178
  z53 := Tryd.sizeOf178
  v53 := Tryd.zeroValue178
  t75 := Tryd.underlying172
  a75 := Tryd.isAgg172
  z75 := Tryd.sizeOf172
  v75 := Tryd.zeroValue172
  t76 := Tryd.underlying173
  a76 := Tryd.isAgg173
  z76 := Tryd.sizeOf173
  v76 := Tryd.zeroValue173
  t85 := Tryd.underlying185
  a85 := Tryd.isAgg185
  z85 := Tryd.sizeOf185
  v85 := Tryd.zeroValue185
  t127 := Tryd.underlying205
  a127 := Tryd.isAgg205
  z127 := Tryd.sizeOf205
  v127 := Tryd.zeroValue205
  t143 := Tryd.underlying206
  a143 := Tryd.isAgg206
  z143 := Tryd.sizeOf206
  v143 := Tryd.zeroValue206
  t145 := Tryd.underlying208
  a145 := Tryd.isAgg208
  z145 := Tryd.sizeOf208
  v145 := Tryd.zeroValue208
  t167 := Tryd.underlying184
  a167 := Tryd.isAgg184
  z167 := Tryd.sizeOf184
  v167 := Tryd.zeroValue184
  t168 := Tryd.underlying187
  a168 := Tryd.isAgg187
  z168 := Tryd.sizeOf187
  v168 := Tryd.zeroValue187
  t171 := Tryd.underlying177
  a171 := Tryd.isAgg177
  z171 := Tryd.sizeOf177
  v171 := Tryd.zeroValue177
  t173 := Tryd.underlying182
  a173 := Tryd.isAgg182
  z173 := Tryd.sizeOf182
  v173 := Tryd.zeroValue182
  t175 := Tryd.underlying198
  a175 := Tryd.isAgg198
  z175 := Tryd.sizeOf198
  v175 := Tryd.zeroValue198
  t210 := Tryd.underlying201
  a210 := Tryd.isAgg201
  z210 := Tryd.sizeOf201
  v210 := Tryd.zeroValue201
  t212 := Tryd.underlying192
  a212 := Tryd.isAgg192
  z212 := Tryd.sizeOf192
  v212 := Tryd.zeroValue192
  t213 := Tryd.underlying194
  a213 := Tryd.isAgg194
  z213 := Tryd.sizeOf194
  t232 := Tryd.underlying209
  a232 := Tryd.isAgg209
  z232 := Tryd.sizeOf209
  v232 := Tryd.zeroValue209
  t233 := Tryd.underlying210
  a233 := Tryd.isAgg210
  z233 := Tryd.sizeOf210
  v233 := Tryd.zeroValue210
  g15 := by kernel_rfl
  g16 := by kernel_rfl
  g17 := by kernel_rfl
  g18 := by kernel_rfl
  g19 := by kernel_rfl
  t80 := Tryd.underlying97
  a80 := Tryd.isAgg97
  z80 := Tryd.sizeOf97
  v80 := Tryd.zeroValue97
  i0 := by kernel_rfl
  i2 := by kernel_rfl
  i3 := by kernel_rfl
  i4 := by kernel_rfl
  i5 := by kernel_rfl
  i9 := by kernel_rfl
  i20 := by kernel_rfl
  i21 := by kernel_rfl
  i37 := by kernel_rfl
  i46 := by kernel_rfl
  i51 := by kernel_rfl
  i53 := by kernel_rfl
  i75 := by kernel_rfl
  i76 := by kernel_rfl
  i80 := by kernel_rfl
  i85 := by kernel_rfl
  i127 := by kernel_rfl
  i143 := by kernel_rfl
  i145 := by kernel_rfl
  i167 := by kernel_rfl
  i168 := by kernel_rfl
  i171 := by kernel_rfl
  i173 := by kernel_rfl
  i175 := by kernel_rfl
  i210 := by kernel_rfl
  i212 := by kernel_rfl
  i232 := by kernel_rfl
  i233 := by kernel_rfl
  m15 := by kernel_rfl
  m16 := by kernel_rfl
  m17 := by kernel_rfl
  m18 := by kernel_rfl
  m19 := by kernel_rfl
  c0 := by kernel_rfl
  c2 := by kernel_rfl
  c3 := by kernel_rfl
  c4 := by kernel_rfl
  c5 := by kernel_rfl
  c9 := by kernel_rfl
  c20 := by kernel_rfl
  c21 := by kernel_rfl
  c37 := by kernel_rfl
  c46 := by kernel_rfl
  c51 := by kernel_rfl
  c53 := by kernel_rfl
  c75 := by kernel_rfl
  c76 := by kernel_rfl
  c80 := by kernel_rfl
  c85 := by kernel_rfl
  c127 := by kernel_rfl
  c143 := by kernel_rfl
  c145 := by kernel_rfl
  c167 := by kernel_rfl
  c168 := by kernel_rfl
  c171 := by kernel_rfl
  c173 := by kernel_rfl
  c175 := by kernel_rfl
  c210 := by kernel_rfl
  c212 := by kernel_rfl
  c213 := by kernel_rfl
  c232 := by kernel_rfl
  c233 := by kernel_rfl }
open Go.RowKit in
theorem Tryd.strconv_Atoi_ok (s : ByteArray) (hmax : s.size ≤ 9223372036854775806) (v : Int) (h : Lib.atoiAll s.data.toList = .ok v) (w : World) :
    Calls Tryd.prog 167 #[.string s] w fun e w' => e = .returned (.tuple #[.int .i64 v, .nilIface]) ∧ (w' = w ∨ ∃ t, w' = Lib.bytesWorld w 5 t) := Any.strconv_Atoi_ok Tryd.laysC172 s hmax v h w
open Go.RowKit in
theorem Tryd.strconv_Atoi_syntax_var (s : ByteArray) (hlim : s.size ≤ 281474976710656) (h : Lib.atoiAll s.data.toList = .«syntax») (tp : TypeId) (p : Value) (w : World) (hvar : w.var? Tryd.prog "strconv.ErrSyntax" = some #[.iface tp p]) :
    Calls Tryd.prog 167 #[.string s] w fun e w' => ∃ N, e = .returned (.tuple #[.int .i64 0, .iface 187 (.pointer (some ⟨N, 0, none⟩))]) ∧ w.heap.size ≤ N ∧ w'.heap[N]? = some (.cells #[.string ⟨#[65, 116, 111, 105]⟩, .string s, .iface tp p] 201 (0, 0)) ∧ Below w.heap.size w w' := Any.strconv_Atoi_syntax_var Tryd.laysC172 s hlim h tp p w hvar
open Go.RowKit in
theorem Tryd.strconv_Atoi_range_var (s : ByteArray) (hlim : s.size ≤ 281474976710656) (h : Lib.atoiAll s.data.toList = .range) (tp : TypeId) (p : Value) (w : World) (hvar : w.var? Tryd.prog "strconv.ErrRange" = some #[.iface tp p]) :
    Calls Tryd.prog 167 #[.string s] w fun e w' => ∃ N, e = .returned (.tuple #[.int .i64 (Lib.atoiSat s.data.toList), .iface 187 (.pointer (some ⟨N, 0, none⟩))]) ∧ w.heap.size ≤ N ∧ w'.heap[N]? = some (.cells #[.string ⟨#[65, 116, 111, 105]⟩, .string s, .iface tp p] 201 (0, 0)) ∧ Below w.heap.size w w' := Any.strconv_Atoi_range_var Tryd.laysC172 s hlim h tp p w hvar
end Go.Proofs

namespace Go.Proofs.YtapiiklnnkkdlaaDoor
open Go.RowKit
set_option linter.unusedVariables false
set_option linter.unusedSimpArgs false
def itoaB (n : Int) : ByteArray := ⟨(Lib.itoa n).toArray⟩

abbrev PS := Nat × Int
def isBl (c : UInt8) : Bool := c.toNat == 32 || (c.toNat == 9 || c.toNat == 10)
def isBr (c : UInt8) : Bool := c.toNat == 40 || c.toNat == 41
def nBl : List UInt8 → Nat
  | [] => 0
  | c :: r => if isBl c then nBl r + 1 else 0
def nWd : List UInt8 → Nat
  | [] => 0
  | c :: r => if isBl c || isBr c then 0 else nWd r + 1
def nPk : List UInt8 → Nat
  | [] => 0
  | c :: r => if isBr c then 1 else nWd (c :: r)
def pkA (s : ByteArray) (a : Nat) : Nat := a + nBl (s.data.toList.drop a)
def pkE (s : ByteArray) (a : Nat) : Nat := a + nPk (s.data.toList.drop a)
def pkW (s : ByteArray) (a : Nat) : ByteArray := s.extract (pkA s a) (pkE s (pkA s a))
def badE (e x : Int) : Int := if e = 0 then x else e
def nxS (s : ByteArray) (p : PS) : PS := (pkE s (pkA s p.1), if (pkW s p.1).size = 0 then badE p.2 8 else p.2)
def wantS (s w : ByteArray) (p : PS) : PS := if pkW s p.1 = w then nxS s p else ((nxS s p).1, badE (nxS s p).2 2)
def namP (s : ByteArray) (p : PS) : ByteArray × PS := (pkW s p.1, if nameB (pkW s p.1) then nxS s p else ((nxS s p).1, badE (nxS s p).2 7))
def numP (w : ByteArray) : Int × Bool := match Lib.atoiAll w.data.toList with
  | .ok v => (v, decide (itoaB v = w))
  | .range => (Lib.atoiSat w.data.toList, false)
  | _ => (0, false)
def sharp (w : ByteArray) : Bool := match w.data.toList with
  | c :: _ => c.toNat == 35
  | [] => false
def tagP (g : Bool) (s : ByteArray) (p : PS) : Int × PS :=
  if decide (1 < (pkW s p.1).size) && sharp (pkW s p.1) && (numP ((pkW s p.1).extract 1 (pkW s p.1).size)).2 then ((numP ((pkW s p.1).extract 1 (pkW s p.1).size)).1, nxS s p)
  else (if g && (decide (1 < (pkW s p.1).size) && sharp (pkW s p.1)) then (numP ((pkW s p.1).extract 1 (pkW s p.1).size)).1 else 0, ((nxS s p).1, badE (nxS s p).2 2))
theorem tagP_ref (s : ByteArray) (p : PS) : tagP false s p = if decide (1 < (pkW s p.1).size) && sharp (pkW s p.1) && (numP ((pkW s p.1).extract 1 (pkW s p.1).size)).2 then ((numP ((pkW s p.1).extract 1 (pkW s p.1).size)).1, nxS s p)
  else (0, ((nxS s p).1, badE (nxS s p).2 2)) := by
  unfold tagP
  rw [Bool.false_and]
  rfl
abbrev rbr : ByteArray := ⟨#[41]⟩
abbrev lbr : ByteArray := ⟨#[40]⟩
def manyP {α : Type} (s : ByteArray) (one : PS → α × PS) : Nat → PS → List α × PS
  | 0, p => ([], p)
  | n + 1, p =>
    if p.2 = 0 then
      if pkW s p.1 = rbr then ([], wantS s rbr (pkA s p.1, p.2))
      else ((one (pkA s p.1, p.2)).1 :: (manyP s one n (one (pkA s p.1, p.2)).2).1, (manyP s one n (one (pkA s p.1, p.2)).2).2)
    else ([], wantS s rbr p)
def primsL : List ByteArray := [⟨#[43]⟩, ⟨#[45]⟩, ⟨#[42]⟩, ⟨#[60]⟩, ⟨#[61]⟩]
def primI (w : ByteArray) : List ByteArray → Int → Int → Int
  | [], _, r => r
  | x :: l, i, r => primI w l (i + 1) (if w = x then i + 1 else r)
abbrev wLet : ByteArray := ⟨#[108, 101, 116]⟩
abbrev wMatch : ByteArray := ⟨#[109, 97, 116, 99, 104]⟩
def casP (g : Bool) (s : ByteArray) (one : PS → Tm × PS) (p : PS) : Cs × PS :=
  let t := tagP g s (wantS s lbr p)
  let ws := manyP s (namP s) (s.size + 2) (wantS s lbr t.2)
  let y := one ws.2
  (.mk t.1 ws.1 y.1, wantS s rbr y.2)
def atomP (s : ByteArray) (p : PS) : Tm × PS :=
  if (numP (pkW s p.1)).2 then (.mk 2 (numP (pkW s p.1)).1 .empty .empty [] [] [], nxS s p)
  else (.mk 1 0 (pkW s p.1) .empty [] [] [], if nameB (pkW s p.1) then nxS s p else ((nxS s p).1, badE (nxS s p).2 7))
def formP (g : Bool) (s : ByteArray) (one : PS → Tm × PS) (w : ByteArray) (p : PS) : Tm × PS :=
  if sharp w then
    let t := tagP g s p
    let xs := manyP s one (s.size + 2) t.2
    (.mk 3 t.1 .empty .empty [] xs.1 [], xs.2)
  else if w = wLet then
    let nm := namP s (nxS s p)
    let x := one nm.2
    let y := one x.2
    (.mk 6 0 nm.1 .empty [] [x.1, y.1] [], wantS s rbr y.2)
  else if w = wMatch then
    let x := one (nxS s p)
    let cs := manyP s (casP g s one) (s.size + 2) x.2
    (.mk 7 0 .empty .empty [] [x.1] cs.1, cs.2)
  else if 0 < primI w primsL 0 0 then
    let x := one (nxS s p)
    let y := one x.2
    (.mk 5 (primI w primsL 0 0) .empty .empty [] [x.1, y.1] [], wantS s rbr y.2)
  else
    let nm := namP s p
    let xs := manyP s one (s.size + 2) nm.2
    (.mk 4 0 nm.1 .empty [] xs.1 [], xs.2)
def Tm.ps (g : Bool) (s : ByteArray) : Nat → PS → Tm × PS
  | 0, p => (.mk 0 0 .empty .empty [] [] [], (p.1, badE p.2 9))
  | n + 1, p =>
    if pkW s p.1 = lbr then formP g s (Tm.ps g s n) (pkW s (nxS s p).1) (pkA s (nxS s p).1, (nxS s p).2)
    else atomP s (pkA s p.1, p.2)
abbrev wFn : ByteArray := ⟨#[102, 110]⟩
def fnP (g : Bool) (s : ByteArray) (p : PS) : Fn × PS :=
  let nm := namP s (wantS s wFn (wantS s lbr p))
  let ws := manyP s (namP s) (s.size + 2) (wantS s lbr nm.2)
  let y := Tm.ps g s 25 ws.2
  (⟨nm.1, ws.1, y.1⟩, wantS s rbr y.2)
def fnsP (g : Bool) (s : ByteArray) : Nat → PS → List Fn × PS
  | 0, p => ([], p)
  | n + 1, p =>
    if p.2 = 0 then
      if (pkW s p.1).size = 0 then ([], (pkA s p.1, p.2))
      else ((fnP g s (pkA s p.1, p.2)).1 :: (fnsP g s n (fnP g s (pkA s p.1, p.2)).2).1, (fnsP g s n (fnP g s (pkA s p.1, p.2)).2).2)
    else ([], p)
def parseP (g : Bool) (s : ByteArray) : List Fn × Int :=
  if 1500 < s.size then ([], 4)
  else if (fnsP g s (s.size + 2) (0, 0)).2.2 = 0 then ((fnsP g s (s.size + 2) (0, 0)).1, 0) else ([], (fnsP g s (s.size + 2) (0, 0)).2.2)
structure Stp (s : ByteArray) (p q : PS) : Prop where
  le : p.1 ≤ q.1
  sz : q.1 ≤ s.size
  er : p.2 ≠ 0 → q.2 = p.2
structure Adv (s : ByteArray) (p q : PS) : Prop extends Stp s p q where
  on : q.2 ≠ 0 ∨ p.1 < q.1
theorem Stp.trans {s : ByteArray} {p q r : PS} (h : Stp s p q) (h2 : Stp s q r) : Stp s p r := ⟨Nat.le_trans h.le h2.le, h2.sz, fun e => by have h3 := h.er e; rw [h2.er (by rw [h3]; exact e), h3]⟩
theorem Adv.trans {s : ByteArray} {p q r : PS} (h : Stp s p q) (h2 : Adv s q r) : Adv s p r := ⟨h.trans h2.toStp, h2.on.imp id fun h3 => Nat.lt_of_le_of_lt h.le h3⟩
theorem Adv.then {s : ByteArray} {p q r : PS} (h : Adv s p q) (h2 : Stp s q r) : Adv s p r := ⟨h.toStp.trans h2, by
  rcases h.on with h3 | h3
  · exact .inl (by rw [h2.er h3]; exact h3)
  · exact .inr (Nat.lt_of_lt_of_le h3 h2.le)⟩
theorem nBl_le : ∀ l : List UInt8, nBl l ≤ l.length
  | [] => Nat.le_refl _
  | c :: r => by
    have := nBl_le r
    rw [nBl]; split <;> simp <;> omega
theorem nWd_le : ∀ l : List UInt8, nWd l ≤ l.length
  | [] => Nat.le_refl _
  | c :: r => by
    have := nWd_le r
    rw [nWd]; split <;> simp <;> omega
theorem nPk_le : ∀ l : List UInt8, nPk l ≤ l.length
  | [] => Nat.le_refl _
  | c :: r => by
    have := nWd_le (c :: r)
    rw [nPk]; split
    · simp
    · exact this
theorem toList_size (s : ByteArray) : s.data.toList.length = s.size := Array.length_toList
theorem pkA_le {s : ByteArray} {a : Nat} (h : a ≤ s.size) : a ≤ pkA s a ∧ pkA s a ≤ s.size := by
  have := nBl_le (s.data.toList.drop a)
  rw [List.length_drop, toList_size] at this
  unfold pkA; omega
theorem pkE_le {s : ByteArray} {a : Nat} (h : a ≤ s.size) : a ≤ pkE s a ∧ pkE s a ≤ s.size := by
  have := nPk_le (s.data.toList.drop a)
  rw [List.length_drop, toList_size] at this
  unfold pkE; omega
theorem pkW_size {s : ByteArray} {a : Nat} (h : a ≤ s.size) : (pkW s a).size = pkE s (pkA s a) - pkA s a := by
  have h1 := pkA_le h
  have h2 := pkE_le h1.2
  unfold pkW
  rw [ByteArray.size_extract]; omega
theorem badE_ne {e x : Int} (hx : x ≠ 0) : badE e x ≠ 0 := by
  unfold badE; split <;> assumption
theorem badE_er {e x : Int} (h : e ≠ 0) : badE e x = e := if_neg h
theorem Stp.pk {s : ByteArray} {p : PS} (h : p.1 ≤ s.size) : Stp s p (pkA s p.1, p.2) := ⟨(pkA_le h).1, (pkA_le h).2, fun _ => rfl⟩
theorem Stp.bad {s : ByteArray} {p q : PS} {x : Int} (h : Stp s p q) : Stp s p (q.1, badE q.2 x) := ⟨h.le, h.sz, fun e => by
  have h2 := h.er e
  dsimp only
  rw [badE_er (by rw [h2]; exact e), h2]⟩
theorem Adv.bad {s : ByteArray} {p q : PS} {x : Int} (h : Adv s p q) : Adv s p (q.1, badE q.2 x) := ⟨h.toStp.bad, by
  rcases h.on with h3 | h3
  · exact .inl (by dsimp only; rw [badE_er h3]; exact h3)
  · exact .inr h3⟩
theorem nxS_adv {s : ByteArray} {p : PS} (h : p.1 ≤ s.size) : Adv s p (nxS s p) := by
  have h1 := pkA_le h
  have h2 := pkE_le h1.2
  have h3 := pkW_size h
  unfold nxS
  refine ⟨⟨Nat.le_trans h1.1 h2.1, h2.2, fun e => ?_⟩, ?_⟩
  · dsimp only
    split
    · exact badE_er e
    · rfl
  · dsimp only
    split
    · exact .inl (badE_ne (by decide))
    · exact .inr (by omega)
theorem wantS_adv {s w : ByteArray} {p : PS} (h : p.1 ≤ s.size) : Adv s p (wantS s w p) := by
  unfold wantS
  split
  · exact nxS_adv h
  · exact (nxS_adv h).bad
theorem namP_adv {s : ByteArray} {p : PS} (h : p.1 ≤ s.size) : Adv s p (namP s p).2 := by
  unfold namP
  dsimp only
  split
  · exact nxS_adv h
  · exact (nxS_adv h).bad
theorem tagP_adv {g : Bool} {s : ByteArray} {p : PS} (h : p.1 ≤ s.size) : Adv s p (tagP g s p).2 := by
  unfold tagP
  split
  · exact nxS_adv h
  · exact (nxS_adv h).bad
theorem manyP_adv {α : Type} {s : ByteArray} {one : PS → α × PS} (ho : ∀ p : PS, p.1 ≤ s.size → Adv s p (one p).2) : ∀ (n : Nat) (p : PS), p.1 ≤ s.size → Stp s p (manyP s one n p).2 ∧ (n ≠ 0 → Adv s p (manyP s one n p).2) ∧ (manyP s one n p).1.length ≤ n
  | 0, p, h => ⟨⟨Nat.le_refl _, h, fun _ => rfl⟩, fun h => absurd rfl h, Nat.le_refl _⟩
  | n + 1, p, h => by
    have key : Adv s p (manyP s one (n + 1) p).2 ∧ (manyP s one (n + 1) p).1.length ≤ n + 1 := by
      rw [manyP]
      split
      · split
        · exact ⟨Adv.trans (Stp.pk h) (wantS_adv (pkA_le h).2), Nat.zero_le _⟩
        · have h1 := ho (pkA s p.1, p.2) (pkA_le h).2
          obtain ⟨h2, _, h3⟩ := manyP_adv ho n (one (pkA s p.1, p.2)).2 h1.sz
          exact ⟨Adv.trans (Stp.pk h) (h1.then h2), by simpa using h3⟩
      · exact ⟨wantS_adv h, Nat.zero_le _⟩
    exact ⟨key.1.toStp, fun _ => key.1, key.2⟩
theorem casP_adv {g : Bool} {s : ByteArray} {one : PS → Tm × PS} (ho : ∀ p : PS, p.1 ≤ s.size → Adv s p (one p).2) {p : PS} (h : p.1 ≤ s.size) : Adv s p (casP g s one p).2 := by
  unfold casP
  dsimp only
  have h1 := wantS_adv (w := lbr) h
  have h2 := tagP_adv (g := g) h1.sz
  have h3 := wantS_adv (w := lbr) h2.sz
  have h4 := (manyP_adv (fun p h => namP_adv h) (s.size + 2) _ h3.sz).1
  have h5 := ho _ h4.sz
  exact (h1.then h2.toStp).then ((h3.toStp.trans h4).trans (h5.toStp.trans (wantS_adv h5.sz).toStp))
theorem formP_adv {g : Bool} {s w : ByteArray} {one : PS → Tm × PS} (ho : ∀ p : PS, p.1 ≤ s.size → Adv s p (one p).2) {p : PS} (h : p.1 ≤ s.size) : Adv s p (formP g s one w p).2 := by
  unfold formP
  split
  · have h1 := tagP_adv (g := g) h
    exact h1.then (manyP_adv ho _ _ h1.sz).1
  split
  · have h1 := nxS_adv h
    have h2 := namP_adv h1.sz
    have h3 := ho _ h2.sz
    have h4 := ho _ h3.sz
    exact (h1.then h2.toStp).then (h3.toStp.trans (h4.toStp.trans (wantS_adv h4.sz).toStp))
  split
  · have h1 := nxS_adv h
    have h3 := ho _ h1.sz
    exact h1.then (h3.toStp.trans (manyP_adv (fun p h => casP_adv ho h) _ _ h3.sz).1)
  split
  · have h1 := nxS_adv h
    have h3 := ho _ h1.sz
    have h4 := ho _ h3.sz
    exact h1.then (h3.toStp.trans (h4.toStp.trans (wantS_adv h4.sz).toStp))
  · have h1 := namP_adv h
    exact h1.then (manyP_adv ho _ _ h1.sz).1
theorem ps_adv {g : Bool} {s : ByteArray} : ∀ (n : Nat) (p : PS), p.1 ≤ s.size → Adv s p (Tm.ps g s n p).2
  | 0, p, h => ⟨⟨Nat.le_refl _, h, fun e => badE_er e⟩, .inl (badE_ne (by decide))⟩
  | n + 1, p, h => by
    rw [Tm.ps]
    split
    · have h1 := nxS_adv h
      exact h1.then ((Stp.pk h1.sz).trans (formP_adv (ps_adv n) (pkA_le h1.sz).2).toStp)
    · refine Adv.trans (Stp.pk h) ?_
      have h1 := nxS_adv (s := s) (p := (pkA s p.1, p.2)) (pkA_le h).2
      unfold atomP
      split
      · exact h1
      · dsimp only
        split
        · exact h1
        · exact h1.bad
theorem fnP_adv {g : Bool} {s : ByteArray} {p : PS} (h : p.1 ≤ s.size) : Adv s p (fnP g s p).2 := by
  unfold fnP
  dsimp only
  have h1 := wantS_adv (w := lbr) h
  have h2 := wantS_adv (w := wFn) h1.sz
  have h3 := namP_adv h2.sz
  have h4 := wantS_adv (w := lbr) h3.sz
  have h5 := (manyP_adv (fun p h => namP_adv h) (s.size + 2) _ h4.sz).1
  have h6 := ps_adv (g := g) 25 _ h5.sz
  exact (h1.then h2.toStp).then ((h3.toStp.trans h4.toStp).trans (h5.trans (h6.toStp.trans (wantS_adv h6.sz).toStp)))

theorem numP_in (s : ByteArray) : inI (numP s).1 := by
  unfold numP
  rcases h : Lib.atoiAll s.data.toList with v | _ | _
  · exact Lib.atoiAll_bounds h
  · exact ⟨by dsimp only; decide, by dsimp only; decide⟩
  · exact Lib.atoiSat_bounds _
set_option maxRecDepth 100000 in
set_option maxHeartbeats 4000000 in
theorem number_calls (s : ByteArray) (hs : s.size ≤ 281474976710656) (w : World) (hg : GI w) : Calls Tryd.prog 137 #[.string s] w fun e w' => e = .returned (.tuple #[.int .i64 (numP s).1, .bool (numP s).2]) ∧ Below w.heap.size w w' := by
  have gi : ∀ w' : World, Below w.heap.size w w' → GI w' := fun w' hB => hg.keep fun b hb => hB.block b (hg.lt hb)
  unfold numP
  rcases h : Lib.atoiAll s.data.toList with v | _ | _
  · have hv := Lib.atoiAll_bounds h
    go_enter Tryd.func137, Tryd.ntmps137
    go_wp2_with (first
      | (go_at_call 167; refine (Tryd.strconv_Atoi_ok s (by omega) v h _).mono ?_; rintro e w1 ⟨rfl, hw⟩; have hB : Below w.heap.size w w1 := by
          rcases hw with rfl | ⟨t, rfl⟩
          · exact Below.refl _ _
          · exact Lib.bytesWorld_below _ _ _
         clear hw; have hG := (gi _ hB).pow)
      | (go_at_call 97; refine (Tryd.strconv_Itoa v hv.1 hv.2 _ (by assumption)).mono ?_; rintro e w2 ⟨rfl, k, os, rfl⟩))
    go_ret2
    refine ⟨?_, hB.trans ⟨rfl, rfl, rfl, by simp [Go.Sort.grow, World.drewN], fun b hb => ?_⟩⟩
    · have e1 : (Lib.itoa v == s.toList) = decide ((⟨(Lib.itoa v).toArray⟩ : ByteArray) = s) := by
        have h2 := ByteArray.beq_toList (⟨(Lib.itoa v).toArray⟩ : ByteArray) s
        rwa [ByteArray.toList_eq (⟨(Lib.itoa v).toArray⟩ : ByteArray)] at h2
      show _ = Ending.returned (Value.tuple #[Value.int IntKind.i64 v, Value.bool (decide ((⟨(Lib.itoa v).toArray⟩ : ByteArray) = s))])
      rw [← e1]
      rfl
    simp only [Go.Sort.grow, World.drewN]
    rw [Array.getElem?_append_left (Nat.lt_of_lt_of_le hb hB.size)]
  · obtain ⟨tp, p, hvar⟩ := hg.syn
    go_enter Tryd.func137, Tryd.ntmps137
    go_wp2_with (go_at_call 167; refine (Tryd.strconv_Atoi_syntax_var s hs h tp p _ hvar).mono ?_; rintro e w' ⟨N, rfl, _, _, hB⟩)
    go_ret2
    exact ⟨rfl, hB⟩
  · obtain ⟨tp, p, hvar⟩ := hg.rng
    go_enter Tryd.func137, Tryd.ntmps137
    go_wp2_with (go_at_call 167; refine (Tryd.strconv_Atoi_range_var s hs h tp p _ hvar).mono ?_; rintro e w' ⟨N, rfl, _, _, hB⟩)
    go_ret2
    exact ⟨rfl, hB⟩
theorem sp_Number (s : ByteArray) (hs : s.size ≤ 281474976710656) : PSpec Tryd.prog 137 [.d (.str s)] (fun _ => .tuple [.d (.int (numP s).1), .d (.bool (numP s).2)]) none := by
  refine ⟨⟨_, Tryd.func137, rfl, rfl⟩, fun d => rfl, fun _ d => rfl, by simp, fun d w ok vals hgi hok hl hv => ?_⟩
  match vals, hl with
  | ⟨[v]⟩, _ =>
  obtain ⟨rfl, _⟩ := (hv 0 _ v rfl rfl).d_inv.str_inv
  refine (number_calls s hs w hgi).mono ?_
  rintro e w' ⟨rfl, hB⟩
  obtain ⟨h1, h2⟩ := numP_in s
  exact ⟨_, ok, noG, rfl, hB, fun b h => h, fun b h => .inl h, .tuple _ _ rfl (fun i c v hc hv => by
    rcases i with _ | _ | i <;> simp at hc hv <;> subst hc hv
    · exact .d _ _ (.int _ h1 h2)
    · exact .d _ _ (.bool _)), by simp⟩
end Go.Proofs.YtapiiklnnkkdlaaDoor
