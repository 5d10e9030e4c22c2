/- The program's evaluator put together; eval.Run. Printed by a small program. -/
import Derived.Test.YtialccgjbanmcaaEvalD
namespace Go.Proofs.Ytialccgjbanmcaa
open Go.RowKit
attribute [local simp] runD mkRc dstOk guardOk opEff opEff0 effOp pureOp callOp zEff evA constAV frGet memGet startAS frOf isGoCall idIn AS.after nextR opnIds objIds AV.ids idsL AObj.ids frNo memNo opnAny isAny mkVal rdCells wrCells fldAddr idxAddr srcRows litRows toD1 toDs setAt sliceAV optI partAV bldAV fillAV binAV binI AV.cells callEff calleeOf frKill memKill AV.kill AObj.kill AV.has AV.hasL Op.operands Call.operands keepF keepM viewIds cChk renOf moGet moWs moQ cEff moLike moHave AV.ren renL AObj.ren AObj.like kept startC moMem AV.frz frz1 frzL frSub memSub frzs AS.frz frFrz memFrz AObj.frz takeMap takeLen bleF Nat.ble_eq memAny objAny mapOp D.keyOk rowAV valRow extOp wrapOp phO frLow memLow memLow1 objLow memEmpty Low LowL
set_option linter.unusedVariables false
set_option linter.unusedSimpArgs false

theorem eval_all {l : List Fn} (hl : l.length ≤ 879609302220) (hok : ∀ x ∈ l, x.body.Ok) (hr : ∀ x ∈ l, x.Right (arOf l)) : ∀ n, n ≤ 40 → CallE l n ∧ ∀ N, TermE l n N := by
  intro n
  induction n with
  | zero =>
    intro h
    have hC : CallE l 0 := ev_call_step l 0 hl hok hr h fun k hk => by omega
    refine ⟨hC, fun N => ?_⟩
    induction N with
    | zero => intro t env names deep fuel hN; omega
    | succ N ih => exact ev_term_step l 0 N (evCall_fine true hr 0) ih (ev_all_step l 0 N (evCall_fine true hr 0) ih) (ev_match_step l 0 N ih) hC
  | succ n ihn =>
    intro h
    have hC : CallE l (n + 1) := ev_call_step l (n + 1) hl hok hr h fun k hk => by
      obtain rfl : k = n := by omega
      exact (ihn (by omega)).2
    refine ⟨hC, fun N => ?_⟩
    induction N with
    | zero => intro t env names deep fuel hN; omega
    | succ N ih => exact ev_term_step l (n + 1) N (evCall_fine true hr (n + 1)) ih (ev_all_step l (n + 1) N (evCall_fine true hr (n + 1)) ih) (ev_match_step l (n + 1) N ih) hC

def intR (n : Int) : List D := [.int n]
abbrev intsAV (l : List Int) : AV := .d (.sl (l.map intR))
def argV (n : Int) : Vl := .mk false (wr32 n) []
theorem argV_fine (n : Int) : (argV n).Fine := ⟨wr32_in n, Nat.zero_le _, trivial⟩
/-- What comes of a program's function, of numbers. -/
noncomputable def runE (g : Bool) (l : List Fn) (name : ByteArray) (args : List Int) (fuel : Int) : Vl × Int :=
  if fuel < 0 ∨ 300 < fuel then (zeroV, 3) else if (evCall g l 40 name (args.map argV) fuel).2.2 ≠ 0 then (zeroV, (evCall g l 40 name (args.map argV) fuel).2.2)
  else if 0 ≤ (evCall g l 40 name (args.map argV) fuel).1.left 1000 then ((evCall g l 40 name (args.map argV) fuel).1, 0) else (zeroV, 4)

set_option maxRecDepth 20000 in
set_option maxHeartbeats 16000000 in
theorem sp_evRun (l : List Fn) (name : ByteArray) (args : List Int) (fuel : Int) (hl : l.length ≤ 879609302220) (hok : ∀ x ∈ l, x.body.Ok) (hr : ∀ x ∈ l, x.Right (arOf l)) (ha : args.length ≤ 1048576) : PSpec Try.prog 15 [fnsAV l, .d (.str name), intsAV args, .d (.int fuel)] (fun _ => .tuple [vlP (runE true l name args fuel).1, .d (.int (runE true l name args fuel).2)]) none := by
  obtain ⟨R, hR⟩ : ∃ R, R = runE true l name args fuel := ⟨_, rfl⟩
  rw [← hR]
  unfold runE at hR
  obtain ⟨vs, hvs⟩ : ∃ vs, vs = args.map argV := ⟨_, rfl⟩
  refine PSpec.of Try.func15 rfl rfl rfl (Nat.le_of_ble_eq_true rfl) ?_
  show AWp _ _ (endQ _ Try.f15 _ _ _) (startAS 69 _)
  repeat (first | refine AWp.seq ?_ | refine AWp.block ?_)
  apply AWp.reg [] []
  · conv => lhs; simp [Vl.row, Vl.rows_eq]
  · (repeat' apply And.intro) <;> first | omega | assumption | trivial | (simp [inI, maxLen]; done) | (simp [inI, maxLen]; omega)
  by_cases q1 : fuel < 0
  · repeat (first | refine AWp.seq ?_ | refine AWp.block ?_)
    apply AWp.reg [] []
    · conv => lhs; simp [Vl.row, Vl.rows_eq, q1]
    · (repeat' apply And.intro) <;> first | omega | assumption | trivial | (simp [inI, maxLen]; done) | (simp [inI, maxLen]; omega)
    repeat (first | refine AWp.seq ?_ | refine AWp.block ?_)
    refine AWp.cond rfl (fun hc => ?_) (fun hc => ?_)
    rotate_left
    · cases hc
    rw [if_pos (by omega)] at hR
    subst hR
    repeat (first | refine AWp.seq ?_ | refine AWp.block ?_)
    apply AWp.reg [] []
    · conv => lhs; simp [Vl.row, Vl.rows_eq, q1]
    · (repeat' apply And.intro) <;> first | omega | assumption | trivial | (simp [inI, maxLen]; done) | (simp [inI, maxLen]; omega)
    refine AWp.ret ?_
    try dsimp only [thenQ, blockQ]
    apply endQ.ret
    · rfl
    · conv => lhs; simp [resAV, Try.results15]
    · rfl
  by_cases q2 : 300 < fuel
  · repeat (first | refine AWp.seq ?_ | refine AWp.block ?_)
    apply AWp.reg [] []
    · conv => lhs; simp [Vl.row, Vl.rows_eq, q1, q2]
    · (repeat' apply And.intro) <;> first | omega | assumption | trivial | (simp [inI, maxLen]; done) | (simp [inI, maxLen]; omega)
    repeat (first | refine AWp.seq ?_ | refine AWp.block ?_)
    refine AWp.cond rfl (fun hc => ?_) (fun hc => ?_)
    rotate_left
    · cases hc
    rw [if_pos (by omega)] at hR
    subst hR
    repeat (first | refine AWp.seq ?_ | refine AWp.block ?_)
    apply AWp.reg [] []
    · conv => lhs; simp [Vl.row, Vl.rows_eq, q1, q2]
    · (repeat' apply And.intro) <;> first | omega | assumption | trivial | (simp [inI, maxLen]; done) | (simp [inI, maxLen]; omega)
    refine AWp.ret ?_
    try dsimp only [thenQ, blockQ]
    apply endQ.ret
    · rfl
    · conv => lhs; simp [resAV, Try.results15]
    · rfl
  repeat (first | refine AWp.seq ?_ | refine AWp.block ?_)
  apply AWp.reg [] []
  · conv => lhs; simp [Vl.row, Vl.rows_eq, q1, q2]
  · (repeat' apply And.intro) <;> first | omega | assumption | trivial | (simp [inI, maxLen]; done) | (simp [inI, maxLen]; omega)
  repeat (first | refine AWp.seq ?_ | refine AWp.block ?_)
  refine AWp.cond rfl (fun hc => ?_) (fun hc => ?_)
  · cases hc
  refine AWp.skip ?_
  have hfu : ¬ (fuel < 0 ∨ 300 < fuel) := by omega
  rw [if_neg hfu] at hR
  repeat (first | refine AWp.seq ?_ | refine AWp.block ?_)
  apply AWp.reg [] []
  · conv => lhs; simp [Vl.row, Vl.rows_eq, q1, q2]
  · (repeat' apply And.intro) <;> first | omega | assumption | trivial | (simp [inI, maxLen]; done) | (simp [inI, maxLen]; omega)
  repeat (first | refine AWp.seq ?_ | refine AWp.block ?_)
  apply AWp.reg [] []
  · conv => lhs; simp [Vl.row, Vl.rows_eq, q1, q2]
  · (repeat' apply And.intro) <;> first | omega | assumption | trivial | (simp [inI, maxLen]; done) | (simp [inI, maxLen]; omega)
  repeat (first | refine AWp.seq ?_ | refine AWp.block ?_)
  apply AWp.reg [] []
  · conv => lhs; simp [Vl.row, Vl.rows_eq, q1, q2]
  · (repeat' apply And.intro) <;> first | omega | assumption | trivial | (simp [inI, maxLen]; done) | (simp [inI, maxLen]; omega)
  repeat (first | refine AWp.seq ?_ | refine AWp.block ?_)
  refine AWp.le (Le.low [400] [] (fr := [(1, .d (.str name)), (8, .ptr 8 0), (10, .ptr 25 0), (11, .arr 400 0 0), (26, .d (.sl (args.map intR))), (27, .d (.int (args.length : Int))), (28, .d (.int 0))]) (mem := [(8, some (.blk 26 [.d (.bool false), .d (.int 0), .lit (.slice none 0 0)])), (25, some (.blk 68 [.d (.sl (l.map Fn.row)), .d (.int fuel), .d (.int 0), .d (.int 0)])), (400, some (.arr 26 3 ((vs.map Vl.row).take 0)))]) rfl (by simp [intR]) (by simp [intR])) ?_
  refine AWp.loop (σ := fun u : {u : Nat // u ≤ args.length} => ⟨69, [(1, .d (.str name)), (8, .ptr 8 0), (10, .ptr 25 0), (11, .arr 400 0 u.1), (26, .d (.sl (args.map intR))), (27, .d (.int (args.length : Int))), (28, .d (.int u.1))], [(8, some (.blk 26 [.d (.bool false), .d (.int 0), .lit (.slice none 0 0)])), (25, some (.blk 68 [.d (.sl (l.map Fn.row)), .d (.int fuel), .d (.int 0), .d (.int 0)])), (400, some (.arr 26 3 ((vs.map Vl.row).take u.1)))]⟩)
    (μ := fun u => args.length - u.1) ⟨0, Nat.zero_le _⟩ (Le.sub (by simp [intR]) (by simp [intR])) (fun ⟨i, hi6⟩ => ?_)
  dsimp only
  repeat (first | refine AWp.seq ?_ | refine AWp.block ?_)
  apply AWp.reg [] []
  · conv => lhs; simp [Vl.row, Vl.rows_eq, q1, q2]
  · (repeat' apply And.intro) <;> first | omega | assumption | trivial | (simp [inI, maxLen]; done) | (simp [inI, maxLen]; omega)
  repeat (first | refine AWp.seq ?_ | refine AWp.block ?_)
  refine AWp.cond rfl (fun hc => ?_) (fun hc => ?_)
  · have hi1 : i < args.length := by have := of_decide_eq_true hc; omega
    clear hc
    have h1x : args[i]? = some args[i] := List.getElem?_eq_getElem hi1
    have hmx : args[i] ∈ args := List.getElem_mem hi1
    have hdx : args.drop i = args[i] :: args.drop (i + 1) := List.drop_eq_getElem_cons hi1
    generalize args[i] = x at h1x hmx hdx
    have hvi : vs[i]? = some (argV x) := by rw [hvs, List.getElem?_map, h1x]; rfl
    have hti : (vs.map Vl.row).take (i + 1) = (vs.map Vl.row).take i ++ [(argV x).row] := by rw [List.take_add_one, List.getElem?_map, hvi]; rfl
    have hw32 := inI_wr32 x
    have hvl : vs.length = args.length := by rw [hvs, List.length_map]
    have hmn : min i vs.length = i := Nat.min_eq_left (by omega)
    refine AWp.skip ?_
    repeat (first | refine AWp.seq ?_ | refine AWp.block ?_)
    apply AWp.reg [] []
    · conv => lhs; simp [Vl.row, Vl.rows_eq, h1x, intR, q1, q2]
    · (repeat' apply And.intro) <;> first | omega | assumption | trivial | (simp [inI, maxLen]; done) | (simp [inI, maxLen]; omega)
    repeat (first | refine AWp.seq ?_ | refine AWp.block ?_)
    apply AWp.reg [] []
    · conv => lhs; simp [Vl.row, Vl.rows_eq, h1x, intR, q1, q2]
    · (repeat' apply And.intro) <;> first | omega | assumption | trivial | (simp [inI, maxLen]; done) | (simp [inI, maxLen]; omega)
    repeat (first | refine AWp.seq ?_ | refine AWp.block ?_)
    apply AWp.reg [] []
    · conv => lhs; simp [Vl.row, Vl.rows_eq, h1x, intR, q1, q2]
    · (repeat' apply And.intro) <;> first | omega | assumption | trivial | (simp [inI, maxLen]; done) | (simp [inI, maxLen]; omega)
    refine ⟨⟨i + 1, hi1⟩, by simp; omega, ?_⟩
    dsimp only
    rw [hti]
    exact Le.sub (by simp [argV, Vl.row, Vl.rows_eq, hmn]) (by simp [argV, Vl.row, Vl.rows_eq, hmn])
  have hi1 : i = args.length := by have := of_decide_eq_false hc; omega
  subst hi1
  clear hc
  rw [show args.length = vs.length by rw [hvs, List.length_map], takeMap]
  refine AWp.exit ?_
  apply AWp.frzs [400]
  · conv => lhs; simp
  have hx := (eval_all hl hok hr 40 (Nat.le_refl _)).1 name vs fuel (fun v hv => by rw [hvs] at hv; obtain ⟨n, _, rfl⟩ := List.mem_map.1 hv; exact argV_fine n) (by rw [hvs, List.length_map]; exact ha) (by omega) (by omega)
  have hfn := evCall_fine true hr 40 name vs fuel (fun v hv => by rw [hvs] at hv; obtain ⟨n, _, rfl⟩ := List.mem_map.1 hv; exact argV_fine n) (by omega) (by omega)
  rw [show (40 : Int) - ((40 : Nat) : Int) = 0 by omega] at hx
  obtain ⟨c2, hc2⟩ : ∃ c2 : Int, c2 = 0 := ⟨_, rfl⟩
  rw [← hvs] at hR
  generalize evCall true l 40 name vs fuel = o at hx hR hfn
  obtain ⟨v, f2, e⟩ := o
  dsimp only at hx hR hfn
  have hvo := hfn.1.ok
  have hfw := sp_Few v hvo
  have how := sp_evOwn v hvo
  obtain ⟨B, hB⟩ : ∃ B, B = decide (0 ≤ v.left 1000) := ⟨_, rfl⟩
  rw [← hB] at hfw
  have hBt : B = true → R = (if e ≠ 0 then (zeroV, e) else (v, 0)) := fun h => by rw [h] at hB; rw [hR, if_pos (of_decide_eq_true hB.symm)]
  have hBf : B = false → R = (if e ≠ 0 then (zeroV, e) else (zeroV, 4)) := fun h => by rw [h] at hB; rw [hR, if_neg (of_decide_eq_false hB.symm)]
  clear hB hR
  obtain ⟨vc, vn, vks⟩ := v
  repeat (first | refine AWp.seq ?_ | refine AWp.block ?_)
  apply AWp.reg [] [.c [(1000, 25)] [.ptr 1000 0, .d (.str name), .d (.sl (vs.map Vl.row))] [(1000, .blk 68 [.d (.sl (l.map Fn.row)), .d (.int fuel), .d (.int 0), .d (.int 0)])] (.agg [.d (.bool vc), .d (.int vn), .d (.sl (vks.map Vl.row))]) [(1000, .blk 68 [.d (.sl (l.map Fn.row)), .d (.int f2), .d (.int 0), .d (.int e)])]]
  · conv => lhs; simp [Vl.row, Vl.rows_eq, q1, q2]
  · (repeat' apply And.intro) <;> first | omega | assumption | trivial | (simp [inI, maxLen]; done) | (simp [inI, maxLen]; omega)
  by_cases q3 : e = 0
  · cases B with
    | true =>
      repeat (first | refine AWp.seq ?_ | refine AWp.block ?_)
      apply AWp.reg [] [.p (fun _ => .d (.bool true)) none]
      · conv => lhs; simp [Vl.row, Vl.rows_eq, q1, q2, q3]
      · (repeat' apply And.intro) <;> first | omega | assumption | trivial | (simp [inI, maxLen]; done) | (simp [inI, maxLen]; omega)
      repeat (first | refine AWp.seq ?_ | refine AWp.block ?_)
      refine AWp.cond rfl (fun hc => ?_) (fun hc => ?_)
      · cases hc
      refine AWp.skip ?_
      repeat (first | refine AWp.seq ?_ | refine AWp.block ?_)
      apply AWp.reg [] []
      · conv => lhs; simp [Vl.row, Vl.rows_eq, q1, q2, q3]
      · (repeat' apply And.intro) <;> first | omega | assumption | trivial | (simp [inI, maxLen]; done) | (simp [inI, maxLen]; omega)
      repeat (first | refine AWp.seq ?_ | refine AWp.block ?_)
      refine AWp.cond rfl (fun hc => ?_) (fun hc => ?_)
      · cases hc
      refine AWp.skip ?_
      subst q3
      obtain rfl := hBt rfl
      rw [if_neg (fun e => e rfl)]
      repeat (first | refine AWp.seq ?_ | refine AWp.block ?_)
      apply AWp.reg [] [.p (fun _ => .agg [.d (.bool vc), .d (.int vn), .d (.sl (vks.map Vl.row))]) none]
      · conv => lhs; simp [Vl.row, Vl.rows_eq, q1, q2]
      · (repeat' apply And.intro) <;> first | omega | assumption | trivial | (simp [inI, maxLen]; done) | (simp [inI, maxLen]; omega)
      refine AWp.ret ?_
      try dsimp only [thenQ, blockQ]
      apply endQ.ret
      · rfl
      · conv => lhs; simp [resAV, Try.results15]
      · rfl
    | false =>
      repeat (first | refine AWp.seq ?_ | refine AWp.block ?_)
      apply AWp.reg [] [.p (fun _ => .d (.bool false)) none]
      · conv => lhs; simp [Vl.row, Vl.rows_eq, q1, q2, q3]
      · (repeat' apply And.intro) <;> first | omega | assumption | trivial | (simp [inI, maxLen]; done) | (simp [inI, maxLen]; omega)
      repeat (first | refine AWp.seq ?_ | refine AWp.block ?_)
      refine AWp.cond rfl (fun hc => ?_) (fun hc => ?_)
      rotate_left
      · cases hc
      repeat (first | refine AWp.seq ?_ | refine AWp.block ?_)
      apply AWp.reg [] []
      · conv => lhs; simp [Vl.row, Vl.rows_eq, q1, q2, q3]
      · (repeat' apply And.intro) <;> first | omega | assumption | trivial | (simp [inI, maxLen]; done) | (simp [inI, maxLen]; omega)
      repeat (first | refine AWp.seq ?_ | refine AWp.block ?_)
      apply AWp.reg [] []
      · conv => lhs; simp [Vl.row, Vl.rows_eq, q1, q2, q3]
      · (repeat' apply And.intro) <;> first | omega | assumption | trivial | (simp [inI, maxLen]; done) | (simp [inI, maxLen]; omega)
      repeat (first | refine AWp.seq ?_ | refine AWp.block ?_)
      refine AWp.cond rfl (fun hc => ?_) (fun hc => ?_)
      rotate_left
      · cases hc
      subst q3
      obtain rfl := hBf rfl
      rw [if_neg (fun e => e rfl)]
      repeat (first | refine AWp.seq ?_ | refine AWp.block ?_)
      apply AWp.draw [] [] mixed
      · conv => lhs; simp [Vl.row, Vl.rows_eq, q1, q2]
      · kernel_rfl
      · (repeat' apply And.intro) <;> first | omega | assumption | trivial | (simp [inI, maxLen]; done) | (simp [inI, maxLen]; omega)
      refine AWp.ret ?_
      try dsimp only [thenQ, blockQ]
      apply endQ.ret
      · rfl
      · conv => lhs; simp [resAV, Try.results15]
      · rfl
  repeat (first | refine AWp.seq ?_ | refine AWp.block ?_)
  apply AWp.reg [] []
  · conv => lhs; simp [Vl.row, Vl.rows_eq, q1, q2, q3]
  · (repeat' apply And.intro) <;> first | omega | assumption | trivial | (simp [inI, maxLen]; done) | (simp [inI, maxLen]; omega)
  repeat (first | refine AWp.seq ?_ | refine AWp.block ?_)
  refine AWp.cond rfl (fun hc => ?_) (fun hc => ?_)
  · cases hc
  refine AWp.skip ?_
  repeat (first | refine AWp.seq ?_ | refine AWp.block ?_)
  apply AWp.reg [] []
  · conv => lhs; simp [Vl.row, Vl.rows_eq, q1, q2, q3]
  · (repeat' apply And.intro) <;> first | omega | assumption | trivial | (simp [inI, maxLen]; done) | (simp [inI, maxLen]; omega)
  repeat (first | refine AWp.seq ?_ | refine AWp.block ?_)
  refine AWp.cond rfl (fun hc => ?_) (fun hc => ?_)
  rotate_left
  · cases hc
  obtain rfl : R = (zeroV, e) := by
    cases B with
    | true => rw [hBt rfl, if_pos q3]
    | false => rw [hBf rfl, if_pos q3]
  repeat (first | refine AWp.seq ?_ | refine AWp.block ?_)
  apply AWp.draw [] [] mixed
  · conv => lhs; simp [Vl.row, Vl.rows_eq, q1, q2, q3]
  · kernel_rfl
  · (repeat' apply And.intro) <;> first | omega | assumption | trivial | (simp [inI, maxLen]; done) | (simp [inI, maxLen]; omega)
  refine AWp.ret ?_
  try dsimp only [thenQ, blockQ]
  apply endQ.ret
  · rfl
  · conv => lhs; simp [resAV, Try.results15]
  · rfl

end Go.Proofs.Ytialccgjbanmcaa
