/- xcref1.Run; EvalTells. Printed by a small program. -/
import Derived.Test.YtialccgjbanmcaaEvalG
import Derived.Test.YtialccgjbanmcaaEvalP
import Derived.Test.YtialccgjbanmcaaCheckD
namespace Go.Proofs.Ytialccgjbanmcaa
open Go.RowKit
attribute [local simp] runD mkRc dstOk guardOk opEff opEff0 effOp pureOp callOp zEff evA constAV frGet memGet startAS frOf isGoCall idIn AS.after nextR opnIds objIds AV.ids idsL AObj.ids frNo memNo opnAny isAny mkVal rdCells wrCells fldAddr idxAddr srcRows litRows toD1 toDs setAt sliceAV optI partAV bldAV fillAV binAV binI AV.cells callEff calleeOf frKill memKill AV.kill AObj.kill AV.has AV.hasL Op.operands Call.operands keepF keepM viewIds cChk renOf moGet moWs moQ cEff moLike moHave AV.ren renL AObj.ren AObj.like kept startC moMem AV.frz frz1 frzL frSub memSub frzs AS.frz frFrz memFrz AObj.frz takeMap takeLen bleF Nat.ble_eq memAny objAny mapOp D.keyOk rowAV valRow extOp wrapOp phO frLow memLow memLow1 objLow memEmpty Low LowL
set_option linter.unusedVariables false
set_option linter.unusedSimpArgs false

theorem ref_all {l : List Fn} (hl : l.length ≤ 879609302220) (hok : ∀ x ∈ l, x.body.Ok) (hr : ∀ x ∈ l, x.Right (arOf l)) (hone : l.Pairwise fun x y => x.name ≠ y.name) : ∀ n, n ≤ 40 → CallR l n ∧ ∀ N, OfE l n N := by
  intro n
  induction n with
  | zero =>
    intro h
    have hC : CallR l 0 := callR_step l 0 hl hok hr hone h fun k hk => by omega
    refine ⟨hC, fun N => ?_⟩
    induction N with
    | zero => intro t env names deep fuel hN; omega
    | succ N ih => exact of_step l 0 N (evCall_fine false hr 0) ih hC
  | succ n ihn =>
    intro h
    have hC : CallR l (n + 1) := callR_step l (n + 1) hl hok hr hone h fun k hk => by
      obtain rfl : k = n := by omega
      exact (ihn (by omega)).2
    refine ⟨hC, fun N => ?_⟩
    induction N with
    | zero => intro t env names deep fuel hN; omega
    | succ N ih => exact of_step l (n + 1) N (evCall_fine false hr (n + 1)) ih hC

set_option maxRecDepth 20000 in
set_option maxHeartbeats 16000000 in
theorem sp_refRun (l : List Fn) (name : ByteArray) (args : List Int) (fuel : Int) (hl : l.length ≤ 879609302220) (hok : ∀ x ∈ l, x.body.Ok) (hr : ∀ x ∈ l, x.Right (arOf l)) (hone : l.Pairwise fun x y => x.name ≠ y.name) (ha : args.length ≤ 1048576) : PSpec Try.prog 16 [fnsAV l, .d (.str name), intsAV args, .d (.int fuel)] (fun _ => .tuple [vlP (runE true l name args fuel).1, .d (.int (runE true l name args fuel).2)]) none := by
  obtain ⟨R, hR⟩ : ∃ R, R = runE true l name args fuel := ⟨_, rfl⟩
  rw [← hR]
  rw [runE_g] at hR
  unfold runE at hR
  obtain ⟨vs, hvs⟩ : ∃ vs, vs = args.map argV := ⟨_, rfl⟩
  refine PSpec.of Try.func16 rfl rfl rfl (Nat.le_of_ble_eq_true rfl) ?_
  show AWp _ _ (endQ _ Try.f16 _ _ _) (startAS 68 _)
  repeat (first | refine AWp.seq ?_ | refine AWp.block ?_)
  apply AWp.reg [] []
  · conv => lhs; simp [Vl.row, Vl.rows_eq]
  · (repeat' apply And.intro) <;> first | omega | assumption | trivial | (simp [inI, maxLen]; done) | (simp [inI, maxLen]; omega)
  by_cases q1 : fuel < 0
  · repeat (first | refine AWp.seq ?_ | refine AWp.block ?_)
    apply AWp.reg [] []
    · conv => lhs; simp [Vl.row, Vl.rows_eq, q1]
    · (repeat' apply And.intro) <;> first | omega | assumption | trivial | (simp [inI, maxLen]; done) | (simp [inI, maxLen]; omega)
    repeat (first | refine AWp.seq ?_ | refine AWp.block ?_)
    refine AWp.cond rfl (fun hc => ?_) (fun hc => ?_)
    rotate_left
    · cases hc
    rw [if_pos (by omega)] at hR
    subst hR
    repeat (first | refine AWp.seq ?_ | refine AWp.block ?_)
    apply AWp.reg [] []
    · conv => lhs; simp [Vl.row, Vl.rows_eq, q1]
    · (repeat' apply And.intro) <;> first | omega | assumption | trivial | (simp [inI, maxLen]; done) | (simp [inI, maxLen]; omega)
    refine AWp.ret ?_
    try dsimp only [thenQ, blockQ]
    apply endQ.ret
    · rfl
    · conv => lhs; simp [resAV, Try.results16]
    · rfl
  by_cases q2 : 300 < fuel
  · repeat (first | refine AWp.seq ?_ | refine AWp.block ?_)
    apply AWp.reg [] []
    · conv => lhs; simp [Vl.row, Vl.rows_eq, q1, q2]
    · (repeat' apply And.intro) <;> first | omega | assumption | trivial | (simp [inI, maxLen]; done) | (simp [inI, maxLen]; omega)
    repeat (first | refine AWp.seq ?_ | refine AWp.block ?_)
    refine AWp.cond rfl (fun hc => ?_) (fun hc => ?_)
    rotate_left
    · cases hc
    rw [if_pos (by omega)] at hR
    subst hR
    repeat (first | refine AWp.seq ?_ | refine AWp.block ?_)
    apply AWp.reg [] []
    · conv => lhs; simp [Vl.row, Vl.rows_eq, q1, q2]
    · (repeat' apply And.intro) <;> first | omega | assumption | trivial | (simp [inI, maxLen]; done) | (simp [inI, maxLen]; omega)
    refine AWp.ret ?_
    try dsimp only [thenQ, blockQ]
    apply endQ.ret
    · rfl
    · conv => lhs; simp [resAV, Try.results16]
    · rfl
  repeat (first | refine AWp.seq ?_ | refine AWp.block ?_)
  apply AWp.reg [] []
  · conv => lhs; simp [Vl.row, Vl.rows_eq, q1, q2]
  · (repeat' apply And.intro) <;> first | omega | assumption | trivial | (simp [inI, maxLen]; done) | (simp [inI, maxLen]; omega)
  repeat (first | refine AWp.seq ?_ | refine AWp.block ?_)
  refine AWp.cond rfl (fun hc => ?_) (fun hc => ?_)
  · cases hc
  refine AWp.skip ?_
  have hfu : ¬ (fuel < 0 ∨ 300 < fuel) := by omega
  rw [if_neg hfu] at hR
  repeat (first | refine AWp.seq ?_ | refine AWp.block ?_)
  apply AWp.reg [] []
  · conv => lhs; simp [Vl.row, Vl.rows_eq, q1, q2]
  · (repeat' apply And.intro) <;> first | omega | assumption | trivial | (simp [inI, maxLen]; done) | (simp [inI, maxLen]; omega)
  repeat (first | refine AWp.seq ?_ | refine AWp.block ?_)
  apply AWp.reg [] []
  · conv => lhs; simp [Vl.row, Vl.rows_eq, q1, q2]
  · (repeat' apply And.intro) <;> first | omega | assumption | trivial | (simp [inI, maxLen]; done) | (simp [inI, maxLen]; omega)
  repeat (first | refine AWp.seq ?_ | refine AWp.block ?_)
  apply AWp.reg [] []
  · conv => lhs; simp [Vl.row, Vl.rows_eq, q1, q2]
  · (repeat' apply And.intro) <;> first | omega | assumption | trivial | (simp [inI, maxLen]; done) | (simp [inI, maxLen]; omega)
  repeat (first | refine AWp.seq ?_ | refine AWp.block ?_)
  refine AWp.le (Le.low [400] [] (fr := [(1, .d (.str name)), (8, .ptr 8 0), (10, .ptr 25 0), (11, .arr 400 0 0), (26, .d (.sl (args.map intR))), (27, .d (.int (args.length : Int))), (28, .d (.int 0))]) (mem := [(8, some (.blk 26 [.d (.bool false), .d (.int 0), .lit (.slice none 0 0)])), (25, some (.blk 72 [.d (.sl (l.map Fn.row)), .d (.int fuel), .d (.int 0), .d (.int 0)])), (400, some (.arr 26 3 ((vs.map Vl.row).take 0)))]) rfl (by simp [intR]) (by simp [intR])) ?_
  refine AWp.loop (σ := fun u : {u : Nat // u ≤ args.length} => ⟨68, [(1, .d (.str name)), (8, .ptr 8 0), (10, .ptr 25 0), (11, .arr 400 0 u.1), (26, .d (.sl (args.map intR))), (27, .d (.int (args.length : Int))), (28, .d (.int u.1))], [(8, some (.blk 26 [.d (.bool false), .d (.int 0), .lit (.slice none 0 0)])), (25, some (.blk 72 [.d (.sl (l.map Fn.row)), .d (.int fuel), .d (.int 0), .d (.int 0)])), (400, some (.arr 26 3 ((vs.map Vl.row).take u.1)))]⟩)
    (μ := fun u => args.length - u.1) ⟨0, Nat.zero_le _⟩ (Le.sub (by simp [intR]) (by simp [intR])) (fun ⟨i, hi6⟩ => ?_)
  dsimp only
  repeat (first | refine AWp.seq ?_ | refine AWp.block ?_)
  apply AWp.reg [] []
  · conv => lhs; simp [Vl.row, Vl.rows_eq, q1, q2]
  · (repeat' apply And.intro) <;> first | omega | assumption | trivial | (simp [inI, maxLen]; done) | (simp [inI, maxLen]; omega)
  repeat (first | refine AWp.seq ?_ | refine AWp.block ?_)
  refine AWp.cond rfl (fun hc => ?_) (fun hc => ?_)
  · have hi1 : i < args.length := by have := of_decide_eq_true hc; omega
    clear hc
    have h1x : args[i]? = some args[i] := List.getElem?_eq_getElem hi1
    have hmx : args[i] ∈ args := List.getElem_mem hi1
    have hdx : args.drop i = args[i] :: args.drop (i + 1) := List.drop_eq_getElem_cons hi1
    generalize args[i] = x at h1x hmx hdx
    have hvi : vs[i]? = some (argV x) := by rw [hvs, List.getElem?_map, h1x]; rfl
    have hti : (vs.map Vl.row).take (i + 1) = (vs.map Vl.row).take i ++ [(argV x).row] := by rw [List.take_add_one, List.getElem?_map, hvi]; rfl
    have hw32 := inI_wr32 x
    have hvl : vs.length = args.length := by rw [hvs, List.length_map]
    have hmn : min i vs.length = i := Nat.min_eq_left (by omega)
    refine AWp.skip ?_
    repeat (first | refine AWp.seq ?_ | refine AWp.block ?_)
    apply AWp.reg [] []
    · conv => lhs; simp [Vl.row, Vl.rows_eq, h1x, intR, q1, q2]
    · (repeat' apply And.intro) <;> first | omega | assumption | trivial | (simp [inI, maxLen]; done) | (simp [inI, maxLen]; omega)
    repeat (first | refine AWp.seq ?_ | refine AWp.block ?_)
    apply AWp.reg [] []
    · conv => lhs; simp [Vl.row, Vl.rows_eq, h1x, intR, q1, q2]
    · (repeat' apply And.intro) <;> first | omega | assumption | trivial | (simp [inI, maxLen]; done) | (simp [inI, maxLen]; omega)
    repeat (first | refine AWp.seq ?_ | refine AWp.block ?_)
    apply AWp.reg [] []
    · conv => lhs; simp [Vl.row, Vl.rows_eq, h1x, intR, q1, q2]
    · (repeat' apply And.intro) <;> first | omega | assumption | trivial | (simp [inI, maxLen]; done) | (simp [inI, maxLen]; omega)
    refine ⟨⟨i + 1, hi1⟩, by simp; omega, ?_⟩
    dsimp only
    rw [hti]
    exact Le.sub (by simp [argV, Vl.row, Vl.rows_eq, hmn]) (by simp [argV, Vl.row, Vl.rows_eq, hmn])
  have hi1 : i = args.length := by have := of_decide_eq_false hc; omega
  subst hi1
  clear hc
  rw [show args.length = vs.length by rw [hvs, List.length_map], takeMap]
  refine AWp.exit ?_
  apply AWp.frzs [400]
  · conv => lhs; simp
  have hx := (ref_all hl hok hr hone 40 (Nat.le_refl _)).1 name vs fuel (fun v hv => by rw [hvs] at hv; obtain ⟨n, _, rfl⟩ := List.mem_map.1 hv; exact argV_fine n) (by omega) (by omega)
  have hfn := evCall_fine false hr 40 name vs fuel (fun v hv => by rw [hvs] at hv; obtain ⟨n, _, rfl⟩ := List.mem_map.1 hv; exact argV_fine n) (by omega) (by omega)
  rw [show (40 : Int) - ((40 : Nat) : Int) = 0 by omega] at hx
  rw [← hvs] at hR
  generalize evCall false l 40 name vs fuel = o at hx hR hfn
  obtain ⟨v, f2, e⟩ := o
  dsimp only at hx hR hfn
  have hvo := hfn.1.ok
  have hfw := sp_Nodes_at _ v 1000 (Nat.lt_succ_self _) hvo (by omega) (by omega)
  obtain ⟨NL, hNL⟩ : ∃ NL : Int, NL = 1000 - v.left 1000 := ⟨_, rfl⟩
  rw [← hNL] at hfw
  have hBt : ¬ 1000 < NL → R = (if e ≠ 0 then (zeroV, e) else (v, 0)) := fun h => by rw [hR, if_pos (show 0 ≤ v.left 1000 by omega)]
  have hBf : 1000 < NL → R = (if e ≠ 0 then (zeroV, e) else (zeroV, 4)) := fun h => by rw [hR, if_neg (show ¬ 0 ≤ v.left 1000 by omega)]
  clear hR
  obtain ⟨vc, vn, vks⟩ := v
  repeat (first | refine AWp.seq ?_ | refine AWp.block ?_)
  apply AWp.reg [] [.c [(1000, 25)] [.ptr 1000 0, .d (.str name), .d (.sl (vs.map Vl.row))] [(1000, .blk 72 [.d (.sl (l.map Fn.row)), .d (.int fuel), .d (.int 0), .d (.int 0)])] (.agg [.d (.bool vc), .d (.int vn), .d (.sl (vks.map Vl.row))]) [(1000, .blk 72 [.d (.sl (l.map Fn.row)), .d (.int f2), .d (.int 0), .d (.int e)])]]
  · conv => lhs; simp [Vl.row, Vl.rows_eq, q1, q2]
  · (repeat' apply And.intro) <;> first | omega | assumption | trivial | (simp [inI, maxLen]; done) | (simp [inI, maxLen]; omega)
  by_cases q3 : e = 0
  · by_cases q4 : 1000 < NL
    · repeat (first | refine AWp.seq ?_ | refine AWp.block ?_)
      apply AWp.reg [] [.p (fun _ => .d (.int NL)) none]
      · conv => lhs; simp [Vl.row, Vl.rows_eq, q1, q2, q3, q4]
      · (repeat' apply And.intro) <;> first | omega | assumption | trivial | (simp [inI, maxLen]; done) | (simp [inI, maxLen]; omega)
      repeat (first | refine AWp.seq ?_ | refine AWp.block ?_)
      refine AWp.cond rfl (fun hc => ?_) (fun hc => ?_)
      rotate_left
      · cases hc
      repeat (first | refine AWp.seq ?_ | refine AWp.block ?_)
      apply AWp.reg [] []
      · conv => lhs; simp [Vl.row, Vl.rows_eq, q1, q2, q3, q4]
      · (repeat' apply And.intro) <;> first | omega | assumption | trivial | (simp [inI, maxLen]; done) | (simp [inI, maxLen]; omega)
      repeat (first | refine AWp.seq ?_ | refine AWp.block ?_)
      apply AWp.reg [] []
      · conv => lhs; simp [Vl.row, Vl.rows_eq, q1, q2, q3, q4]
      · (repeat' apply And.intro) <;> first | omega | assumption | trivial | (simp [inI, maxLen]; done) | (simp [inI, maxLen]; omega)
      repeat (first | refine AWp.seq ?_ | refine AWp.block ?_)
      refine AWp.cond rfl (fun hc => ?_) (fun hc => ?_)
      rotate_left
      · cases hc
      subst q3
      obtain rfl := hBf q4
      rw [if_neg (fun e => e rfl)]
      repeat (first | refine AWp.seq ?_ | refine AWp.block ?_)
      apply AWp.draw [] [] mixed
      · conv => lhs; simp [Vl.row, Vl.rows_eq, q1, q2, q4]
      · kernel_rfl
      · (repeat' apply And.intro) <;> first | omega | assumption | trivial | (simp [inI, maxLen]; done) | (simp [inI, maxLen]; omega)
      refine AWp.ret ?_
      try dsimp only [thenQ, blockQ]
      apply endQ.ret
      · rfl
      · conv => lhs; simp [resAV, Try.results16]
      · rfl
    repeat (first | refine AWp.seq ?_ | refine AWp.block ?_)
    apply AWp.reg [] [.p (fun _ => .d (.int NL)) none]
    · conv => lhs; simp [Vl.row, Vl.rows_eq, q1, q2, q3, q4]
    · (repeat' apply And.intro) <;> first | omega | assumption | trivial | (simp [inI, maxLen]; done) | (simp [inI, maxLen]; omega)
    repeat (first | refine AWp.seq ?_ | refine AWp.block ?_)
    refine AWp.cond rfl (fun hc => ?_) (fun hc => ?_)
    · cases hc
    refine AWp.skip ?_
    repeat (first | refine AWp.seq ?_ | refine AWp.block ?_)
    apply AWp.reg [] []
    · conv => lhs; simp [Vl.row, Vl.rows_eq, q1, q2, q3, q4]
    · (repeat' apply And.intro) <;> first | omega | assumption | trivial | (simp [inI, maxLen]; done) | (simp [inI, maxLen]; omega)
    repeat (first | refine AWp.seq ?_ | refine AWp.block ?_)
    refine AWp.cond rfl (fun hc => ?_) (fun hc => ?_)
    · cases hc
    refine AWp.skip ?_
    subst q3
    obtain rfl := hBt q4
    rw [if_neg (fun e => e rfl)]
    repeat (first | refine AWp.seq ?_ | refine AWp.block ?_)
    apply AWp.reg [] []
    · conv => lhs; simp [Vl.row, Vl.rows_eq, q1, q2, q4]
    · (repeat' apply And.intro) <;> first | omega | assumption | trivial | (simp [inI, maxLen]; done) | (simp [inI, maxLen]; omega)
    refine AWp.ret ?_
    try dsimp only [thenQ, blockQ]
    apply endQ.ret
    · rfl
    · conv => lhs; simp [resAV, Try.results16]
    · rfl
  repeat (first | refine AWp.seq ?_ | refine AWp.block ?_)
  apply AWp.reg [] []
  · conv => lhs; simp [Vl.row, Vl.rows_eq, q1, q2, q3]
  · (repeat' apply And.intro) <;> first | omega | assumption | trivial | (simp [inI, maxLen]; done) | (simp [inI, maxLen]; omega)
  repeat (first | refine AWp.seq ?_ | refine AWp.block ?_)
  refine AWp.cond rfl (fun hc => ?_) (fun hc => ?_)
  · cases hc
  refine AWp.skip ?_
  repeat (first | refine AWp.seq ?_ | refine AWp.block ?_)
  apply AWp.reg [] []
  · conv => lhs; simp [Vl.row, Vl.rows_eq, q1, q2, q3]
  · (repeat' apply And.intro) <;> first | omega | assumption | trivial | (simp [inI, maxLen]; done) | (simp [inI, maxLen]; omega)
  repeat (first | refine AWp.seq ?_ | refine AWp.block ?_)
  refine AWp.cond rfl (fun hc => ?_) (fun hc => ?_)
  rotate_left
  · cases hc
  obtain rfl : R = (zeroV, e) := by
    by_cases hh : 1000 < NL
    · rw [hBf hh, if_pos q3]
    · rw [hBt hh, if_pos q3]
  repeat (first | refine AWp.seq ?_ | refine AWp.block ?_)
  apply AWp.draw [] [] mixed
  · conv => lhs; simp [Vl.row, Vl.rows_eq, q1, q2, q3]
  · kernel_rfl
  · (repeat' apply And.intro) <;> first | omega | assumption | trivial | (simp [inI, maxLen]; done) | (simp [inI, maxLen]; omega)
  refine AWp.ret ?_
  try dsimp only [thenQ, blockQ]
  apply endQ.ret
  · rfl
  · conv => lhs; simp [resAV, Try.results16]
  · rfl

set_option maxRecDepth 20000 in
set_option maxHeartbeats 16000000 in
theorem sp_EvalTells (l : List Fn) (name : ByteArray) (args : List Int) (fuel : Int) (a b : Vl) (p x y : Int) (hl : FnsOk l) (ha : args.length ≤ 1048576) (hao : a.Ok) : PSpec Try.prog 3 [fnsAV l, .d (.str name), intsAV args, .d (.int fuel), vlAV a, vlAV b, .d (.int p), .d (.int x), .d (.int y)] (fun _ => .d (.bool true)) none := by
  have hwx := inI_wr32 x
  have hwy := inI_wr32 y
  have how := sp_evOwn a hao
  have hs1 := sp_refSameValue a a hao
  rw [eqB_self] at hs1
  have hs2 := sp_evSame a b hao
  have hs3 := sp_refSameValue a b hao
  generalize eqB a b = X at hs2 hs3
  have hfew := sp_Few a hao
  have hnod := sp_Nodes_at _ a 1000 (Nat.lt_succ_self _) hao (by omega) (by omega)
  obtain ⟨NB, hNB⟩ : ∃ NB : Int, NB = a.left 1000 := ⟨_, rfl⟩
  rw [← hNB] at hfew hnod
  obtain ⟨NL, hNL⟩ : ∃ NL : Int, NL = 1000 - NB := ⟨_, rfl⟩
  rw [← hNL] at hnod
  have hp1 := sp_evPrim p x y
  have hp2 := sp_refPrim p x y
  have hprok := (primV_fine p x y).ok
  generalize primV p x y = o at hp1 hp2 hprok
  obtain ⟨r, W⟩ := o
  dsimp only at hp1 hp2 hprok
  have hs4 := sp_refSameValue r r hprok
  rw [eqB_self] at hs4
  have hck := sp_refCheck l hl
  obtain ⟨E, hE0⟩ : ∃ E, E = checkE l := ⟨_, rfl⟩
  rw [← hE0] at hck
  clear hprok hao
  obtain ⟨ac, an, aks⟩ := a
  obtain ⟨bc, bn, bks⟩ := b
  obtain ⟨rc, rn, rks⟩ := r
  refine PSpec.of Try.func3 rfl rfl rfl (Nat.le_of_ble_eq_true rfl) ?_
  show AWp _ _ (endQ _ Try.f3 _ _ _) (startAS 111 _)
  repeat (first | refine AWp.seq ?_ | refine AWp.block ?_)
  apply AWp.reg [] []
  · conv => lhs; simp [Vl.row, Vl.rows_eq]
  · (repeat' apply And.intro) <;> first | omega | assumption | trivial | (simp [inI, maxLen]; done) | (simp [inI, maxLen]; omega)
  by_cases hnl : NL ≤ 1000
  · rw [show decide (0 ≤ NB) = true from decide_eq_true (by omega)] at hfew
    repeat (first | refine AWp.seq ?_ | refine AWp.block ?_)
    apply AWp.draw [] [.p (fun _ => .agg [.d (.bool ac), .d (.int an), .d (.sl (aks.map Vl.row))]) none, .p (fun _ => .d (.bool true)) none, .p (fun _ => .d (.bool X)) none, .p (fun _ => .d (.bool X)) none, .p (fun _ => .d (.bool true)) none, .p (fun _ => .d (.int NL)) none] mixed
    · conv => lhs; simp [Vl.row, Vl.rows_eq, Try.underlying4, hnl]
    · kernel_rfl
    · (repeat' apply And.intro) <;> first | omega | assumption | trivial | (simp [inI, maxLen]; done) | (simp [inI, maxLen]; omega)
    repeat (first | refine AWp.seq ?_ | refine AWp.block ?_)
    refine AWp.cond rfl (fun hc => ?_) (fun hc => ?_)
    · cases hc
    refine AWp.skip ?_
    by_cases q1 : x = (wr32 x)
    · have q1t := eq_true q1
      by_cases q2 : y = (wr32 y)
      · have q2t := eq_true q2
        repeat (first | refine AWp.seq ?_ | refine AWp.block ?_)
        apply AWp.reg [] []
        · conv => lhs; simp [Vl.row, Vl.rows_eq, Try.underlying4, hnl, q1t, q2t]
        · (repeat' apply And.intro) <;> first | omega | assumption | trivial | (simp [inI, maxLen]; done) | (simp [inI, maxLen]; omega)
        repeat (first | refine AWp.seq ?_ | refine AWp.block ?_)
        refine AWp.cond rfl (fun hc => ?_) (fun hc => ?_)
        rotate_left
        · cases hc
        repeat (first | refine AWp.seq ?_ | refine AWp.block ?_)
        apply AWp.reg [] [.p (fun _ => .tuple [.agg [.d (.bool rc), .d (.int rn), .d (.sl (rks.map Vl.row))], .d (.int W)]) none]
        · conv => lhs; simp [Vl.row, Vl.rows_eq, Try.underlying4, hnl, q1t, q2t]
        · (repeat' apply And.intro) <;> first | omega | assumption | trivial | (simp [inI, maxLen]; done) | (simp [inI, maxLen]; omega)
        repeat (first | refine AWp.seq ?_ | refine AWp.block ?_)
        apply AWp.reg [] [.p (fun _ => .tuple [.agg [.d (.bool rc), .d (.int rn), .d (.sl (rks.map Vl.row))], .d (.int W)]) none]
        · conv => lhs; simp [Vl.row, Vl.rows_eq, Try.underlying4, hnl, q1t, q2t]
        · (repeat' apply And.intro) <;> first | omega | assumption | trivial | (simp [inI, maxLen]; done) | (simp [inI, maxLen]; omega)
        repeat (first | refine AWp.seq ?_ | refine AWp.block ?_)
        apply AWp.reg [] [.p (fun _ => .d (.bool true)) none]
        · conv => lhs; simp [Vl.row, Vl.rows_eq, Try.underlying4, hnl, q1t, q2t]
        · (repeat' apply And.intro) <;> first | omega | assumption | trivial | (simp [inI, maxLen]; done) | (simp [inI, maxLen]; omega)
        repeat (first | refine AWp.seq ?_ | refine AWp.block ?_)
        refine AWp.cond rfl (fun hc => ?_) (fun hc => ?_)
        · cases hc
        refine AWp.skip ?_
        by_cases hE1 : E = 0
        · subst hE1
          repeat (first | refine AWp.seq ?_ | refine AWp.block ?_)
          apply AWp.reg [] [.p (fun _ => .d (.int 0)) none]
          · conv => lhs; simp [Vl.row, Vl.rows_eq, Try.underlying4, hnl, q1t, q2t]
          · (repeat' apply And.intro) <;> first | omega | assumption | trivial | (simp [inI, maxLen]; done) | (simp [inI, maxLen]; omega)
          repeat (first | refine AWp.seq ?_ | refine AWp.block ?_)
          refine AWp.cond rfl (fun hc => ?_) (fun hc => ?_)
          · cases hc
          refine AWp.skip ?_
          obtain ⟨_, _, hh, hright⟩ := check_zero hE0.symm
          have hone := heads_one l _ hh
          have hru := sp_evRun l name args fuel hl.len (fun x hx => (hl.all x hx).body) hright ha
          have hrr := sp_refRun l name args fuel hl.len (fun x hx => (hl.all x hx).body) hright hone ha
          have hufine : (runE true l name args fuel).1.Ok := by
            unfold runE
            split
            · exact zeroV_fine.ok
            rename_i hfu
            split
            · exact zeroV_fine.ok
            split
            · exact (evCall_fine true hright 40 name (args.map argV) fuel (fun v hv => by obtain ⟨n, _, rfl⟩ := List.mem_map.1 hv; exact argV_fine n) (by omega) (by omega)).1.ok
            · exact zeroV_fine.ok
          generalize runE true l name args fuel = o at hru hrr hufine
          obtain ⟨u, G⟩ := o
          dsimp only at hru hrr hufine
          have hsu := sp_refSameValue u u hufine
          rw [eqB_self] at hsu
          obtain ⟨uc, un, uks⟩ := u
          repeat (first | refine AWp.seq ?_ | refine AWp.block ?_)
          apply AWp.reg [] [.p (fun _ => .tuple [.agg [.d (.bool uc), .d (.int un), .d (.sl (uks.map Vl.row))], .d (.int G)]) none]
          · conv => lhs; simp [Vl.row, Vl.rows_eq, Try.underlying4, hnl, q1t, q2t]
          · (repeat' apply And.intro) <;> first | omega | assumption | trivial | (simp [inI, maxLen]; done) | (simp [inI, maxLen]; omega)
          repeat (first | refine AWp.seq ?_ | refine AWp.block ?_)
          apply AWp.reg [] [.p (fun _ => .tuple [.agg [.d (.bool uc), .d (.int un), .d (.sl (uks.map Vl.row))], .d (.int G)]) none]
          · conv => lhs; simp [Vl.row, Vl.rows_eq, Try.underlying4, hnl, q1t, q2t]
          · (repeat' apply And.intro) <;> first | omega | assumption | trivial | (simp [inI, maxLen]; done) | (simp [inI, maxLen]; omega)
          repeat (first | refine AWp.seq ?_ | refine AWp.block ?_)
          apply AWp.reg [] [.p (fun _ => .d (.bool true)) none]
          · conv => lhs; simp [Vl.row, Vl.rows_eq, Try.underlying4, hnl, q1t, q2t]
          · (repeat' apply And.intro) <;> first | omega | assumption | trivial | (simp [inI, maxLen]; done) | (simp [inI, maxLen]; omega)
          refine AWp.ret ?_
          try dsimp only [thenQ, blockQ]
          apply endQ.ret
          · rfl
          · conv => lhs; simp [resAV, Try.results3]
          · rfl
        repeat (first | refine AWp.seq ?_ | refine AWp.block ?_)
        apply AWp.reg [] [.p (fun _ => .d (.int E)) none]
        · conv => lhs; simp [Vl.row, Vl.rows_eq, Try.underlying4, hnl, q1t, q2t, hE1]
        · (repeat' apply And.intro) <;> first | omega | assumption | trivial | (simp [inI, maxLen]; done) | (simp [inI, maxLen]; omega)
        repeat (first | refine AWp.seq ?_ | refine AWp.block ?_)
        refine AWp.cond rfl (fun hc => ?_) (fun hc => ?_)
        rotate_left
        · cases hc
        repeat (first | refine AWp.seq ?_ | refine AWp.block ?_)
        apply AWp.reg [] []
        · conv => lhs; simp [Vl.row, Vl.rows_eq, Try.underlying4, hnl, q1t, q2t, hE1]
        · (repeat' apply And.intro) <;> first | omega | assumption | trivial | (simp [inI, maxLen]; done) | (simp [inI, maxLen]; omega)
        refine AWp.ret ?_
        try dsimp only [thenQ, blockQ]
        apply endQ.ret
        · rfl
        · conv => lhs; simp [resAV, Try.results3]
        · rfl
      repeat (first | refine AWp.seq ?_ | refine AWp.block ?_)
      apply AWp.reg [] []
      · conv => lhs; simp [Vl.row, Vl.rows_eq, Try.underlying4, hnl, q1t, q2]
      · (repeat' apply And.intro) <;> first | omega | assumption | trivial | (simp [inI, maxLen]; done) | (simp [inI, maxLen]; omega)
      repeat (first | refine AWp.seq ?_ | refine AWp.block ?_)
      refine AWp.cond rfl (fun hc => ?_) (fun hc => ?_)
      · cases hc
      refine AWp.skip ?_
      by_cases hE1 : E = 0
      · subst hE1
        repeat (first | refine AWp.seq ?_ | refine AWp.block ?_)
        apply AWp.reg [] [.p (fun _ => .d (.int 0)) none]
        · conv => lhs; simp [Vl.row, Vl.rows_eq, Try.underlying4, hnl, q1t, q2]
        · (repeat' apply And.intro) <;> first | omega | assumption | trivial | (simp [inI, maxLen]; done) | (simp [inI, maxLen]; omega)
        repeat (first | refine AWp.seq ?_ | refine AWp.block ?_)
        refine AWp.cond rfl (fun hc => ?_) (fun hc => ?_)
        · cases hc
        refine AWp.skip ?_
        obtain ⟨_, _, hh, hright⟩ := check_zero hE0.symm
        have hone := heads_one l _ hh
        have hru := sp_evRun l name args fuel hl.len (fun x hx => (hl.all x hx).body) hright ha
        have hrr := sp_refRun l name args fuel hl.len (fun x hx => (hl.all x hx).body) hright hone ha
        have hufine : (runE true l name args fuel).1.Ok := by
          unfold runE
          split
          · exact zeroV_fine.ok
          rename_i hfu
          split
          · exact zeroV_fine.ok
          split
          · exact (evCall_fine true hright 40 name (args.map argV) fuel (fun v hv => by obtain ⟨n, _, rfl⟩ := List.mem_map.1 hv; exact argV_fine n) (by omega) (by omega)).1.ok
          · exact zeroV_fine.ok
        generalize runE true l name args fuel = o at hru hrr hufine
        obtain ⟨u, G⟩ := o
        dsimp only at hru hrr hufine
        have hsu := sp_refSameValue u u hufine
        rw [eqB_self] at hsu
        obtain ⟨uc, un, uks⟩ := u
        repeat (first | refine AWp.seq ?_ | refine AWp.block ?_)
        apply AWp.reg [] [.p (fun _ => .tuple [.agg [.d (.bool uc), .d (.int un), .d (.sl (uks.map Vl.row))], .d (.int G)]) none]
        · conv => lhs; simp [Vl.row, Vl.rows_eq, Try.underlying4, hnl, q1t, q2]
        · (repeat' apply And.intro) <;> first | omega | assumption | trivial | (simp [inI, maxLen]; done) | (simp [inI, maxLen]; omega)
        repeat (first | refine AWp.seq ?_ | refine AWp.block ?_)
        apply AWp.reg [] [.p (fun _ => .tuple [.agg [.d (.bool uc), .d (.int un), .d (.sl (uks.map Vl.row))], .d (.int G)]) none]
        · conv => lhs; simp [Vl.row, Vl.rows_eq, Try.underlying4, hnl, q1t, q2]
        · (repeat' apply And.intro) <;> first | omega | assumption | trivial | (simp [inI, maxLen]; done) | (simp [inI, maxLen]; omega)
        repeat (first | refine AWp.seq ?_ | refine AWp.block ?_)
        apply AWp.reg [] [.p (fun _ => .d (.bool true)) none]
        · conv => lhs; simp [Vl.row, Vl.rows_eq, Try.underlying4, hnl, q1t, q2]
        · (repeat' apply And.intro) <;> first | omega | assumption | trivial | (simp [inI, maxLen]; done) | (simp [inI, maxLen]; omega)
        refine AWp.ret ?_
        try dsimp only [thenQ, blockQ]
        apply endQ.ret
        · rfl
        · conv => lhs; simp [resAV, Try.results3]
        · rfl
      repeat (first | refine AWp.seq ?_ | refine AWp.block ?_)
      apply AWp.reg [] [.p (fun _ => .d (.int E)) none]
      · conv => lhs; simp [Vl.row, Vl.rows_eq, Try.underlying4, hnl, q1t, q2, hE1]
      · (repeat' apply And.intro) <;> first | omega | assumption | trivial | (simp [inI, maxLen]; done) | (simp [inI, maxLen]; omega)
      repeat (first | refine AWp.seq ?_ | refine AWp.block ?_)
      refine AWp.cond rfl (fun hc => ?_) (fun hc => ?_)
      rotate_left
      · cases hc
      repeat (first | refine AWp.seq ?_ | refine AWp.block ?_)
      apply AWp.reg [] []
      · conv => lhs; simp [Vl.row, Vl.rows_eq, Try.underlying4, hnl, q1t, q2, hE1]
      · (repeat' apply And.intro) <;> first | omega | assumption | trivial | (simp [inI, maxLen]; done) | (simp [inI, maxLen]; omega)
      refine AWp.ret ?_
      try dsimp only [thenQ, blockQ]
      apply endQ.ret
      · rfl
      · conv => lhs; simp [resAV, Try.results3]
      · rfl
    repeat (first | refine AWp.seq ?_ | refine AWp.block ?_)
    apply AWp.reg [] []
    · conv => lhs; simp [Vl.row, Vl.rows_eq, Try.underlying4, hnl, q1]
    · (repeat' apply And.intro) <;> first | omega | assumption | trivial | (simp [inI, maxLen]; done) | (simp [inI, maxLen]; omega)
    repeat (first | refine AWp.seq ?_ | refine AWp.block ?_)
    refine AWp.cond rfl (fun hc => ?_) (fun hc => ?_)
    · cases hc
    refine AWp.skip ?_
    by_cases hE1 : E = 0
    · subst hE1
      repeat (first | refine AWp.seq ?_ | refine AWp.block ?_)
      apply AWp.reg [] [.p (fun _ => .d (.int 0)) none]
      · conv => lhs; simp [Vl.row, Vl.rows_eq, Try.underlying4, hnl, q1]
      · (repeat' apply And.intro) <;> first | omega | assumption | trivial | (simp [inI, maxLen]; done) | (simp [inI, maxLen]; omega)
      repeat (first | refine AWp.seq ?_ | refine AWp.block ?_)
      refine AWp.cond rfl (fun hc => ?_) (fun hc => ?_)
      · cases hc
      refine AWp.skip ?_
      obtain ⟨_, _, hh, hright⟩ := check_zero hE0.symm
      have hone := heads_one l _ hh
      have hru := sp_evRun l name args fuel hl.len (fun x hx => (hl.all x hx).body) hright ha
      have hrr := sp_refRun l name args fuel hl.len (fun x hx => (hl.all x hx).body) hright hone ha
      have hufine : (runE true l name args fuel).1.Ok := by
        unfold runE
        split
        · exact zeroV_fine.ok
        rename_i hfu
        split
        · exact zeroV_fine.ok
        split
        · exact (evCall_fine true hright 40 name (args.map argV) fuel (fun v hv => by obtain ⟨n, _, rfl⟩ := List.mem_map.1 hv; exact argV_fine n) (by omega) (by omega)).1.ok
        · exact zeroV_fine.ok
      generalize runE true l name args fuel = o at hru hrr hufine
      obtain ⟨u, G⟩ := o
      dsimp only at hru hrr hufine
      have hsu := sp_refSameValue u u hufine
      rw [eqB_self] at hsu
      obtain ⟨uc, un, uks⟩ := u
      repeat (first | refine AWp.seq ?_ | refine AWp.block ?_)
      apply AWp.reg [] [.p (fun _ => .tuple [.agg [.d (.bool uc), .d (.int un), .d (.sl (uks.map Vl.row))], .d (.int G)]) none]
      · conv => lhs; simp [Vl.row, Vl.rows_eq, Try.underlying4, hnl, q1]
      · (repeat' apply And.intro) <;> first | omega | assumption | trivial | (simp [inI, maxLen]; done) | (simp [inI, maxLen]; omega)
      repeat (first | refine AWp.seq ?_ | refine AWp.block ?_)
      apply AWp.reg [] [.p (fun _ => .tuple [.agg [.d (.bool uc), .d (.int un), .d (.sl (uks.map Vl.row))], .d (.int G)]) none]
      · conv => lhs; simp [Vl.row, Vl.rows_eq, Try.underlying4, hnl, q1]
      · (repeat' apply And.intro) <;> first | omega | assumption | trivial | (simp [inI, maxLen]; done) | (simp [inI, maxLen]; omega)
      repeat (first | refine AWp.seq ?_ | refine AWp.block ?_)
      apply AWp.reg [] [.p (fun _ => .d (.bool true)) none]
      · conv => lhs; simp [Vl.row, Vl.rows_eq, Try.underlying4, hnl, q1]
      · (repeat' apply And.intro) <;> first | omega | assumption | trivial | (simp [inI, maxLen]; done) | (simp [inI, maxLen]; omega)
      refine AWp.ret ?_
      try dsimp only [thenQ, blockQ]
      apply endQ.ret
      · rfl
      · conv => lhs; simp [resAV, Try.results3]
      · rfl
    repeat (first | refine AWp.seq ?_ | refine AWp.block ?_)
    apply AWp.reg [] [.p (fun _ => .d (.int E)) none]
    · conv => lhs; simp [Vl.row, Vl.rows_eq, Try.underlying4, hnl, q1, hE1]
    · (repeat' apply And.intro) <;> first | omega | assumption | trivial | (simp [inI, maxLen]; done) | (simp [inI, maxLen]; omega)
    repeat (first | refine AWp.seq ?_ | refine AWp.block ?_)
    refine AWp.cond rfl (fun hc => ?_) (fun hc => ?_)
    rotate_left
    · cases hc
    repeat (first | refine AWp.seq ?_ | refine AWp.block ?_)
    apply AWp.reg [] []
    · conv => lhs; simp [Vl.row, Vl.rows_eq, Try.underlying4, hnl, q1, hE1]
    · (repeat' apply And.intro) <;> first | omega | assumption | trivial | (simp [inI, maxLen]; done) | (simp [inI, maxLen]; omega)
    refine AWp.ret ?_
    try dsimp only [thenQ, blockQ]
    apply endQ.ret
    · rfl
    · conv => lhs; simp [resAV, Try.results3]
    · rfl
  rw [show decide (0 ≤ NB) = false from decide_eq_false (by omega)] at hfew
  repeat (first | refine AWp.seq ?_ | refine AWp.block ?_)
  apply AWp.draw [] [.p (fun _ => .agg [.d (.bool ac), .d (.int an), .d (.sl (aks.map Vl.row))]) none, .p (fun _ => .d (.bool true)) none, .p (fun _ => .d (.bool X)) none, .p (fun _ => .d (.bool X)) none, .p (fun _ => .d (.bool false)) none, .p (fun _ => .d (.int NL)) none] mixed
  · conv => lhs; simp [Vl.row, Vl.rows_eq, Try.underlying4, hnl]
  · kernel_rfl
  · (repeat' apply And.intro) <;> first | omega | assumption | trivial | (simp [inI, maxLen]; done) | (simp [inI, maxLen]; omega)
  repeat (first | refine AWp.seq ?_ | refine AWp.block ?_)
  refine AWp.cond rfl (fun hc => ?_) (fun hc => ?_)
  · cases hc
  refine AWp.skip ?_
  by_cases q3 : x = (wr32 x)
  · have q3t := eq_true q3
    by_cases q4 : y = (wr32 y)
    · have q4t := eq_true q4
      repeat (first | refine AWp.seq ?_ | refine AWp.block ?_)
      apply AWp.reg [] []
      · conv => lhs; simp [Vl.row, Vl.rows_eq, Try.underlying4, hnl, q3t, q4t]
      · (repeat' apply And.intro) <;> first | omega | assumption | trivial | (simp [inI, maxLen]; done) | (simp [inI, maxLen]; omega)
      repeat (first | refine AWp.seq ?_ | refine AWp.block ?_)
      refine AWp.cond rfl (fun hc => ?_) (fun hc => ?_)
      rotate_left
      · cases hc
      repeat (first | refine AWp.seq ?_ | refine AWp.block ?_)
      apply AWp.reg [] [.p (fun _ => .tuple [.agg [.d (.bool rc), .d (.int rn), .d (.sl (rks.map Vl.row))], .d (.int W)]) none]
      · conv => lhs; simp [Vl.row, Vl.rows_eq, Try.underlying4, hnl, q3t, q4t]
      · (repeat' apply And.intro) <;> first | omega | assumption | trivial | (simp [inI, maxLen]; done) | (simp [inI, maxLen]; omega)
      repeat (first | refine AWp.seq ?_ | refine AWp.block ?_)
      apply AWp.reg [] [.p (fun _ => .tuple [.agg [.d (.bool rc), .d (.int rn), .d (.sl (rks.map Vl.row))], .d (.int W)]) none]
      · conv => lhs; simp [Vl.row, Vl.rows_eq, Try.underlying4, hnl, q3t, q4t]
      · (repeat' apply And.intro) <;> first | omega | assumption | trivial | (simp [inI, maxLen]; done) | (simp [inI, maxLen]; omega)
      repeat (first | refine AWp.seq ?_ | refine AWp.block ?_)
      apply AWp.reg [] [.p (fun _ => .d (.bool true)) none]
      · conv => lhs; simp [Vl.row, Vl.rows_eq, Try.underlying4, hnl, q3t, q4t]
      · (repeat' apply And.intro) <;> first | omega | assumption | trivial | (simp [inI, maxLen]; done) | (simp [inI, maxLen]; omega)
      repeat (first | refine AWp.seq ?_ | refine AWp.block ?_)
      refine AWp.cond rfl (fun hc => ?_) (fun hc => ?_)
      · cases hc
      refine AWp.skip ?_
      by_cases hE1 : E = 0
      · subst hE1
        repeat (first | refine AWp.seq ?_ | refine AWp.block ?_)
        apply AWp.reg [] [.p (fun _ => .d (.int 0)) none]
        · conv => lhs; simp [Vl.row, Vl.rows_eq, Try.underlying4, hnl, q3t, q4t]
        · (repeat' apply And.intro) <;> first | omega | assumption | trivial | (simp [inI, maxLen]; done) | (simp [inI, maxLen]; omega)
        repeat (first | refine AWp.seq ?_ | refine AWp.block ?_)
        refine AWp.cond rfl (fun hc => ?_) (fun hc => ?_)
        · cases hc
        refine AWp.skip ?_
        obtain ⟨_, _, hh, hright⟩ := check_zero hE0.symm
        have hone := heads_one l _ hh
        have hru := sp_evRun l name args fuel hl.len (fun x hx => (hl.all x hx).body) hright ha
        have hrr := sp_refRun l name args fuel hl.len (fun x hx => (hl.all x hx).body) hright hone ha
        have hufine : (runE true l name args fuel).1.Ok := by
          unfold runE
          split
          · exact zeroV_fine.ok
          rename_i hfu
          split
          · exact zeroV_fine.ok
          split
          · exact (evCall_fine true hright 40 name (args.map argV) fuel (fun v hv => by obtain ⟨n, _, rfl⟩ := List.mem_map.1 hv; exact argV_fine n) (by omega) (by omega)).1.ok
          · exact zeroV_fine.ok
        generalize runE true l name args fuel = o at hru hrr hufine
        obtain ⟨u, G⟩ := o
        dsimp only at hru hrr hufine
        have hsu := sp_refSameValue u u hufine
        rw [eqB_self] at hsu
        obtain ⟨uc, un, uks⟩ := u
        repeat (first | refine AWp.seq ?_ | refine AWp.block ?_)
        apply AWp.reg [] [.p (fun _ => .tuple [.agg [.d (.bool uc), .d (.int un), .d (.sl (uks.map Vl.row))], .d (.int G)]) none]
        · conv => lhs; simp [Vl.row, Vl.rows_eq, Try.underlying4, hnl, q3t, q4t]
        · (repeat' apply And.intro) <;> first | omega | assumption | trivial | (simp [inI, maxLen]; done) | (simp [inI, maxLen]; omega)
        repeat (first | refine AWp.seq ?_ | refine AWp.block ?_)
        apply AWp.reg [] [.p (fun _ => .tuple [.agg [.d (.bool uc), .d (.int un), .d (.sl (uks.map Vl.row))], .d (.int G)]) none]
        · conv => lhs; simp [Vl.row, Vl.rows_eq, Try.underlying4, hnl, q3t, q4t]
        · (repeat' apply And.intro) <;> first | omega | assumption | trivial | (simp [inI, maxLen]; done) | (simp [inI, maxLen]; omega)
        repeat (first | refine AWp.seq ?_ | refine AWp.block ?_)
        apply AWp.reg [] [.p (fun _ => .d (.bool true)) none]
        · conv => lhs; simp [Vl.row, Vl.rows_eq, Try.underlying4, hnl, q3t, q4t]
        · (repeat' apply And.intro) <;> first | omega | assumption | trivial | (simp [inI, maxLen]; done) | (simp [inI, maxLen]; omega)
        refine AWp.ret ?_
        try dsimp only [thenQ, blockQ]
        apply endQ.ret
        · rfl
        · conv => lhs; simp [resAV, Try.results3]
        · rfl
      repeat (first | refine AWp.seq ?_ | refine AWp.block ?_)
      apply AWp.reg [] [.p (fun _ => .d (.int E)) none]
      · conv => lhs; simp [Vl.row, Vl.rows_eq, Try.underlying4, hnl, q3t, q4t, hE1]
      · (repeat' apply And.intro) <;> first | omega | assumption | trivial | (simp [inI, maxLen]; done) | (simp [inI, maxLen]; omega)
      repeat (first | refine AWp.seq ?_ | refine AWp.block ?_)
      refine AWp.cond rfl (fun hc => ?_) (fun hc => ?_)
      rotate_left
      · cases hc
      repeat (first | refine AWp.seq ?_ | refine AWp.block ?_)
      apply AWp.reg [] []
      · conv => lhs; simp [Vl.row, Vl.rows_eq, Try.underlying4, hnl, q3t, q4t, hE1]
      · (repeat' apply And.intro) <;> first | omega | assumption | trivial | (simp [inI, maxLen]; done) | (simp [inI, maxLen]; omega)
      refine AWp.ret ?_
      try dsimp only [thenQ, blockQ]
      apply endQ.ret
      · rfl
      · conv => lhs; simp [resAV, Try.results3]
      · rfl
    repeat (first | refine AWp.seq ?_ | refine AWp.block ?_)
    apply AWp.reg [] []
    · conv => lhs; simp [Vl.row, Vl.rows_eq, Try.underlying4, hnl, q3t, q4]
    · (repeat' apply And.intro) <;> first | omega | assumption | trivial | (simp [inI, maxLen]; done) | (simp [inI, maxLen]; omega)
    repeat (first | refine AWp.seq ?_ | refine AWp.block ?_)
    refine AWp.cond rfl (fun hc => ?_) (fun hc => ?_)
    · cases hc
    refine AWp.skip ?_
    by_cases hE1 : E = 0
    · subst hE1
      repeat (first | refine AWp.seq ?_ | refine AWp.block ?_)
      apply AWp.reg [] [.p (fun _ => .d (.int 0)) none]
      · conv => lhs; simp [Vl.row, Vl.rows_eq, Try.underlying4, hnl, q3t, q4]
      · (repeat' apply And.intro) <;> first | omega | assumption | trivial | (simp [inI, maxLen]; done) | (simp [inI, maxLen]; omega)
      repeat (first | refine AWp.seq ?_ | refine AWp.block ?_)
      refine AWp.cond rfl (fun hc => ?_) (fun hc => ?_)
      · cases hc
      refine AWp.skip ?_
      obtain ⟨_, _, hh, hright⟩ := check_zero hE0.symm
      have hone := heads_one l _ hh
      have hru := sp_evRun l name args fuel hl.len (fun x hx => (hl.all x hx).body) hright ha
      have hrr := sp_refRun l name args fuel hl.len (fun x hx => (hl.all x hx).body) hright hone ha
      have hufine : (runE true l name args fuel).1.Ok := by
        unfold runE
        split
        · exact zeroV_fine.ok
        rename_i hfu
        split
        · exact zeroV_fine.ok
        split
        · exact (evCall_fine true hright 40 name (args.map argV) fuel (fun v hv => by obtain ⟨n, _, rfl⟩ := List.mem_map.1 hv; exact argV_fine n) (by omega) (by omega)).1.ok
        · exact zeroV_fine.ok
      generalize runE true l name args fuel = o at hru hrr hufine
      obtain ⟨u, G⟩ := o
      dsimp only at hru hrr hufine
      have hsu := sp_refSameValue u u hufine
      rw [eqB_self] at hsu
      obtain ⟨uc, un, uks⟩ := u
      repeat (first | refine AWp.seq ?_ | refine AWp.block ?_)
      apply AWp.reg [] [.p (fun _ => .tuple [.agg [.d (.bool uc), .d (.int un), .d (.sl (uks.map Vl.row))], .d (.int G)]) none]
      · conv => lhs; simp [Vl.row, Vl.rows_eq, Try.underlying4, hnl, q3t, q4]
      · (repeat' apply And.intro) <;> first | omega | assumption | trivial | (simp [inI, maxLen]; done) | (simp [inI, maxLen]; omega)
      repeat (first | refine AWp.seq ?_ | refine AWp.block ?_)
      apply AWp.reg [] [.p (fun _ => .tuple [.agg [.d (.bool uc), .d (.int un), .d (.sl (uks.map Vl.row))], .d (.int G)]) none]
      · conv => lhs; simp [Vl.row, Vl.rows_eq, Try.underlying4, hnl, q3t, q4]
      · (repeat' apply And.intro) <;> first | omega | assumption | trivial | (simp [inI, maxLen]; done) | (simp [inI, maxLen]; omega)
      repeat (first | refine AWp.seq ?_ | refine AWp.block ?_)
      apply AWp.reg [] [.p (fun _ => .d (.bool true)) none]
      · conv => lhs; simp [Vl.row, Vl.rows_eq, Try.underlying4, hnl, q3t, q4]
      · (repeat' apply And.intro) <;> first | omega | assumption | trivial | (simp [inI, maxLen]; done) | (simp [inI, maxLen]; omega)
      refine AWp.ret ?_
      try dsimp only [thenQ, blockQ]
      apply endQ.ret
      · rfl
      · conv => lhs; simp [resAV, Try.results3]
      · rfl
    repeat (first | refine AWp.seq ?_ | refine AWp.block ?_)
    apply AWp.reg [] [.p (fun _ => .d (.int E)) none]
    · conv => lhs; simp [Vl.row, Vl.rows_eq, Try.underlying4, hnl, q3t, q4, hE1]
    · (repeat' apply And.intro) <;> first | omega | assumption | trivial | (simp [inI, maxLen]; done) | (simp [inI, maxLen]; omega)
    repeat (first | refine AWp.seq ?_ | refine AWp.block ?_)
    refine AWp.cond rfl (fun hc => ?_) (fun hc => ?_)
    rotate_left
    · cases hc
    repeat (first | refine AWp.seq ?_ | refine AWp.block ?_)
    apply AWp.reg [] []
    · conv => lhs; simp [Vl.row, Vl.rows_eq, Try.underlying4, hnl, q3t, q4, hE1]
    · (repeat' apply And.intro) <;> first | omega | assumption | trivial | (simp [inI, maxLen]; done) | (simp [inI, maxLen]; omega)
    refine AWp.ret ?_
    try dsimp only [thenQ, blockQ]
    apply endQ.ret
    · rfl
    · conv => lhs; simp [resAV, Try.results3]
    · rfl
  repeat (first | refine AWp.seq ?_ | refine AWp.block ?_)
  apply AWp.reg [] []
  · conv => lhs; simp [Vl.row, Vl.rows_eq, Try.underlying4, hnl, q3]
  · (repeat' apply And.intro) <;> first | omega | assumption | trivial | (simp [inI, maxLen]; done) | (simp [inI, maxLen]; omega)
  repeat (first | refine AWp.seq ?_ | refine AWp.block ?_)
  refine AWp.cond rfl (fun hc => ?_) (fun hc => ?_)
  · cases hc
  refine AWp.skip ?_
  by_cases hE1 : E = 0
  · subst hE1
    repeat (first | refine AWp.seq ?_ | refine AWp.block ?_)
    apply AWp.reg [] [.p (fun _ => .d (.int 0)) none]
    · conv => lhs; simp [Vl.row, Vl.rows_eq, Try.underlying4, hnl, q3]
    · (repeat' apply And.intro) <;> first | omega | assumption | trivial | (simp [inI, maxLen]; done) | (simp [inI, maxLen]; omega)
    repeat (first | refine AWp.seq ?_ | refine AWp.block ?_)
    refine AWp.cond rfl (fun hc => ?_) (fun hc => ?_)
    · cases hc
    refine AWp.skip ?_
    obtain ⟨_, _, hh, hright⟩ := check_zero hE0.symm
    have hone := heads_one l _ hh
    have hru := sp_evRun l name args fuel hl.len (fun x hx => (hl.all x hx).body) hright ha
    have hrr := sp_refRun l name args fuel hl.len (fun x hx => (hl.all x hx).body) hright hone ha
    have hufine : (runE true l name args fuel).1.Ok := by
      unfold runE
      split
      · exact zeroV_fine.ok
      rename_i hfu
      split
      · exact zeroV_fine.ok
      split
      · exact (evCall_fine true hright 40 name (args.map argV) fuel (fun v hv => by obtain ⟨n, _, rfl⟩ := List.mem_map.1 hv; exact argV_fine n) (by omega) (by omega)).1.ok
      · exact zeroV_fine.ok
    generalize runE true l name args fuel = o at hru hrr hufine
    obtain ⟨u, G⟩ := o
    dsimp only at hru hrr hufine
    have hsu := sp_refSameValue u u hufine
    rw [eqB_self] at hsu
    obtain ⟨uc, un, uks⟩ := u
    repeat (first | refine AWp.seq ?_ | refine AWp.block ?_)
    apply AWp.reg [] [.p (fun _ => .tuple [.agg [.d (.bool uc), .d (.int un), .d (.sl (uks.map Vl.row))], .d (.int G)]) none]
    · conv => lhs; simp [Vl.row, Vl.rows_eq, Try.underlying4, hnl, q3]
    · (repeat' apply And.intro) <;> first | omega | assumption | trivial | (simp [inI, maxLen]; done) | (simp [inI, maxLen]; omega)
    repeat (first | refine AWp.seq ?_ | refine AWp.block ?_)
    apply AWp.reg [] [.p (fun _ => .tuple [.agg [.d (.bool uc), .d (.int un), .d (.sl (uks.map Vl.row))], .d (.int G)]) none]
    · conv => lhs; simp [Vl.row, Vl.rows_eq, Try.underlying4, hnl, q3]
    · (repeat' apply And.intro) <;> first | omega | assumption | trivial | (simp [inI, maxLen]; done) | (simp [inI, maxLen]; omega)
    repeat (first | refine AWp.seq ?_ | refine AWp.block ?_)
    apply AWp.reg [] [.p (fun _ => .d (.bool true)) none]
    · conv => lhs; simp [Vl.row, Vl.rows_eq, Try.underlying4, hnl, q3]
    · (repeat' apply And.intro) <;> first | omega | assumption | trivial | (simp [inI, maxLen]; done) | (simp [inI, maxLen]; omega)
    refine AWp.ret ?_
    try dsimp only [thenQ, blockQ]
    apply endQ.ret
    · rfl
    · conv => lhs; simp [resAV, Try.results3]
    · rfl
  repeat (first | refine AWp.seq ?_ | refine AWp.block ?_)
  apply AWp.reg [] [.p (fun _ => .d (.int E)) none]
  · conv => lhs; simp [Vl.row, Vl.rows_eq, Try.underlying4, hnl, q3, hE1]
  · (repeat' apply And.intro) <;> first | omega | assumption | trivial | (simp [inI, maxLen]; done) | (simp [inI, maxLen]; omega)
  repeat (first | refine AWp.seq ?_ | refine AWp.block ?_)
  refine AWp.cond rfl (fun hc => ?_) (fun hc => ?_)
  rotate_left
  · cases hc
  repeat (first | refine AWp.seq ?_ | refine AWp.block ?_)
  apply AWp.reg [] []
  · conv => lhs; simp [Vl.row, Vl.rows_eq, Try.underlying4, hnl, q3, hE1]
  · (repeat' apply And.intro) <;> first | omega | assumption | trivial | (simp [inI, maxLen]; done) | (simp [inI, maxLen]; omega)
  refine AWp.ret ?_
  try dsimp only [thenQ, blockQ]
  apply endQ.ret
  · rfl
  · conv => lhs; simp [resAV, Try.results3]
  · rfl

end Go.Proofs.Ytialccgjbanmcaa
