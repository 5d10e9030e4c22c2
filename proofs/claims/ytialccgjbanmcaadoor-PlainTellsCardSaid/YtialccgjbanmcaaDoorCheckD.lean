/- xcref1.Check, scope.Check, by the abstract machine. Printed by walk_check.py. -/
import Derived.Test.YtialccgjbanmcaaDoorLookB
import Derived.Test.YtialccgjbanmcaaDoorCheckP
import Derived.Test.YtialccgjbanmcaaDoorScopeC
import Derived.Test.YtialccgjbanmcaaDoorScopeB
import Derived.Test.YtialccgjbanmcaaDoorFreeD
namespace Go.Proofs.YtialccgjbanmcaaDoor
open Go.RowKit
attribute [local simp] runD mkRc ldOf ldArg noAny dstOk guardOk opEff opEff0 effOp pureOp callOp zEff evA constAV frGet memGet startAS frOf isGoCall idIn AS.after nextR opnIds objIds AV.ids idsL AObj.ids frNo memNo opnAny isAny mkVal rdCells wrCells fldAddr idxAddr srcRows litRows toD1 toDs setAt sliceAV optI partAV bldAV fillAV binAV binI AV.cells callEff calleeOf frKill memKill AV.kill AObj.kill AV.has AV.hasL Op.operands Call.operands keepF keepM viewIds cChk renOf moGet moWs moQ cEff moLike moHave AV.ren renL AObj.ren AObj.like kept startC moMem AV.frz frz1 frzL frSub memSub frzs AS.frz frFrz memFrz AObj.frz takeMap takeLen bleF Nat.ble_eq memAny objAny mapOp D.keyOk rowAV valRow extOp wrapOp phO
set_option linter.unusedVariables false
set_option linter.unusedSimpArgs false

theorem arD_put {f : Arity} {g : ByteArray} {n : Nat} (h : f.get g = none) : D.aput (.str g) [.int n] (arD f) = arD ((g, n) :: f) := by
  unfold D.aput
  rw [D.adel_all]
  · rfl
  · intro p hp
    unfold arD at hp
    obtain ⟨t, ht, rfl⟩ := List.mem_map.1 hp
    intro e
    simp only [D.str.injEq] at e
    subst e
    unfold Arity.get at h
    rw [Option.map_eq_none_iff, List.find?_eq_none] at h
    have := h t ht
    simp at this

set_option maxRecDepth 20000 in
set_option maxHeartbeats 16000000 in
theorem sp_refCheck (l : List Fn) (hl : FnsOk l) : PSpec Tryd.prog 11 [fnsAV l] (fun _ => .d (.int (checkE l))) none := by
  have hll := hl.len
  obtain ⟨C, hC⟩ : ∃ C : Int, (l.length : Int) = C := ⟨_, rfl⟩
  refine PSpec.of Tryd.func11 rfl rfl rfl (Nat.le_of_ble_eq_true rfl) ?_
  show AWp _ _ (endQ _ Tryd.f11 _ _ _) (startAS 81 _)
  repeat (first | refine AWp.seq ?_ | refine AWp.block ?_)
  apply AWp.reg [] []
  · conv => lhs; simp [hC, Fn.row, Tm.row, Tm.rows_eq, Cs.rows_eq]
  · (repeat' apply And.intro) <;> first | omega | assumption | trivial | (simp [inI, maxLen]; done) | (simp [inI, maxLen]; omega)
  by_cases q1 : C = 0
  · repeat (first | refine AWp.seq ?_ | refine AWp.block ?_)
    apply AWp.reg [] []
    · conv => lhs; simp [hC, Fn.row, Tm.row, Tm.rows_eq, Cs.rows_eq, q1]
    · (repeat' apply And.intro) <;> first | omega | assumption | trivial | (simp [inI, maxLen]; done) | (simp [inI, maxLen]; omega)
    repeat (first | refine AWp.seq ?_ | refine AWp.block ?_)
    refine AWp.cond rfl (fun hc => ?_) (fun hc => ?_)
    rotate_left
    · cases hc
    repeat (first | refine AWp.seq ?_ | refine AWp.block ?_)
    apply AWp.reg [] []
    · conv => lhs; simp [hC, Fn.row, Tm.row, Tm.rows_eq, Cs.rows_eq, q1]
    · (repeat' apply And.intro) <;> first | omega | assumption | trivial | (simp [inI, maxLen]; done) | (simp [inI, maxLen]; omega)
    refine AWp.ret ?_
    try dsimp only [thenQ, blockQ]
    apply endQ.ret
    · rfl
    · conv => lhs; simp [resAV, Tryd.results11]
    · rw [checkE, if_pos (show l.length = 0 ∨ 6 < l.length by omega)]; rfl
  by_cases q2 : 6 < C
  · repeat (first | refine AWp.seq ?_ | refine AWp.block ?_)
    apply AWp.reg [] []
    · conv => lhs; simp [hC, Fn.row, Tm.row, Tm.rows_eq, Cs.rows_eq, q1, q2]
    · (repeat' apply And.intro) <;> first | omega | assumption | trivial | (simp [inI, maxLen]; done) | (simp [inI, maxLen]; omega)
    repeat (first | refine AWp.seq ?_ | refine AWp.block ?_)
    refine AWp.cond rfl (fun hc => ?_) (fun hc => ?_)
    rotate_left
    · cases hc
    repeat (first | refine AWp.seq ?_ | refine AWp.block ?_)
    apply AWp.reg [] []
    · conv => lhs; simp [hC, Fn.row, Tm.row, Tm.rows_eq, Cs.rows_eq, q1, q2]
    · (repeat' apply And.intro) <;> first | omega | assumption | trivial | (simp [inI, maxLen]; done) | (simp [inI, maxLen]; omega)
    refine AWp.ret ?_
    try dsimp only [thenQ, blockQ]
    apply endQ.ret
    · rfl
    · conv => lhs; simp [resAV, Tryd.results11]
    · rw [checkE, if_pos (show l.length = 0 ∨ 6 < l.length by omega)]; rfl
  repeat (first | refine AWp.seq ?_ | refine AWp.block ?_)
  apply AWp.reg [] []
  · conv => lhs; simp [hC, Fn.row, Tm.row, Tm.rows_eq, Cs.rows_eq, q1, q2]
  · (repeat' apply And.intro) <;> first | omega | assumption | trivial | (simp [inI, maxLen]; done) | (simp [inI, maxLen]; omega)
  repeat (first | refine AWp.seq ?_ | refine AWp.block ?_)
  refine AWp.cond rfl (fun hc => ?_) (fun hc => ?_)
  · cases hc
  refine AWp.skip ?_
  have hlen : ¬ (l.length = 0 ∨ 6 < l.length) := by omega
  repeat (first | refine AWp.seq ?_ | refine AWp.block ?_)
  apply AWp.reg [] []
  · conv => lhs; simp [hC, Fn.row, Tm.row, Tm.rows_eq, Cs.rows_eq, q1, q2]
  · (repeat' apply And.intro) <;> first | omega | assumption | trivial | (simp [inI, maxLen]; done) | (simp [inI, maxLen]; omega)
  repeat (first | refine AWp.seq ?_ | refine AWp.block ?_)
  apply AWp.reg [] []
  · conv => lhs; simp [hC, Fn.row, Tm.row, Tm.rows_eq, Cs.rows_eq, q1, q2]
  · (repeat' apply And.intro) <;> first | omega | assumption | trivial | (simp [inI, maxLen]; done) | (simp [inI, maxLen]; omega)
  repeat (first | refine AWp.seq ?_ | refine AWp.block ?_)
  refine AWp.loop (σ := fun u : {i : Nat // i ≤ l.length ∧ headsE [] l = headsE (arOf (l.take i)) (l.drop i)} => ⟨81, [(0, fnsAV l), (3, .mp 19), (20, fnsAV l), (21, .d (.int l.length)), (22, .d (.int u.1))], [(19, some (wrObj (arOf (l.take u.1))))]⟩)
    (μ := fun u => l.length - u.1) ⟨0, Nat.zero_le _, rfl⟩ (Le.sub (by simp [arOf, wrObj, arD, hC, nmObj]) (by simp [arOf, wrObj, arD, hC, nmObj])) (fun ⟨i, hi, hwi⟩ => ?_)
  dsimp only
  repeat (first | refine AWp.seq ?_ | refine AWp.block ?_)
  apply AWp.reg [] []
  · conv => lhs; simp
  · trivial
  repeat (first | refine AWp.seq ?_ | refine AWp.block ?_)
  refine AWp.cond rfl (fun hci => ?_) (fun hci => ?_)
  · have hi1 : i < l.length := by have := of_decide_eq_true hci; omega
    have h1c : l[i]? = some l[i] := List.getElem?_eq_getElem hi1
    have hmc : l[i] ∈ l := List.getElem_mem hi1
    have hdc : l.drop i = l[i] :: l.drop (i + 1) := List.drop_eq_getElem_cons hi1
    generalize l[i] = c at h1c hmc hdc
    obtain ⟨g, ps, bd⟩ := c
    have hsn : arOf (l.take (i + 1)) = (g, ps.length) :: arOf (l.take i) := by rw [List.take_add_one, h1c]; exact arOf_snoc _ _
    obtain ⟨o1, o2, o3, o4⟩ := hl.all _ hmc
    dsimp only at o1 o2 o3 o4
    rw [hdc] at hwi
    simp only [headsE] at hwi
    rw [← hsn] at hwi
    obtain ⟨f, hf⟩ : ∃ f, f = arOf (l.take i) := ⟨_, rfl⟩
    rw [← hf] at hwi hsn ⊢
    obtain ⟨E, hE⟩ : ∃ E, E = Fn.headE f ⟨g, ps, bd⟩ := ⟨_, rfl⟩
    rw [← hE] at hwi
    simp only [Fn.headE] at hE
    have hNm := sp_Name g (by omega)
    have hTw := sp_twice ps (by omega)
    have hBd := sp_bad ps (by omega) (fun s hs => by have := o3 s hs; omega)
    have hSz := sp_refSize bd o4
    obtain ⟨S, hS⟩ : ∃ S, S = wr bd.sz := ⟨_, rfl⟩
    rw [← hS] at hSz hE
    obtain ⟨B, hB⟩ : ∃ B : Int, (ps.length : Int) = B := ⟨_, rfl⟩
    obtain ⟨xk, xn, xa, xb, xv, xx, xc⟩ := bd
    refine AWp.skip ?_
    repeat (first | refine AWp.seq ?_ | refine AWp.block ?_)
    apply AWp.reg [] []
    · conv => lhs; simp [hC, Fn.row, Tm.row, Tm.rows_eq, Cs.rows_eq, h1c, hB, q1, q2]
    · (repeat' apply And.intro) <;> first | omega | assumption | trivial | (simp [inI, maxLen]; done) | (simp [inI, maxLen]; omega)
    cases hg : f.get g with
    | some m =>
      repeat (first | refine AWp.seq ?_ | refine AWp.block ?_)
      apply AWp.reg [] []
      · conv => lhs; simp [hC, Fn.row, Tm.row, Tm.rows_eq, Cs.rows_eq, h1c, hB, arD_get, hg, q1, q2]
      · (repeat' apply And.intro) <;> first | omega | assumption | trivial | (simp [inI, maxLen]; done) | (simp [inI, maxLen]; omega)
      repeat (first | refine AWp.seq ?_ | refine AWp.block ?_)
      apply AWp.reg [] []
      · conv => lhs; simp [hC, Fn.row, Tm.row, Tm.rows_eq, Cs.rows_eq, h1c, hB, arD_get, hg, q1, q2]
      · (repeat' apply And.intro) <;> first | omega | assumption | trivial | (simp [inI, maxLen]; done) | (simp [inI, maxLen]; omega)
      repeat (first | refine AWp.seq ?_ | refine AWp.block ?_)
      refine AWp.cond rfl (fun hc => ?_) (fun hc => ?_)
      rotate_left
      · cases hc
      repeat (first | refine AWp.seq ?_ | refine AWp.block ?_)
      apply AWp.reg [] []
      · conv => lhs; simp [hC, Fn.row, Tm.row, Tm.rows_eq, Cs.rows_eq, h1c, hB, arD_get, hg, q1, q2]
      · (repeat' apply And.intro) <;> first | omega | assumption | trivial | (simp [inI, maxLen]; done) | (simp [inI, maxLen]; omega)
      refine AWp.ret ?_
      rw [if_pos (by simp [hg])] at hE
      rw [if_pos (by omega)] at hwi
      try dsimp only [thenQ, blockQ]
      apply endQ.ret
      · rfl
      · conv => lhs; simp [resAV, Tryd.results11]
      · rw [checkE, if_neg hlen, hwi, if_pos (by omega), hE]; rfl
    | none =>
      repeat (first | refine AWp.seq ?_ | refine AWp.block ?_)
      apply AWp.reg [] []
      · conv => lhs; simp [hC, Fn.row, Tm.row, Tm.rows_eq, Cs.rows_eq, h1c, hB, arD_get, hg, q1, q2]
      · (repeat' apply And.intro) <;> first | omega | assumption | trivial | (simp [inI, maxLen]; done) | (simp [inI, maxLen]; omega)
      cases q3 : nameB g with
      | true =>
        rw [q3] at hNm
        cases q4 : twB ps with
        | true =>
          rw [q4] at hTw
          repeat (first | refine AWp.seq ?_ | refine AWp.block ?_)
          apply AWp.reg [] [.p (fun _ => .d (.bool true)) none, .p (fun _ => .d (.bool true)) none]
          · conv => lhs; simp [hC, Fn.row, Tm.row, Tm.rows_eq, Cs.rows_eq, h1c, hB, arD_get, hg, q3, q4, q1, q2]
          · (repeat' apply And.intro) <;> first | omega | assumption | trivial | (simp [inI, maxLen]; done) | (simp [inI, maxLen]; omega)
          repeat (first | refine AWp.seq ?_ | refine AWp.block ?_)
          refine AWp.cond rfl (fun hc => ?_) (fun hc => ?_)
          rotate_left
          · cases hc
          repeat (first | refine AWp.seq ?_ | refine AWp.block ?_)
          apply AWp.reg [] []
          · conv => lhs; simp [hC, Fn.row, Tm.row, Tm.rows_eq, Cs.rows_eq, h1c, hB, arD_get, hg, q3, q4, q1, q2]
          · (repeat' apply And.intro) <;> first | omega | assumption | trivial | (simp [inI, maxLen]; done) | (simp [inI, maxLen]; omega)
          refine AWp.ret ?_
          rw [if_pos (by simp [hg, q3, q4])] at hE
          rw [if_pos (by omega)] at hwi
          try dsimp only [thenQ, blockQ]
          apply endQ.ret
          · rfl
          · conv => lhs; simp [resAV, Tryd.results11]
          · rw [checkE, if_neg hlen, hwi, if_pos (by omega), hE]; rfl
        | false =>
          rw [q4] at hTw
          cases q5 : badB ps with
          | true =>
            rw [q5] at hBd
            repeat (first | refine AWp.seq ?_ | refine AWp.block ?_)
            apply AWp.reg [] [.p (fun _ => .d (.bool true)) none, .p (fun _ => .d (.bool false)) none, .p (fun _ => .d (.bool true)) none]
            · conv => lhs; simp [hC, Fn.row, Tm.row, Tm.rows_eq, Cs.rows_eq, h1c, hB, arD_get, hg, q3, q4, q5, q1, q2]
            · (repeat' apply And.intro) <;> first | omega | assumption | trivial | (simp [inI, maxLen]; done) | (simp [inI, maxLen]; omega)
            repeat (first | refine AWp.seq ?_ | refine AWp.block ?_)
            refine AWp.cond rfl (fun hc => ?_) (fun hc => ?_)
            rotate_left
            · cases hc
            repeat (first | refine AWp.seq ?_ | refine AWp.block ?_)
            apply AWp.reg [] []
            · conv => lhs; simp [hC, Fn.row, Tm.row, Tm.rows_eq, Cs.rows_eq, h1c, hB, arD_get, hg, q3, q4, q5, q1, q2]
            · (repeat' apply And.intro) <;> first | omega | assumption | trivial | (simp [inI, maxLen]; done) | (simp [inI, maxLen]; omega)
            refine AWp.ret ?_
            rw [if_pos (by simp [hg, q3, q4, q5])] at hE
            rw [if_pos (by omega)] at hwi
            try dsimp only [thenQ, blockQ]
            apply endQ.ret
            · rfl
            · conv => lhs; simp [resAV, Tryd.results11]
            · rw [checkE, if_neg hlen, hwi, if_pos (by omega), hE]; rfl
          | false =>
            rw [q5] at hBd
            repeat (first | refine AWp.seq ?_ | refine AWp.block ?_)
            apply AWp.reg [] [.p (fun _ => .d (.bool true)) none, .p (fun _ => .d (.bool false)) none, .p (fun _ => .d (.bool false)) none]
            · conv => lhs; simp [hC, Fn.row, Tm.row, Tm.rows_eq, Cs.rows_eq, h1c, hB, arD_get, hg, q3, q4, q5, q1, q2]
            · (repeat' apply And.intro) <;> first | omega | assumption | trivial | (simp [inI, maxLen]; done) | (simp [inI, maxLen]; omega)
            repeat (first | refine AWp.seq ?_ | refine AWp.block ?_)
            refine AWp.cond rfl (fun hc => ?_) (fun hc => ?_)
            · cases hc
            refine AWp.skip ?_
            by_cases q6 : 6 < B
            · repeat (first | refine AWp.seq ?_ | refine AWp.block ?_)
              apply AWp.reg [] []
              · conv => lhs; simp [hC, Fn.row, Tm.row, Tm.rows_eq, Cs.rows_eq, h1c, hB, arD_get, hg, q3, q4, q5, q1, q2, q6]
              · (repeat' apply And.intro) <;> first | omega | assumption | trivial | (simp [inI, maxLen]; done) | (simp [inI, maxLen]; omega)
              repeat (first | refine AWp.seq ?_ | refine AWp.block ?_)
              refine AWp.cond rfl (fun hc => ?_) (fun hc => ?_)
              rotate_left
              · cases hc
              repeat (first | refine AWp.seq ?_ | refine AWp.block ?_)
              apply AWp.reg [] []
              · conv => lhs; simp [hC, Fn.row, Tm.row, Tm.rows_eq, Cs.rows_eq, h1c, hB, arD_get, hg, q3, q4, q5, q1, q2, q6]
              · (repeat' apply And.intro) <;> first | omega | assumption | trivial | (simp [inI, maxLen]; done) | (simp [inI, maxLen]; omega)
              refine AWp.ret ?_
              rw [if_neg (by simp [hg, q3, q4, q5]), if_pos (show 6 < ps.length by omega)] at hE
              rw [if_pos (by omega)] at hwi
              try dsimp only [thenQ, blockQ]
              apply endQ.ret
              · rfl
              · conv => lhs; simp [resAV, Tryd.results11]
              · rw [checkE, if_neg hlen, hwi, if_pos (by omega), hE]; rfl
            repeat (first | refine AWp.seq ?_ | refine AWp.block ?_)
            apply AWp.reg [] []
            · conv => lhs; simp [hC, Fn.row, Tm.row, Tm.rows_eq, Cs.rows_eq, h1c, hB, arD_get, hg, q3, q4, q5, q1, q2, q6]
            · (repeat' apply And.intro) <;> first | omega | assumption | trivial | (simp [inI, maxLen]; done) | (simp [inI, maxLen]; omega)
            repeat (first | refine AWp.seq ?_ | refine AWp.block ?_)
            refine AWp.cond rfl (fun hc => ?_) (fun hc => ?_)
            · cases hc
            refine AWp.skip ?_
            by_cases q7 : 400 < S
            · repeat (first | refine AWp.seq ?_ | refine AWp.block ?_)
              apply AWp.reg [] [.p (fun _ => .d (.int S)) none]
              · conv => lhs; simp [hC, Fn.row, Tm.row, Tm.rows_eq, Cs.rows_eq, h1c, hB, arD_get, hg, q3, q4, q5, q1, q2, q6, q7]
              · (repeat' apply And.intro) <;> first | omega | assumption | trivial | (simp [inI, maxLen]; done) | (simp [inI, maxLen]; omega)
              repeat (first | refine AWp.seq ?_ | refine AWp.block ?_)
              refine AWp.cond rfl (fun hc => ?_) (fun hc => ?_)
              rotate_left
              · cases hc
              repeat (first | refine AWp.seq ?_ | refine AWp.block ?_)
              apply AWp.reg [] []
              · conv => lhs; simp [hC, Fn.row, Tm.row, Tm.rows_eq, Cs.rows_eq, h1c, hB, arD_get, hg, q3, q4, q5, q1, q2, q6, q7]
              · (repeat' apply And.intro) <;> first | omega | assumption | trivial | (simp [inI, maxLen]; done) | (simp [inI, maxLen]; omega)
              refine AWp.ret ?_
              rw [if_neg (by simp [hg, q3, q4, q5]), if_neg (show ¬ 6 < ps.length by omega), if_pos (show 400 < S by omega)] at hE
              rw [if_pos (by omega)] at hwi
              try dsimp only [thenQ, blockQ]
              apply endQ.ret
              · rfl
              · conv => lhs; simp [resAV, Tryd.results11]
              · rw [checkE, if_neg hlen, hwi, if_pos (by omega), hE]; rfl
            repeat (first | refine AWp.seq ?_ | refine AWp.block ?_)
            apply AWp.reg [] [.p (fun _ => .d (.int S)) none]
            · conv => lhs; simp [hC, Fn.row, Tm.row, Tm.rows_eq, Cs.rows_eq, h1c, hB, arD_get, hg, q3, q4, q5, q1, q2, q6, q7]
            · (repeat' apply And.intro) <;> first | omega | assumption | trivial | (simp [inI, maxLen]; done) | (simp [inI, maxLen]; omega)
            repeat (first | refine AWp.seq ?_ | refine AWp.block ?_)
            refine AWp.cond rfl (fun hc => ?_) (fun hc => ?_)
            · cases hc
            refine AWp.skip ?_
            rw [if_neg (by simp [hg, q3, q4, q5]), if_neg (show ¬ 6 < ps.length by omega), if_neg (show ¬ 400 < S by omega)] at hE
            rw [if_neg (show ¬ (E ≠ 0) by omega)] at hwi
            have hput : D.aput (.str g) [.int B] (arD f) = arD ((g, ps.length) :: f) := by rw [← hB]; exact arD_put hg
            repeat (first | refine AWp.seq ?_ | refine AWp.block ?_)
            apply AWp.reg [] []
            · conv => lhs; simp [hC, Fn.row, Tm.row, Tm.rows_eq, Cs.rows_eq, h1c, hB, arD_get, hg, q3, q4, q5, hput, q1, q2, q6, q7]
            · (repeat' apply And.intro) <;> first | omega | assumption | trivial | (simp [inI, maxLen]; done) | (simp [inI, maxLen]; omega)
            repeat (first | refine AWp.seq ?_ | refine AWp.block ?_)
            apply AWp.reg [] []
            · conv => lhs; simp [hC, Fn.row, Tm.row, Tm.rows_eq, Cs.rows_eq, h1c, hB, arD_get, hg, q3, q4, q5, hput, q1, q2, q6, q7]
            · (repeat' apply And.intro) <;> first | omega | assumption | trivial | (simp [inI, maxLen]; done) | (simp [inI, maxLen]; omega)
            refine ⟨⟨i + 1, hi1, hwi⟩, by simp; omega, ?_⟩
            dsimp only
            rw [hsn]
            exact Le.sub (by simp [hC]) (by simp [nmObj])
      | false =>
        rw [q3] at hNm
        repeat (first | refine AWp.seq ?_ | refine AWp.block ?_)
        apply AWp.reg [] [.p (fun _ => .d (.bool false)) none]
        · conv => lhs; simp [hC, Fn.row, Tm.row, Tm.rows_eq, Cs.rows_eq, h1c, hB, arD_get, hg, q3, q1, q2]
        · (repeat' apply And.intro) <;> first | omega | assumption | trivial | (simp [inI, maxLen]; done) | (simp [inI, maxLen]; omega)
        repeat (first | refine AWp.seq ?_ | refine AWp.block ?_)
        refine AWp.cond rfl (fun hc => ?_) (fun hc => ?_)
        rotate_left
        · cases hc
        repeat (first | refine AWp.seq ?_ | refine AWp.block ?_)
        apply AWp.reg [] []
        · conv => lhs; simp [hC, Fn.row, Tm.row, Tm.rows_eq, Cs.rows_eq, h1c, hB, arD_get, hg, q3, q1, q2]
        · (repeat' apply And.intro) <;> first | omega | assumption | trivial | (simp [inI, maxLen]; done) | (simp [inI, maxLen]; omega)
        refine AWp.ret ?_
        rw [if_pos (by simp [hg, q3])] at hE
        rw [if_pos (by omega)] at hwi
        try dsimp only [thenQ, blockQ]
        apply endQ.ret
        · rfl
        · conv => lhs; simp [resAV, Tryd.results11]
        · rw [checkE, if_neg hlen, hwi, if_pos (by omega), hE]; rfl
  have hi1 : i = l.length := by have := of_decide_eq_false hci; omega
  subst hi1
  clear hci
  rw [List.drop_length] at hwi
  simp only [headsE] at hwi
  rw [List.take_length]
  have hall := heads_zero hwi
  refine AWp.exit ?_
  repeat (first | refine AWp.seq ?_ | refine AWp.block ?_)
  apply AWp.reg [] []
  · conv => lhs; simp [hC, Fn.row, Tm.row, Tm.rows_eq, Cs.rows_eq, q1, q2]
  · (repeat' apply And.intro) <;> first | omega | assumption | trivial | (simp [inI, maxLen]; done) | (simp [inI, maxLen]; omega)
  repeat (first | refine AWp.seq ?_ | refine AWp.block ?_)
  refine AWp.loop (σ := fun u : {j : Nat // j ≤ l.length ∧ bodiesE (arOf l) l = bodiesE (arOf l) (l.drop j)} => ⟨81, [(0, fnsAV l), (3, .mp 19), (65, fnsAV l), (66, .d (.int l.length)), (67, .d (.int u.1))], [(19, some (wrObj (arOf l)))]⟩)
    (μ := fun u => l.length - u.1) ⟨0, Nat.zero_le _, rfl⟩ (Le.sub (by simp [hC, nmObj]) (by simp [hC, nmObj])) (fun ⟨j, hi, hwj⟩ => ?_)
  dsimp only
  repeat (first | refine AWp.seq ?_ | refine AWp.block ?_)
  apply AWp.reg [] []
  · conv => lhs; simp
  · trivial
  repeat (first | refine AWp.seq ?_ | refine AWp.block ?_)
  refine AWp.cond rfl (fun hcj => ?_) (fun hcj => ?_)
  · have hi1 : j < l.length := by have := of_decide_eq_true hcj; omega
    have h1c : l[j]? = some l[j] := List.getElem?_eq_getElem hi1
    have hmc : l[j] ∈ l := List.getElem_mem hi1
    have hdc : l.drop j = l[j] :: l.drop (j + 1) := List.drop_eq_getElem_cons hi1
    generalize l[j] = c at h1c hmc hdc
    have hps := (hall _ hmc).2.2.2.1
    obtain ⟨g, ps, bd⟩ := c
    obtain ⟨o1, o2, o3, o4⟩ := hl.all _ hmc
    dsimp only at o1 o2 o3 o4 hps
    rw [hdc] at hwj
    simp only [bodiesE] at hwj
    have hx := cs_Wrong (arOf l) bd ps o4 (by omega)
    obtain ⟨E, hE⟩ : ∃ E, E = bd.wrong (arOf l) ps 0 := ⟨_, rfl⟩
    rw [← hE] at hwj hx
    obtain ⟨xk, xn, xa, xb, xv, xx, xc⟩ := bd
    refine AWp.skip ?_
    repeat (first | refine AWp.seq ?_ | refine AWp.block ?_)
    apply AWp.reg [] []
    · conv => lhs; simp [hC, Fn.row, Tm.row, Tm.rows_eq, Cs.rows_eq, h1c, q1, q2]
    · (repeat' apply And.intro) <;> first | omega | assumption | trivial | (simp [inI, maxLen]; done) | (simp [inI, maxLen]; omega)
    repeat (first | refine AWp.seq ?_ | refine AWp.block ?_)
    apply AWp.reg [] [.c [(1000, 19)] [.mp 1000, tmAV (.mk xk xn xa xb xv xx xc), strsAV ps, .d (.int 0)] [(1000, wrObj (arOf l))] (.d (.int E)) [(1000, wrObj (arOf l))]]
    · conv => lhs; simp [hC, Fn.row, Tm.row, Tm.rows_eq, Cs.rows_eq, h1c, q1, q2]
    · (repeat' apply And.intro) <;> first | omega | assumption | trivial | (simp [inI, maxLen]; done) | (simp [inI, maxLen]; omega)
    by_cases q8 : E = 0
    · repeat (first | refine AWp.seq ?_ | refine AWp.block ?_)
      apply AWp.reg [] []
      · conv => lhs; simp [hC, Fn.row, Tm.row, Tm.rows_eq, Cs.rows_eq, h1c, q1, q2, q8]
      · (repeat' apply And.intro) <;> first | omega | assumption | trivial | (simp [inI, maxLen]; done) | (simp [inI, maxLen]; omega)
      repeat (first | refine AWp.seq ?_ | refine AWp.block ?_)
      refine AWp.cond rfl (fun hc => ?_) (fun hc => ?_)
      · cases hc
      refine AWp.skip ?_
      rw [if_neg (show ¬ (E ≠ 0) by omega)] at hwj
      repeat (first | refine AWp.seq ?_ | refine AWp.block ?_)
      apply AWp.reg [] []
      · conv => lhs; simp [hC, Fn.row, Tm.row, Tm.rows_eq, Cs.rows_eq, h1c, q1, q2, q8]
      · (repeat' apply And.intro) <;> first | omega | assumption | trivial | (simp [inI, maxLen]; done) | (simp [inI, maxLen]; omega)
      refine ⟨⟨j + 1, hi1, hwj⟩, by simp; omega, ?_⟩
      dsimp only
      exact Le.sub (by simp [hC]) (by simp [nmObj])
    repeat (first | refine AWp.seq ?_ | refine AWp.block ?_)
    apply AWp.reg [] []
    · conv => lhs; simp [hC, Fn.row, Tm.row, Tm.rows_eq, Cs.rows_eq, h1c, q1, q2, q8]
    · (repeat' apply And.intro) <;> first | omega | assumption | trivial | (simp [inI, maxLen]; done) | (simp [inI, maxLen]; omega)
    repeat (first | refine AWp.seq ?_ | refine AWp.block ?_)
    refine AWp.cond rfl (fun hc => ?_) (fun hc => ?_)
    rotate_left
    · cases hc
    repeat (first | refine AWp.seq ?_ | refine AWp.block ?_)
    apply AWp.reg [] []
    · conv => lhs; simp [hC, Fn.row, Tm.row, Tm.rows_eq, Cs.rows_eq, h1c, q1, q2, q8]
    · (repeat' apply And.intro) <;> first | omega | assumption | trivial | (simp [inI, maxLen]; done) | (simp [inI, maxLen]; omega)
    refine AWp.ret ?_
    rw [if_pos (by omega)] at hwj
    try dsimp only [thenQ, blockQ]
    apply endQ.ret
    · rfl
    · conv => lhs; simp [resAV, Tryd.results11]
    · rw [checkE, if_neg hlen, hwi, if_neg (by omega), hwj]; rfl
  have hi1 : j = l.length := by have := of_decide_eq_false hcj; omega
  subst hi1
  clear hcj
  rw [List.drop_length] at hwj
  simp only [bodiesE] at hwj
  refine AWp.exit ?_
  repeat (first | refine AWp.seq ?_ | refine AWp.block ?_)
  apply AWp.reg [] []
  · conv => lhs; simp [hC, Fn.row, Tm.row, Tm.rows_eq, Cs.rows_eq, q1, q2]
  · (repeat' apply And.intro) <;> first | omega | assumption | trivial | (simp [inI, maxLen]; done) | (simp [inI, maxLen]; omega)
  refine AWp.ret ?_
  try dsimp only [thenQ, blockQ]
  apply endQ.ret
  · rfl
  · conv => lhs; simp [resAV, Tryd.results11]
  · rw [checkE, if_neg hlen, hwi, if_neg (by omega), hwj]; rfl

end Go.Proofs.YtialccgjbanmcaaDoor
