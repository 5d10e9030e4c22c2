/- (*scope.looker).term, by the abstract machine. Printed by walk_term.py. -/
import Derived.Test.YtialccgjbanmcaaWrongB
namespace Go.Proofs.Ytialccgjbanmcaa
open Go.RowKit
attribute [local simp] runD mkRc dstOk guardOk opEff opEff0 effOp pureOp callOp zEff evA constAV frGet memGet startAS frOf isGoCall idIn AS.after nextR opnIds objIds AV.ids idsL AObj.ids frNo memNo opnAny isAny mkVal rdCells wrCells fldAddr idxAddr srcRows litRows toD1 toDs setAt sliceAV optI partAV bldAV fillAV binAV binI AV.cells callEff calleeOf frKill memKill AV.kill AObj.kill AV.has AV.hasL Op.operands Call.operands keepF keepM viewIds cChk renOf moGet moWs moQ cEff moLike moHave AV.ren renL AObj.ren AObj.like kept startC moMem AV.frz frz1 frzL frSub memSub frzs AS.frz frFrz memFrz AObj.frz takeMap takeLen bleF Nat.ble_eq memAny objAny mapOp D.keyOk rowAV valRow extOp wrapOp phO
set_option linter.unusedVariables false
set_option linter.unusedSimpArgs false

abbrev lkMo (f : Arity) : Mo := [(1001, lkObj), (1002, fnsObj (arD f))]
def CasesSaid (f : Arity) (N : Nat) : Prop := ∀ (l : List Cs) (names : List ByteArray) (deep : Int), Cs.szs l < N → (∀ c ∈ l, c.Ok) → l.length ≤ 925904528652 → 0 ≤ deep → deep ≤ 24 → (names.length : Int) ≤ 1048576 + 8 * deep →
  CSpec Try.prog 62 [.ptr 1001 0, .d (.sl (l.map Cs.row)), strsAV names, .d (.int deep)] (lkMo f) (.d (.int (if l.length = 0 ∨ 5 < l.length then 5 else Cs.wrongs f names deep [] l))) (lkMo f)
def TermSaid (f : Arity) (N : Nat) : Prop := ∀ (t : Tm) (names : List ByteArray) (deep : Int), t.sz < N → t.Ok → 0 ≤ deep → deep ≤ 25 → (names.length : Int) ≤ 1048576 + 8 * deep →
  CSpec Try.prog 51 [.ptr 1001 0, .d (.ptr t.row), strsAV names, .d (.int deep)] (lkMo f) (.d (.int (t.wrong f names deep))) (lkMo f)

set_option maxRecDepth 20000 in
set_option maxHeartbeats 16000000 in
theorem term_step (f : Arity) (N : Nat) (ih : TermSaid f N) (ihc : CasesSaid f N) : TermSaid f (N + 1) := by
  intro t names deep hN hO hd0 hd1 hnl
  obtain ⟨k, n, a, b, vs, xs, cs⟩ := t
  obtain ⟨o1, o2, o3, o4, o5⟩ := hO.vars
  obtain ⟨A, hA⟩ : ∃ A : Int, (xs.length : Int) = A := ⟨_, rfl⟩
  obtain ⟨C, hC⟩ : ∃ C : Int, (cs.length : Int) = C := ⟨_, rfl⟩
  obtain ⟨na, hN0⟩ : ∃ na : Nat, xs.length = na := ⟨_, rfl⟩
  obtain ⟨nc, hC0⟩ : ∃ nc : Nat, cs.length = nc := ⟨_, rfl⟩
  have hA1 : A = na := by omega
  have hC1 : C = nc := by omega
  have hCt := sp_Contains names a (by omega)
  have hNm := sp_Name a (by omega)
  refine CSpec.of Try.func51 rfl rfl (Nat.le_of_ble_eq_true rfl) ?_
  show AWp _ _ (endC _ Try.f51 _ _) (startC 249 _ _)
  repeat (first | refine AWp.seq ?_ | refine AWp.block ?_)
  apply AWp.reg [] []
  · conv => lhs; simp [hA, hC, lkObj, Tm.row, Tm.rows_eq, Cs.rows_eq, D.aget, D.aput, D.adel, D.keq]
  · (repeat' apply And.intro) <;> first | omega | assumption | trivial | (simp [inI, maxLen]; done) | (simp [inI, maxLen]; omega)
  by_cases hdeep : 24 < deep
  · repeat (first | refine AWp.seq ?_ | refine AWp.block ?_)
    apply AWp.reg [] []
    · conv => lhs; simp [hA, hC, lkObj, Tm.row, Tm.rows_eq, Cs.rows_eq, D.aget, D.aput, D.adel, D.keq, hdeep]
    · (repeat' apply And.intro) <;> first | omega | assumption | trivial | (simp [inI, maxLen]; done) | (simp [inI, maxLen]; omega)
    repeat (first | refine AWp.seq ?_ | refine AWp.block ?_)
    refine AWp.cond rfl (fun hc => ?_) (fun hc => ?_)
    rotate_left
    · cases hc
    repeat (first | refine AWp.seq ?_ | refine AWp.block ?_)
    apply AWp.reg [] []
    · conv => lhs; simp [hA, hC, lkObj, Tm.row, Tm.rows_eq, Cs.rows_eq, D.aget, D.aput, D.adel, D.keq, hdeep]
    · (repeat' apply And.intro) <;> first | omega | assumption | trivial | (simp [inI, maxLen]; done) | (simp [inI, maxLen]; omega)
    refine AWp.ret ?_
    try dsimp only [thenQ, blockQ]
    apply endC.ret
    · rfl
    · conv => lhs; simp [resAV, Try.results51]
    · simp only [Tm.wrong, if_pos hdeep]; rfl
    · simp [moEnd, memGet]
  repeat (first | refine AWp.seq ?_ | refine AWp.block ?_)
  apply AWp.reg [] []
  · conv => lhs; simp [hA, hC, lkObj, Tm.row, Tm.rows_eq, Cs.rows_eq, D.aget, D.aput, D.adel, D.keq, hdeep]
  · (repeat' apply And.intro) <;> first | omega | assumption | trivial | (simp [inI, maxLen]; done) | (simp [inI, maxLen]; omega)
  repeat (first | refine AWp.seq ?_ | refine AWp.block ?_)
  refine AWp.cond rfl (fun hc => ?_) (fun hc => ?_)
  · cases hc
  refine AWp.skip ?_
  refine AWp.seqJP4 (¬ (k < 1 ∨ 7 < k) ∧ manyB k na nc = false ∧ headE f k n a names na = 0) ⟨249, [(0, .ptr 1001 0), (1, .d (.ptr (Tm.mk k n a b vs xs cs).row)), (2, strsAV names), (3, .d (.int deep))], [(1001, some lkObj), (1002, some (fnsObj (arD f)))]⟩ (fun hφ => ?_) (fun W hW => ?_)
  rotate_left
  · by_cases hk : 1 ≤ k ∧ k ≤ 7
    rotate_left
    · have z1 : ¬ (k = 1) := by omega
      have y1 : ¬ ((1 : Int) = k) := by omega
      have z2 : ¬ (k = 2) := by omega
      have y2 : ¬ ((2 : Int) = k) := by omega
      have z5 : ¬ (k = 5) := by omega
      have y5 : ¬ ((5 : Int) = k) := by omega
      have z6 : ¬ (k = 6) := by omega
      have y6 : ¬ ((6 : Int) = k) := by omega
      have z7 : ¬ (k = 7) := by omega
      have y7 : ¬ ((7 : Int) = k) := by omega
      have hkk : k < 1 ∨ 7 < k := by omega
      repeat (first | refine AWp.seq ?_ | refine AWp.block ?_)
      apply AWp.reg [] []
      · conv => lhs; simp [hA, hC, lkObj, Tm.row, Tm.rows_eq, Cs.rows_eq, D.aget, D.aput, D.adel, D.keq, z1, z2, z5, z6, z7, y1, y2, y5, y6, y7, hdeep]
      · (repeat' apply And.intro) <;> first | omega | assumption | trivial | (simp [inI, maxLen]; done) | (simp [inI, maxLen]; omega)
      repeat (first | refine AWp.seq ?_ | refine AWp.block ?_)
      apply AWp.reg [] []
      · conv => lhs; simp [hA, hC, lkObj, Tm.row, Tm.rows_eq, Cs.rows_eq, D.aget, D.aput, D.adel, D.keq, z1, z2, z5, z6, z7, y1, y2, y5, y6, y7, hdeep]
      · (repeat' apply And.intro) <;> first | omega | assumption | trivial | (simp [inI, maxLen]; done) | (simp [inI, maxLen]; omega)
      by_cases q2 : k < 1
      · repeat (first | refine AWp.seq ?_ | refine AWp.block ?_)
        apply AWp.reg [] []
        · conv => lhs; simp [hA, hC, lkObj, Tm.row, Tm.rows_eq, Cs.rows_eq, D.aget, D.aput, D.adel, D.keq, z1, z2, z5, z6, z7, y1, y2, y5, y6, y7, hdeep, q2]
        · (repeat' apply And.intro) <;> first | omega | assumption | trivial | (simp [inI, maxLen]; done) | (simp [inI, maxLen]; omega)
        repeat (first | refine AWp.seq ?_ | refine AWp.block ?_)
        refine AWp.cond rfl (fun hc => ?_) (fun hc => ?_)
        rotate_left
        · cases hc
        repeat (first | refine AWp.seq ?_ | refine AWp.block ?_)
        apply AWp.reg [] []
        · conv => lhs; simp [hA, hC, lkObj, Tm.row, Tm.rows_eq, Cs.rows_eq, D.aget, D.aput, D.adel, D.keq, z1, z2, z5, z6, z7, y1, y2, y5, y6, y7, hdeep, q2]
        · (repeat' apply And.intro) <;> first | omega | assumption | trivial | (simp [inI, maxLen]; done) | (simp [inI, maxLen]; omega)
        refine AWp.ret ?_
        try dsimp only [thenQ, blockQ]
        apply endC.ret
        · rfl
        · conv => lhs; simp [resAV, Try.results51]
        · simp only [Tm.wrong, if_neg hdeep, if_pos hkk]; rfl
        · simp [moEnd, memGet]
      by_cases q3 : 7 < k
      · repeat (first | refine AWp.seq ?_ | refine AWp.block ?_)
        apply AWp.reg [] []
        · conv => lhs; simp [hA, hC, lkObj, Tm.row, Tm.rows_eq, Cs.rows_eq, D.aget, D.aput, D.adel, D.keq, z1, z2, z5, z6, z7, y1, y2, y5, y6, y7, hdeep, q2, q3]
        · (repeat' apply And.intro) <;> first | omega | assumption | trivial | (simp [inI, maxLen]; done) | (simp [inI, maxLen]; omega)
        repeat (first | refine AWp.seq ?_ | refine AWp.block ?_)
        refine AWp.cond rfl (fun hc => ?_) (fun hc => ?_)
        rotate_left
        · cases hc
        repeat (first | refine AWp.seq ?_ | refine AWp.block ?_)
        apply AWp.reg [] []
        · conv => lhs; simp [hA, hC, lkObj, Tm.row, Tm.rows_eq, Cs.rows_eq, D.aget, D.aput, D.adel, D.keq, z1, z2, z5, z6, z7, y1, y2, y5, y6, y7, hdeep, q2, q3]
        · (repeat' apply And.intro) <;> first | omega | assumption | trivial | (simp [inI, maxLen]; done) | (simp [inI, maxLen]; omega)
        refine AWp.ret ?_
        try dsimp only [thenQ, blockQ]
        apply endC.ret
        · rfl
        · conv => lhs; simp [resAV, Try.results51]
        · simp only [Tm.wrong, if_neg hdeep, if_pos hkk]; rfl
        · simp [moEnd, memGet]
      exfalso; omega
    have hkk : ¬ (k < 1 ∨ 7 < k) := by omega
    have hk : k = 1 ∨ k = 2 ∨ k = 3 ∨ k = 4 ∨ k = 5 ∨ k = 6 ∨ k = 7 := by omega
    rcases hk with rfl | rfl | rfl | rfl | rfl | rfl | rfl
    · repeat (first | refine AWp.seq ?_ | refine AWp.block ?_)
      apply AWp.reg [] []
      · conv => lhs; simp [hA, hC, lkObj, Tm.row, Tm.rows_eq, Cs.rows_eq, D.aget, D.aput, D.adel, D.keq, hdeep]
      · (repeat' apply And.intro) <;> first | omega | assumption | trivial | (simp [inI, maxLen]; done) | (simp [inI, maxLen]; omega)
      repeat (first | refine AWp.seq ?_ | refine AWp.block ?_)
      apply AWp.reg [] []
      · conv => lhs; simp [hA, hC, lkObj, Tm.row, Tm.rows_eq, Cs.rows_eq, D.aget, D.aput, D.adel, D.keq, hdeep]
      · (repeat' apply And.intro) <;> first | omega | assumption | trivial | (simp [inI, maxLen]; done) | (simp [inI, maxLen]; omega)
      repeat (first | refine AWp.seq ?_ | refine AWp.block ?_)
      apply AWp.reg [] []
      · conv => lhs; simp [hA, hC, lkObj, Tm.row, Tm.rows_eq, Cs.rows_eq, D.aget, D.aput, D.adel, D.keq, hdeep]
      · (repeat' apply And.intro) <;> first | omega | assumption | trivial | (simp [inI, maxLen]; done) | (simp [inI, maxLen]; omega)
      repeat (first | refine AWp.seq ?_ | refine AWp.block ?_)
      refine AWp.cond rfl (fun hc => ?_) (fun hc => ?_)
      · cases hc
      by_cases q4 : A = 0
      · by_cases q5 : 0 < C
        · repeat (first | refine AWp.seq ?_ | refine AWp.block ?_)
          apply AWp.reg [] []
          · conv => lhs; simp [hA, hC, lkObj, Tm.row, Tm.rows_eq, Cs.rows_eq, D.aget, D.aput, D.adel, D.keq, hdeep, q4, q5]
          · (repeat' apply And.intro) <;> first | omega | assumption | trivial | (simp [inI, maxLen]; done) | (simp [inI, maxLen]; omega)
          repeat (first | refine AWp.seq ?_ | refine AWp.block ?_)
          refine AWp.cond rfl (fun hc => ?_) (fun hc => ?_)
          rotate_left
          · cases hc
          repeat (first | refine AWp.seq ?_ | refine AWp.block ?_)
          apply AWp.reg [] []
          · conv => lhs; simp [hA, hC, lkObj, Tm.row, Tm.rows_eq, Cs.rows_eq, D.aget, D.aput, D.adel, D.keq, hdeep, q4, q5]
          · (repeat' apply And.intro) <;> first | omega | assumption | trivial | (simp [inI, maxLen]; done) | (simp [inI, maxLen]; omega)
          refine AWp.ret ?_
          try dsimp only [thenQ, blockQ]
          apply endC.ret
          · rfl
          · conv => lhs; simp [resAV, Try.results51]
          · simp only [Tm.wrong, if_neg hdeep, if_neg hkk, hN0, hC0, if_pos (show manyB 1 na nc = true by simp [manyB]; omega)]; rfl
          · simp [moEnd, memGet]
        repeat (first | refine AWp.seq ?_ | refine AWp.block ?_)
        apply AWp.reg [] []
        · conv => lhs; simp [hA, hC, lkObj, Tm.row, Tm.rows_eq, Cs.rows_eq, D.aget, D.aput, D.adel, D.keq, hdeep, q4, q5]
        · (repeat' apply And.intro) <;> first | omega | assumption | trivial | (simp [inI, maxLen]; done) | (simp [inI, maxLen]; omega)
        repeat (first | refine AWp.seq ?_ | refine AWp.block ?_)
        refine AWp.cond rfl (fun hc => ?_) (fun hc => ?_)
        · cases hc
        cases q6 : hasB names a with
        | true =>
          rw [q6] at hCt
          repeat (first | refine AWp.seq ?_ | refine AWp.block ?_)
          apply AWp.reg [] [.p (fun _ => .d (.bool true)) none]
          · conv => lhs; simp [hA, hC, lkObj, Tm.row, Tm.rows_eq, Cs.rows_eq, D.aget, D.aput, D.adel, D.keq, hdeep, q4, q5]
          · (repeat' apply And.intro) <;> first | omega | assumption | trivial | (simp [inI, maxLen]; done) | (simp [inI, maxLen]; omega)
          repeat (first | refine AWp.seq ?_ | refine AWp.block ?_)
          refine AWp.cond rfl (fun hc => ?_) (fun hc => ?_)
          · cases hc
          repeat (first | refine AWp.seq ?_ | refine AWp.block ?_)
          apply AWp.reg [] []
          · conv => lhs; simp [hA, hC, lkObj, Tm.row, Tm.rows_eq, Cs.rows_eq, D.aget, D.aput, D.adel, D.keq, hdeep, q4, q5]
          · (repeat' apply And.intro) <;> first | omega | assumption | trivial | (simp [inI, maxLen]; done) | (simp [inI, maxLen]; omega)
          repeat (first | refine AWp.seq ?_ | refine AWp.block ?_)
          refine AWp.cond rfl (fun hc => ?_) (fun hc => ?_)
          · cases hc
          repeat (first | refine AWp.seq ?_ | refine AWp.block ?_)
          apply AWp.reg [] []
          · conv => lhs; simp [hA, hC, lkObj, Tm.row, Tm.rows_eq, Cs.rows_eq, D.aget, D.aput, D.adel, D.keq, hdeep, q4, q5]
          · (repeat' apply And.intro) <;> first | omega | assumption | trivial | (simp [inI, maxLen]; done) | (simp [inI, maxLen]; omega)
          repeat (first | refine AWp.seq ?_ | refine AWp.block ?_)
          refine AWp.cond rfl (fun hc => ?_) (fun hc => ?_)
          · cases hc
          repeat (first | refine AWp.seq ?_ | refine AWp.block ?_)
          apply AWp.reg [] []
          · conv => lhs; simp [hA, hC, lkObj, Tm.row, Tm.rows_eq, Cs.rows_eq, D.aget, D.aput, D.adel, D.keq, hdeep, q4, q5]
          · (repeat' apply And.intro) <;> first | omega | assumption | trivial | (simp [inI, maxLen]; done) | (simp [inI, maxLen]; omega)
          repeat (first | refine AWp.seq ?_ | refine AWp.block ?_)
          refine AWp.cond rfl (fun hc => ?_) (fun hc => ?_)
          · cases hc
          repeat (first | refine AWp.seq ?_ | refine AWp.block ?_)
          apply AWp.draw [] [] mixed
          · conv => lhs; simp [hA, hC, lkObj, Tm.row, Tm.rows_eq, Cs.rows_eq, D.aget, D.aput, D.adel, D.keq, hdeep, q4, q5]
          · kernel_rfl
          · (repeat' apply And.intro) <;> first | omega | assumption | trivial | (simp [inI, maxLen]; done) | (simp [inI, maxLen]; omega)
          repeat (first | refine AWp.seq ?_ | refine AWp.block ?_)
          refine AWp.cond rfl (fun hc => ?_) (fun hc => ?_)
          · cases hc
          refine AWp.skip ?_
          repeat (first | refine AWp.seq ?_ | refine AWp.block ?_)
          apply AWp.reg [] []
          · conv => lhs; simp [hA, hC, lkObj, Tm.row, Tm.rows_eq, Cs.rows_eq, D.aget, D.aput, D.adel, D.keq, hdeep, q4, q5]
          · (repeat' apply And.intro) <;> first | omega | assumption | trivial | (simp [inI, maxLen]; done) | (simp [inI, maxLen]; omega)
          repeat (first | refine AWp.seq ?_ | refine AWp.block ?_)
          refine AWp.cond rfl (fun hc => ?_) (fun hc => ?_)
          · cases hc
          refine AWp.skip ?_
          have hm : ¬ manyB 1 na nc = true := by simp [manyB]; omega
          have hh : headE f 1 n a names na = 0 := by first | (simp [headE, hdeep, q4, q5, q6]; done) | (simp [headE, hdeep, q4, q5, q6]; omega)
          exact hW ⟨hkk, by simpa using hm, hh⟩ _ (Le.sub (by simp [Tm.row, Tm.rows_eq, Cs.rows_eq]) (by simp))
        | false =>
          rw [q6] at hCt
          repeat (first | refine AWp.seq ?_ | refine AWp.block ?_)
          apply AWp.reg [] [.p (fun _ => .d (.bool false)) none]
          · conv => lhs; simp [hA, hC, lkObj, Tm.row, Tm.rows_eq, Cs.rows_eq, D.aget, D.aput, D.adel, D.keq, hdeep, q4, q5]
          · (repeat' apply And.intro) <;> first | omega | assumption | trivial | (simp [inI, maxLen]; done) | (simp [inI, maxLen]; omega)
          repeat (first | refine AWp.seq ?_ | refine AWp.block ?_)
          refine AWp.cond rfl (fun hc => ?_) (fun hc => ?_)
          rotate_left
          · cases hc
          repeat (first | refine AWp.seq ?_ | refine AWp.block ?_)
          apply AWp.reg [] []
          · conv => lhs; simp [hA, hC, lkObj, Tm.row, Tm.rows_eq, Cs.rows_eq, D.aget, D.aput, D.adel, D.keq, hdeep, q4, q5]
          · (repeat' apply And.intro) <;> first | omega | assumption | trivial | (simp [inI, maxLen]; done) | (simp [inI, maxLen]; omega)
          refine AWp.ret ?_
          have hm : ¬ manyB 1 na nc = true := by simp [manyB]; omega
          have hh : headE f 1 n a names na = 6 := by first | (simp [headE, hdeep, q4, q5, q6]; done) | (simp [headE, hdeep, q4, q5, q6]; omega)
          try dsimp only [thenQ, blockQ]
          apply endC.ret
          · rfl
          · conv => lhs; simp [resAV, Try.results51]
          · simp only [Tm.wrong, if_neg hdeep, if_neg hkk, hN0, hC0, if_neg hm, hh]; rfl
          · simp [moEnd, memGet]
      repeat (first | refine AWp.seq ?_ | refine AWp.block ?_)
      apply AWp.reg [] []
      · conv => lhs; simp [hA, hC, lkObj, Tm.row, Tm.rows_eq, Cs.rows_eq, D.aget, D.aput, D.adel, D.keq, hdeep, q4]
      · (repeat' apply And.intro) <;> first | omega | assumption | trivial | (simp [inI, maxLen]; done) | (simp [inI, maxLen]; omega)
      repeat (first | refine AWp.seq ?_ | refine AWp.block ?_)
      refine AWp.cond rfl (fun hc => ?_) (fun hc => ?_)
      rotate_left
      · cases hc
      repeat (first | refine AWp.seq ?_ | refine AWp.block ?_)
      apply AWp.reg [] []
      · conv => lhs; simp [hA, hC, lkObj, Tm.row, Tm.rows_eq, Cs.rows_eq, D.aget, D.aput, D.adel, D.keq, hdeep, q4]
      · (repeat' apply And.intro) <;> first | omega | assumption | trivial | (simp [inI, maxLen]; done) | (simp [inI, maxLen]; omega)
      refine AWp.ret ?_
      try dsimp only [thenQ, blockQ]
      apply endC.ret
      · rfl
      · conv => lhs; simp [resAV, Try.results51]
      · simp only [Tm.wrong, if_neg hdeep, if_neg hkk, hN0, hC0, if_pos (show manyB 1 na nc = true by simp [manyB]; omega)]; rfl
      · simp [moEnd, memGet]
    · repeat (first | refine AWp.seq ?_ | refine AWp.block ?_)
      apply AWp.reg [] []
      · conv => lhs; simp [hA, hC, lkObj, Tm.row, Tm.rows_eq, Cs.rows_eq, D.aget, D.aput, D.adel, D.keq, hdeep]
      · (repeat' apply And.intro) <;> first | omega | assumption | trivial | (simp [inI, maxLen]; done) | (simp [inI, maxLen]; omega)
      repeat (first | refine AWp.seq ?_ | refine AWp.block ?_)
      apply AWp.reg [] []
      · conv => lhs; simp [hA, hC, lkObj, Tm.row, Tm.rows_eq, Cs.rows_eq, D.aget, D.aput, D.adel, D.keq, hdeep]
      · (repeat' apply And.intro) <;> first | omega | assumption | trivial | (simp [inI, maxLen]; done) | (simp [inI, maxLen]; omega)
      repeat (first | refine AWp.seq ?_ | refine AWp.block ?_)
      apply AWp.reg [] []
      · conv => lhs; simp [hA, hC, lkObj, Tm.row, Tm.rows_eq, Cs.rows_eq, D.aget, D.aput, D.adel, D.keq, hdeep]
      · (repeat' apply And.intro) <;> first | omega | assumption | trivial | (simp [inI, maxLen]; done) | (simp [inI, maxLen]; omega)
      repeat (first | refine AWp.seq ?_ | refine AWp.block ?_)
      refine AWp.cond rfl (fun hc => ?_) (fun hc => ?_)
      · cases hc
      by_cases q7 : A = 0
      · by_cases q8 : 0 < C
        · repeat (first | refine AWp.seq ?_ | refine AWp.block ?_)
          apply AWp.reg [] []
          · conv => lhs; simp [hA, hC, lkObj, Tm.row, Tm.rows_eq, Cs.rows_eq, D.aget, D.aput, D.adel, D.keq, hdeep, q7, q8]
          · (repeat' apply And.intro) <;> first | omega | assumption | trivial | (simp [inI, maxLen]; done) | (simp [inI, maxLen]; omega)
          repeat (first | refine AWp.seq ?_ | refine AWp.block ?_)
          refine AWp.cond rfl (fun hc => ?_) (fun hc => ?_)
          rotate_left
          · cases hc
          repeat (first | refine AWp.seq ?_ | refine AWp.block ?_)
          apply AWp.reg [] []
          · conv => lhs; simp [hA, hC, lkObj, Tm.row, Tm.rows_eq, Cs.rows_eq, D.aget, D.aput, D.adel, D.keq, hdeep, q7, q8]
          · (repeat' apply And.intro) <;> first | omega | assumption | trivial | (simp [inI, maxLen]; done) | (simp [inI, maxLen]; omega)
          refine AWp.ret ?_
          try dsimp only [thenQ, blockQ]
          apply endC.ret
          · rfl
          · conv => lhs; simp [resAV, Try.results51]
          · simp only [Tm.wrong, if_neg hdeep, if_neg hkk, hN0, hC0, if_pos (show manyB 2 na nc = true by simp [manyB]; omega)]; rfl
          · simp [moEnd, memGet]
        repeat (first | refine AWp.seq ?_ | refine AWp.block ?_)
        apply AWp.reg [] []
        · conv => lhs; simp [hA, hC, lkObj, Tm.row, Tm.rows_eq, Cs.rows_eq, D.aget, D.aput, D.adel, D.keq, hdeep, q7, q8]
        · (repeat' apply And.intro) <;> first | omega | assumption | trivial | (simp [inI, maxLen]; done) | (simp [inI, maxLen]; omega)
        repeat (first | refine AWp.seq ?_ | refine AWp.block ?_)
        refine AWp.cond rfl (fun hc => ?_) (fun hc => ?_)
        · cases hc
        repeat (first | refine AWp.seq ?_ | refine AWp.block ?_)
        apply AWp.reg [] []
        · conv => lhs; simp [hA, hC, lkObj, Tm.row, Tm.rows_eq, Cs.rows_eq, D.aget, D.aput, D.adel, D.keq, hdeep, q7, q8]
        · (repeat' apply And.intro) <;> first | omega | assumption | trivial | (simp [inI, maxLen]; done) | (simp [inI, maxLen]; omega)
        repeat (first | refine AWp.seq ?_ | refine AWp.block ?_)
        refine AWp.cond rfl (fun hc => ?_) (fun hc => ?_)
        · cases hc
        by_cases q9 : n < -2147483648
        · repeat (first | refine AWp.seq ?_ | refine AWp.block ?_)
          apply AWp.reg [] []
          · conv => lhs; simp [hA, hC, lkObj, Tm.row, Tm.rows_eq, Cs.rows_eq, D.aget, D.aput, D.adel, D.keq, hdeep, q7, q8, q9]
          · (repeat' apply And.intro) <;> first | omega | assumption | trivial | (simp [inI, maxLen]; done) | (simp [inI, maxLen]; omega)
          repeat (first | refine AWp.seq ?_ | refine AWp.block ?_)
          refine AWp.cond rfl (fun hc => ?_) (fun hc => ?_)
          rotate_left
          · cases hc
          refine AWp.skip ?_
          repeat (first | refine AWp.seq ?_ | refine AWp.block ?_)
          refine AWp.cond rfl (fun hc => ?_) (fun hc => ?_)
          rotate_left
          · cases hc
          repeat (first | refine AWp.seq ?_ | refine AWp.block ?_)
          apply AWp.reg [] []
          · conv => lhs; simp [hA, hC, lkObj, Tm.row, Tm.rows_eq, Cs.rows_eq, D.aget, D.aput, D.adel, D.keq, hdeep, q7, q8, q9]
          · (repeat' apply And.intro) <;> first | omega | assumption | trivial | (simp [inI, maxLen]; done) | (simp [inI, maxLen]; omega)
          refine AWp.ret ?_
          have hm : ¬ manyB 2 na nc = true := by simp [manyB]; omega
          have hh : headE f 2 n a names na = 3 := by first | (simp [headE, hdeep, q7, q8, q9]; done) | (simp [headE, hdeep, q7, q8, q9]; omega)
          try dsimp only [thenQ, blockQ]
          apply endC.ret
          · rfl
          · conv => lhs; simp [resAV, Try.results51]
          · simp only [Tm.wrong, if_neg hdeep, if_neg hkk, hN0, hC0, if_neg hm, hh]; rfl
          · simp [moEnd, memGet]
        by_cases q10 : 2147483648 ≤ n
        · repeat (first | refine AWp.seq ?_ | refine AWp.block ?_)
          apply AWp.reg [] []
          · conv => lhs; simp [hA, hC, lkObj, Tm.row, Tm.rows_eq, Cs.rows_eq, D.aget, D.aput, D.adel, D.keq, hdeep, q7, q8, q9, q10]
          · (repeat' apply And.intro) <;> first | omega | assumption | trivial | (simp [inI, maxLen]; done) | (simp [inI, maxLen]; omega)
          repeat (first | refine AWp.seq ?_ | refine AWp.block ?_)
          refine AWp.cond rfl (fun hc => ?_) (fun hc => ?_)
          rotate_left
          · cases hc
          refine AWp.skip ?_
          repeat (first | refine AWp.seq ?_ | refine AWp.block ?_)
          refine AWp.cond rfl (fun hc => ?_) (fun hc => ?_)
          rotate_left
          · cases hc
          repeat (first | refine AWp.seq ?_ | refine AWp.block ?_)
          apply AWp.reg [] []
          · conv => lhs; simp [hA, hC, lkObj, Tm.row, Tm.rows_eq, Cs.rows_eq, D.aget, D.aput, D.adel, D.keq, hdeep, q7, q8, q9, q10]
          · (repeat' apply And.intro) <;> first | omega | assumption | trivial | (simp [inI, maxLen]; done) | (simp [inI, maxLen]; omega)
          refine AWp.ret ?_
          have hm : ¬ manyB 2 na nc = true := by simp [manyB]; omega
          have hh : headE f 2 n a names na = 3 := by first | (simp [headE, hdeep, q7, q8, q9, q10]; done) | (simp [headE, hdeep, q7, q8, q9, q10]; omega)
          try dsimp only [thenQ, blockQ]
          apply endC.ret
          · rfl
          · conv => lhs; simp [resAV, Try.results51]
          · simp only [Tm.wrong, if_neg hdeep, if_neg hkk, hN0, hC0, if_neg hm, hh]; rfl
          · simp [moEnd, memGet]
        repeat (first | refine AWp.seq ?_ | refine AWp.block ?_)
        apply AWp.reg [] []
        · conv => lhs; simp [hA, hC, lkObj, Tm.row, Tm.rows_eq, Cs.rows_eq, D.aget, D.aput, D.adel, D.keq, hdeep, q7, q8, q9, q10]
        · (repeat' apply And.intro) <;> first | omega | assumption | trivial | (simp [inI, maxLen]; done) | (simp [inI, maxLen]; omega)
        repeat (first | refine AWp.seq ?_ | refine AWp.block ?_)
        refine AWp.cond rfl (fun hc => ?_) (fun hc => ?_)
        · cases hc
        repeat (first | refine AWp.seq ?_ | refine AWp.block ?_)
        apply AWp.reg [] []
        · conv => lhs; simp [hA, hC, lkObj, Tm.row, Tm.rows_eq, Cs.rows_eq, D.aget, D.aput, D.adel, D.keq, hdeep, q7, q8, q9, q10]
        · (repeat' apply And.intro) <;> first | omega | assumption | trivial | (simp [inI, maxLen]; done) | (simp [inI, maxLen]; omega)
        repeat (first | refine AWp.seq ?_ | refine AWp.block ?_)
        refine AWp.cond rfl (fun hc => ?_) (fun hc => ?_)
        · cases hc
        repeat (first | refine AWp.seq ?_ | refine AWp.block ?_)
        apply AWp.reg [] []
        · conv => lhs; simp [hA, hC, lkObj, Tm.row, Tm.rows_eq, Cs.rows_eq, D.aget, D.aput, D.adel, D.keq, hdeep, q7, q8, q9, q10]
        · (repeat' apply And.intro) <;> first | omega | assumption | trivial | (simp [inI, maxLen]; done) | (simp [inI, maxLen]; omega)
        repeat (first | refine AWp.seq ?_ | refine AWp.block ?_)
        refine AWp.cond rfl (fun hc => ?_) (fun hc => ?_)
        · cases hc
        repeat (first | refine AWp.seq ?_ | refine AWp.block ?_)
        apply AWp.draw [] [] mixed
        · conv => lhs; simp [hA, hC, lkObj, Tm.row, Tm.rows_eq, Cs.rows_eq, D.aget, D.aput, D.adel, D.keq, hdeep, q7, q8, q9, q10]
        · kernel_rfl
        · (repeat' apply And.intro) <;> first | omega | assumption | trivial | (simp [inI, maxLen]; done) | (simp [inI, maxLen]; omega)
        repeat (first | refine AWp.seq ?_ | refine AWp.block ?_)
        refine AWp.cond rfl (fun hc => ?_) (fun hc => ?_)
        · cases hc
        refine AWp.skip ?_
        repeat (first | refine AWp.seq ?_ | refine AWp.block ?_)
        apply AWp.reg [] []
        · conv => lhs; simp [hA, hC, lkObj, Tm.row, Tm.rows_eq, Cs.rows_eq, D.aget, D.aput, D.adel, D.keq, hdeep, q7, q8, q9, q10]
        · (repeat' apply And.intro) <;> first | omega | assumption | trivial | (simp [inI, maxLen]; done) | (simp [inI, maxLen]; omega)
        repeat (first | refine AWp.seq ?_ | refine AWp.block ?_)
        refine AWp.cond rfl (fun hc => ?_) (fun hc => ?_)
        · cases hc
        refine AWp.skip ?_
        have hm : ¬ manyB 2 na nc = true := by simp [manyB]; omega
        have hh : headE f 2 n a names na = 0 := by first | (simp [headE, hdeep, q7, q8, q9, q10]; done) | (simp [headE, hdeep, q7, q8, q9, q10]; omega)
        exact hW ⟨hkk, by simpa using hm, hh⟩ _ (Le.sub (by simp [Tm.row, Tm.rows_eq, Cs.rows_eq]) (by simp))
      repeat (first | refine AWp.seq ?_ | refine AWp.block ?_)
      apply AWp.reg [] []
      · conv => lhs; simp [hA, hC, lkObj, Tm.row, Tm.rows_eq, Cs.rows_eq, D.aget, D.aput, D.adel, D.keq, hdeep, q7]
      · (repeat' apply And.intro) <;> first | omega | assumption | trivial | (simp [inI, maxLen]; done) | (simp [inI, maxLen]; omega)
      repeat (first | refine AWp.seq ?_ | refine AWp.block ?_)
      refine AWp.cond rfl (fun hc => ?_) (fun hc => ?_)
      rotate_left
      · cases hc
      repeat (first | refine AWp.seq ?_ | refine AWp.block ?_)
      apply AWp.reg [] []
      · conv => lhs; simp [hA, hC, lkObj, Tm.row, Tm.rows_eq, Cs.rows_eq, D.aget, D.aput, D.adel, D.keq, hdeep, q7]
      · (repeat' apply And.intro) <;> first | omega | assumption | trivial | (simp [inI, maxLen]; done) | (simp [inI, maxLen]; omega)
      refine AWp.ret ?_
      try dsimp only [thenQ, blockQ]
      apply endC.ret
      · rfl
      · conv => lhs; simp [resAV, Try.results51]
      · simp only [Tm.wrong, if_neg hdeep, if_neg hkk, hN0, hC0, if_pos (show manyB 2 na nc = true by simp [manyB]; omega)]; rfl
      · simp [moEnd, memGet]
    · repeat (first | refine AWp.seq ?_ | refine AWp.block ?_)
      apply AWp.reg [] []
      · conv => lhs; simp [hA, hC, lkObj, Tm.row, Tm.rows_eq, Cs.rows_eq, D.aget, D.aput, D.adel, D.keq, hdeep]
      · (repeat' apply And.intro) <;> first | omega | assumption | trivial | (simp [inI, maxLen]; done) | (simp [inI, maxLen]; omega)
      repeat (first | refine AWp.seq ?_ | refine AWp.block ?_)
      apply AWp.reg [] []
      · conv => lhs; simp [hA, hC, lkObj, Tm.row, Tm.rows_eq, Cs.rows_eq, D.aget, D.aput, D.adel, D.keq, hdeep]
      · (repeat' apply And.intro) <;> first | omega | assumption | trivial | (simp [inI, maxLen]; done) | (simp [inI, maxLen]; omega)
      repeat (first | refine AWp.seq ?_ | refine AWp.block ?_)
      apply AWp.reg [] []
      · conv => lhs; simp [hA, hC, lkObj, Tm.row, Tm.rows_eq, Cs.rows_eq, D.aget, D.aput, D.adel, D.keq, hdeep]
      · (repeat' apply And.intro) <;> first | omega | assumption | trivial | (simp [inI, maxLen]; done) | (simp [inI, maxLen]; omega)
      repeat (first | refine AWp.seq ?_ | refine AWp.block ?_)
      refine AWp.cond rfl (fun hc => ?_) (fun hc => ?_)
      · cases hc
      by_cases q11 : 6 < A
      · repeat (first | refine AWp.seq ?_ | refine AWp.block ?_)
        apply AWp.reg [] []
        · conv => lhs; simp [hA, hC, lkObj, Tm.row, Tm.rows_eq, Cs.rows_eq, D.aget, D.aput, D.adel, D.keq, hdeep, q11]
        · (repeat' apply And.intro) <;> first | omega | assumption | trivial | (simp [inI, maxLen]; done) | (simp [inI, maxLen]; omega)
        repeat (first | refine AWp.seq ?_ | refine AWp.block ?_)
        refine AWp.cond rfl (fun hc => ?_) (fun hc => ?_)
        rotate_left
        · cases hc
        repeat (first | refine AWp.seq ?_ | refine AWp.block ?_)
        apply AWp.reg [] []
        · conv => lhs; simp [hA, hC, lkObj, Tm.row, Tm.rows_eq, Cs.rows_eq, D.aget, D.aput, D.adel, D.keq, hdeep, q11]
        · (repeat' apply And.intro) <;> first | omega | assumption | trivial | (simp [inI, maxLen]; done) | (simp [inI, maxLen]; omega)
        refine AWp.ret ?_
        try dsimp only [thenQ, blockQ]
        apply endC.ret
        · rfl
        · conv => lhs; simp [resAV, Try.results51]
        · simp only [Tm.wrong, if_neg hdeep, if_neg hkk, hN0, hC0, if_pos (show manyB 3 na nc = true by simp [manyB]; omega)]; rfl
        · simp [moEnd, memGet]
      by_cases q12 : 0 < C
      · repeat (first | refine AWp.seq ?_ | refine AWp.block ?_)
        apply AWp.reg [] []
        · conv => lhs; simp [hA, hC, lkObj, Tm.row, Tm.rows_eq, Cs.rows_eq, D.aget, D.aput, D.adel, D.keq, hdeep, q11, q12]
        · (repeat' apply And.intro) <;> first | omega | assumption | trivial | (simp [inI, maxLen]; done) | (simp [inI, maxLen]; omega)
        repeat (first | refine AWp.seq ?_ | refine AWp.block ?_)
        refine AWp.cond rfl (fun hc => ?_) (fun hc => ?_)
        rotate_left
        · cases hc
        repeat (first | refine AWp.seq ?_ | refine AWp.block ?_)
        apply AWp.reg [] []
        · conv => lhs; simp [hA, hC, lkObj, Tm.row, Tm.rows_eq, Cs.rows_eq, D.aget, D.aput, D.adel, D.keq, hdeep, q11, q12]
        · (repeat' apply And.intro) <;> first | omega | assumption | trivial | (simp [inI, maxLen]; done) | (simp [inI, maxLen]; omega)
        refine AWp.ret ?_
        try dsimp only [thenQ, blockQ]
        apply endC.ret
        · rfl
        · conv => lhs; simp [resAV, Try.results51]
        · simp only [Tm.wrong, if_neg hdeep, if_neg hkk, hN0, hC0, if_pos (show manyB 3 na nc = true by simp [manyB]; omega)]; rfl
        · simp [moEnd, memGet]
      repeat (first | refine AWp.seq ?_ | refine AWp.block ?_)
      apply AWp.reg [] []
      · conv => lhs; simp [hA, hC, lkObj, Tm.row, Tm.rows_eq, Cs.rows_eq, D.aget, D.aput, D.adel, D.keq, hdeep, q11, q12]
      · (repeat' apply And.intro) <;> first | omega | assumption | trivial | (simp [inI, maxLen]; done) | (simp [inI, maxLen]; omega)
      repeat (first | refine AWp.seq ?_ | refine AWp.block ?_)
      refine AWp.cond rfl (fun hc => ?_) (fun hc => ?_)
      · cases hc
      repeat (first | refine AWp.seq ?_ | refine AWp.block ?_)
      apply AWp.reg [] []
      · conv => lhs; simp [hA, hC, lkObj, Tm.row, Tm.rows_eq, Cs.rows_eq, D.aget, D.aput, D.adel, D.keq, hdeep, q11, q12]
      · (repeat' apply And.intro) <;> first | omega | assumption | trivial | (simp [inI, maxLen]; done) | (simp [inI, maxLen]; omega)
      repeat (first | refine AWp.seq ?_ | refine AWp.block ?_)
      refine AWp.cond rfl (fun hc => ?_) (fun hc => ?_)
      · cases hc
      repeat (first | refine AWp.seq ?_ | refine AWp.block ?_)
      apply AWp.reg [] []
      · conv => lhs; simp [hA, hC, lkObj, Tm.row, Tm.rows_eq, Cs.rows_eq, D.aget, D.aput, D.adel, D.keq, hdeep, q11, q12]
      · (repeat' apply And.intro) <;> first | omega | assumption | trivial | (simp [inI, maxLen]; done) | (simp [inI, maxLen]; omega)
      repeat (first | refine AWp.seq ?_ | refine AWp.block ?_)
      refine AWp.cond rfl (fun hc => ?_) (fun hc => ?_)
      · cases hc
      by_cases q13 : n < 0
      · repeat (first | refine AWp.seq ?_ | refine AWp.block ?_)
        apply AWp.reg [] []
        · conv => lhs; simp [hA, hC, lkObj, Tm.row, Tm.rows_eq, Cs.rows_eq, D.aget, D.aput, D.adel, D.keq, hdeep, q11, q12, q13]
        · (repeat' apply And.intro) <;> first | omega | assumption | trivial | (simp [inI, maxLen]; done) | (simp [inI, maxLen]; omega)
        repeat (first | refine AWp.seq ?_ | refine AWp.block ?_)
        refine AWp.cond rfl (fun hc => ?_) (fun hc => ?_)
        rotate_left
        · cases hc
        repeat (first | refine AWp.seq ?_ | refine AWp.block ?_)
        apply AWp.reg [] []
        · conv => lhs; simp [hA, hC, lkObj, Tm.row, Tm.rows_eq, Cs.rows_eq, D.aget, D.aput, D.adel, D.keq, hdeep, q11, q12, q13]
        · (repeat' apply And.intro) <;> first | omega | assumption | trivial | (simp [inI, maxLen]; done) | (simp [inI, maxLen]; omega)
        refine AWp.ret ?_
        have hm : ¬ manyB 3 na nc = true := by simp [manyB]; omega
        have hh : headE f 3 n a names na = 3 := by first | (simp [headE, hdeep, q11, q12, q13]; done) | (simp [headE, hdeep, q11, q12, q13]; omega)
        try dsimp only [thenQ, blockQ]
        apply endC.ret
        · rfl
        · conv => lhs; simp [resAV, Try.results51]
        · simp only [Tm.wrong, if_neg hdeep, if_neg hkk, hN0, hC0, if_neg hm, hh]; rfl
        · simp [moEnd, memGet]
      by_cases q14 : 9 < n
      · repeat (first | refine AWp.seq ?_ | refine AWp.block ?_)
        apply AWp.reg [] []
        · conv => lhs; simp [hA, hC, lkObj, Tm.row, Tm.rows_eq, Cs.rows_eq, D.aget, D.aput, D.adel, D.keq, hdeep, q11, q12, q13, q14]
        · (repeat' apply And.intro) <;> first | omega | assumption | trivial | (simp [inI, maxLen]; done) | (simp [inI, maxLen]; omega)
        repeat (first | refine AWp.seq ?_ | refine AWp.block ?_)
        refine AWp.cond rfl (fun hc => ?_) (fun hc => ?_)
        rotate_left
        · cases hc
        repeat (first | refine AWp.seq ?_ | refine AWp.block ?_)
        apply AWp.reg [] []
        · conv => lhs; simp [hA, hC, lkObj, Tm.row, Tm.rows_eq, Cs.rows_eq, D.aget, D.aput, D.adel, D.keq, hdeep, q11, q12, q13, q14]
        · (repeat' apply And.intro) <;> first | omega | assumption | trivial | (simp [inI, maxLen]; done) | (simp [inI, maxLen]; omega)
        refine AWp.ret ?_
        have hm : ¬ manyB 3 na nc = true := by simp [manyB]; omega
        have hh : headE f 3 n a names na = 3 := by first | (simp [headE, hdeep, q11, q12, q13, q14]; done) | (simp [headE, hdeep, q11, q12, q13, q14]; omega)
        try dsimp only [thenQ, blockQ]
        apply endC.ret
        · rfl
        · conv => lhs; simp [resAV, Try.results51]
        · simp only [Tm.wrong, if_neg hdeep, if_neg hkk, hN0, hC0, if_neg hm, hh]; rfl
        · simp [moEnd, memGet]
      repeat (first | refine AWp.seq ?_ | refine AWp.block ?_)
      apply AWp.reg [] []
      · conv => lhs; simp [hA, hC, lkObj, Tm.row, Tm.rows_eq, Cs.rows_eq, D.aget, D.aput, D.adel, D.keq, hdeep, q11, q12, q13, q14]
      · (repeat' apply And.intro) <;> first | omega | assumption | trivial | (simp [inI, maxLen]; done) | (simp [inI, maxLen]; omega)
      repeat (first | refine AWp.seq ?_ | refine AWp.block ?_)
      refine AWp.cond rfl (fun hc => ?_) (fun hc => ?_)
      · cases hc
      repeat (first | refine AWp.seq ?_ | refine AWp.block ?_)
      apply AWp.reg [] []
      · conv => lhs; simp [hA, hC, lkObj, Tm.row, Tm.rows_eq, Cs.rows_eq, D.aget, D.aput, D.adel, D.keq, hdeep, q11, q12, q13, q14]
      · (repeat' apply And.intro) <;> first | omega | assumption | trivial | (simp [inI, maxLen]; done) | (simp [inI, maxLen]; omega)
      repeat (first | refine AWp.seq ?_ | refine AWp.block ?_)
      refine AWp.cond rfl (fun hc => ?_) (fun hc => ?_)
      · cases hc
      repeat (first | refine AWp.seq ?_ | refine AWp.block ?_)
      apply AWp.draw [] [] mixed
      · conv => lhs; simp [hA, hC, lkObj, Tm.row, Tm.rows_eq, Cs.rows_eq, D.aget, D.aput, D.adel, D.keq, hdeep, q11, q12, q13, q14]
      · kernel_rfl
      · (repeat' apply And.intro) <;> first | omega | assumption | trivial | (simp [inI, maxLen]; done) | (simp [inI, maxLen]; omega)
      repeat (first | refine AWp.seq ?_ | refine AWp.block ?_)
      refine AWp.cond rfl (fun hc => ?_) (fun hc => ?_)
      · cases hc
      refine AWp.skip ?_
      repeat (first | refine AWp.seq ?_ | refine AWp.block ?_)
      apply AWp.reg [] []
      · conv => lhs; simp [hA, hC, lkObj, Tm.row, Tm.rows_eq, Cs.rows_eq, D.aget, D.aput, D.adel, D.keq, hdeep, q11, q12, q13, q14]
      · (repeat' apply And.intro) <;> first | omega | assumption | trivial | (simp [inI, maxLen]; done) | (simp [inI, maxLen]; omega)
      repeat (first | refine AWp.seq ?_ | refine AWp.block ?_)
      refine AWp.cond rfl (fun hc => ?_) (fun hc => ?_)
      · cases hc
      refine AWp.skip ?_
      have hm : ¬ manyB 3 na nc = true := by simp [manyB]; omega
      have hh : headE f 3 n a names na = 0 := by first | (simp [headE, hdeep, q11, q12, q13, q14]; done) | (simp [headE, hdeep, q11, q12, q13, q14]; omega)
      exact hW ⟨hkk, by simpa using hm, hh⟩ _ (Le.sub (by simp [Tm.row, Tm.rows_eq, Cs.rows_eq]) (by simp))
    · repeat (first | refine AWp.seq ?_ | refine AWp.block ?_)
      apply AWp.reg [] []
      · conv => lhs; simp [hA, hC, lkObj, Tm.row, Tm.rows_eq, Cs.rows_eq, D.aget, D.aput, D.adel, D.keq, hdeep]
      · (repeat' apply And.intro) <;> first | omega | assumption | trivial | (simp [inI, maxLen]; done) | (simp [inI, maxLen]; omega)
      repeat (first | refine AWp.seq ?_ | refine AWp.block ?_)
      apply AWp.reg [] []
      · conv => lhs; simp [hA, hC, lkObj, Tm.row, Tm.rows_eq, Cs.rows_eq, D.aget, D.aput, D.adel, D.keq, hdeep]
      · (repeat' apply And.intro) <;> first | omega | assumption | trivial | (simp [inI, maxLen]; done) | (simp [inI, maxLen]; omega)
      repeat (first | refine AWp.seq ?_ | refine AWp.block ?_)
      apply AWp.reg [] []
      · conv => lhs; simp [hA, hC, lkObj, Tm.row, Tm.rows_eq, Cs.rows_eq, D.aget, D.aput, D.adel, D.keq, hdeep]
      · (repeat' apply And.intro) <;> first | omega | assumption | trivial | (simp [inI, maxLen]; done) | (simp [inI, maxLen]; omega)
      repeat (first | refine AWp.seq ?_ | refine AWp.block ?_)
      refine AWp.cond rfl (fun hc => ?_) (fun hc => ?_)
      · cases hc
      by_cases q15 : 6 < A
      · repeat (first | refine AWp.seq ?_ | refine AWp.block ?_)
        apply AWp.reg [] []
        · conv => lhs; simp [hA, hC, lkObj, Tm.row, Tm.rows_eq, Cs.rows_eq, D.aget, D.aput, D.adel, D.keq, hdeep, q15]
        · (repeat' apply And.intro) <;> first | omega | assumption | trivial | (simp [inI, maxLen]; done) | (simp [inI, maxLen]; omega)
        repeat (first | refine AWp.seq ?_ | refine AWp.block ?_)
        refine AWp.cond rfl (fun hc => ?_) (fun hc => ?_)
        rotate_left
        · cases hc
        repeat (first | refine AWp.seq ?_ | refine AWp.block ?_)
        apply AWp.reg [] []
        · conv => lhs; simp [hA, hC, lkObj, Tm.row, Tm.rows_eq, Cs.rows_eq, D.aget, D.aput, D.adel, D.keq, hdeep, q15]
        · (repeat' apply And.intro) <;> first | omega | assumption | trivial | (simp [inI, maxLen]; done) | (simp [inI, maxLen]; omega)
        refine AWp.ret ?_
        try dsimp only [thenQ, blockQ]
        apply endC.ret
        · rfl
        · conv => lhs; simp [resAV, Try.results51]
        · simp only [Tm.wrong, if_neg hdeep, if_neg hkk, hN0, hC0, if_pos (show manyB 4 na nc = true by simp [manyB]; omega)]; rfl
        · simp [moEnd, memGet]
      by_cases q16 : 0 < C
      · repeat (first | refine AWp.seq ?_ | refine AWp.block ?_)
        apply AWp.reg [] []
        · conv => lhs; simp [hA, hC, lkObj, Tm.row, Tm.rows_eq, Cs.rows_eq, D.aget, D.aput, D.adel, D.keq, hdeep, q15, q16]
        · (repeat' apply And.intro) <;> first | omega | assumption | trivial | (simp [inI, maxLen]; done) | (simp [inI, maxLen]; omega)
        repeat (first | refine AWp.seq ?_ | refine AWp.block ?_)
        refine AWp.cond rfl (fun hc => ?_) (fun hc => ?_)
        rotate_left
        · cases hc
        repeat (first | refine AWp.seq ?_ | refine AWp.block ?_)
        apply AWp.reg [] []
        · conv => lhs; simp [hA, hC, lkObj, Tm.row, Tm.rows_eq, Cs.rows_eq, D.aget, D.aput, D.adel, D.keq, hdeep, q15, q16]
        · (repeat' apply And.intro) <;> first | omega | assumption | trivial | (simp [inI, maxLen]; done) | (simp [inI, maxLen]; omega)
        refine AWp.ret ?_
        try dsimp only [thenQ, blockQ]
        apply endC.ret
        · rfl
        · conv => lhs; simp [resAV, Try.results51]
        · simp only [Tm.wrong, if_neg hdeep, if_neg hkk, hN0, hC0, if_pos (show manyB 4 na nc = true by simp [manyB]; omega)]; rfl
        · simp [moEnd, memGet]
      repeat (first | refine AWp.seq ?_ | refine AWp.block ?_)
      apply AWp.reg [] []
      · conv => lhs; simp [hA, hC, lkObj, Tm.row, Tm.rows_eq, Cs.rows_eq, D.aget, D.aput, D.adel, D.keq, hdeep, q15, q16]
      · (repeat' apply And.intro) <;> first | omega | assumption | trivial | (simp [inI, maxLen]; done) | (simp [inI, maxLen]; omega)
      repeat (first | refine AWp.seq ?_ | refine AWp.block ?_)
      refine AWp.cond rfl (fun hc => ?_) (fun hc => ?_)
      · cases hc
      repeat (first | refine AWp.seq ?_ | refine AWp.block ?_)
      apply AWp.reg [] []
      · conv => lhs; simp [hA, hC, lkObj, Tm.row, Tm.rows_eq, Cs.rows_eq, D.aget, D.aput, D.adel, D.keq, hdeep, q15, q16]
      · (repeat' apply And.intro) <;> first | omega | assumption | trivial | (simp [inI, maxLen]; done) | (simp [inI, maxLen]; omega)
      repeat (first | refine AWp.seq ?_ | refine AWp.block ?_)
      refine AWp.cond rfl (fun hc => ?_) (fun hc => ?_)
      · cases hc
      repeat (first | refine AWp.seq ?_ | refine AWp.block ?_)
      apply AWp.reg [] []
      · conv => lhs; simp [hA, hC, lkObj, Tm.row, Tm.rows_eq, Cs.rows_eq, D.aget, D.aput, D.adel, D.keq, hdeep, q15, q16]
      · (repeat' apply And.intro) <;> first | omega | assumption | trivial | (simp [inI, maxLen]; done) | (simp [inI, maxLen]; omega)
      repeat (first | refine AWp.seq ?_ | refine AWp.block ?_)
      refine AWp.cond rfl (fun hc => ?_) (fun hc => ?_)
      · cases hc
      repeat (first | refine AWp.seq ?_ | refine AWp.block ?_)
      apply AWp.reg [] []
      · conv => lhs; simp [hA, hC, lkObj, Tm.row, Tm.rows_eq, Cs.rows_eq, D.aget, D.aput, D.adel, D.keq, hdeep, q15, q16]
      · (repeat' apply And.intro) <;> first | omega | assumption | trivial | (simp [inI, maxLen]; done) | (simp [inI, maxLen]; omega)
      repeat (first | refine AWp.seq ?_ | refine AWp.block ?_)
      refine AWp.cond rfl (fun hc => ?_) (fun hc => ?_)
      · cases hc
      repeat (first | refine AWp.seq ?_ | refine AWp.block ?_)
      apply AWp.reg [] []
      · conv => lhs; simp [hA, hC, lkObj, Tm.row, Tm.rows_eq, Cs.rows_eq, D.aget, D.aput, D.adel, D.keq, hdeep, q15, q16]
      · (repeat' apply And.intro) <;> first | omega | assumption | trivial | (simp [inI, maxLen]; done) | (simp [inI, maxLen]; omega)
      repeat (first | refine AWp.seq ?_ | refine AWp.block ?_)
      refine AWp.cond rfl (fun hc => ?_) (fun hc => ?_)
      · cases hc
      repeat (first | refine AWp.seq ?_ | refine AWp.block ?_)
      apply AWp.draw [] [] mixed
      · conv => lhs; simp [hA, hC, lkObj, Tm.row, Tm.rows_eq, Cs.rows_eq, D.aget, D.aput, D.adel, D.keq, hdeep, q15, q16]
      · kernel_rfl
      · (repeat' apply And.intro) <;> first | omega | assumption | trivial | (simp [inI, maxLen]; done) | (simp [inI, maxLen]; omega)
      repeat (first | refine AWp.seq ?_ | refine AWp.block ?_)
      refine AWp.cond rfl (fun hc => ?_) (fun hc => ?_)
      · cases hc
      refine AWp.skip ?_
      repeat (first | refine AWp.seq ?_ | refine AWp.block ?_)
      apply AWp.reg [] []
      · conv => lhs; simp [hA, hC, lkObj, Tm.row, Tm.rows_eq, Cs.rows_eq, D.aget, D.aput, D.adel, D.keq, hdeep, q15, q16]
      · (repeat' apply And.intro) <;> first | omega | assumption | trivial | (simp [inI, maxLen]; done) | (simp [inI, maxLen]; omega)
      repeat (first | refine AWp.seq ?_ | refine AWp.block ?_)
      refine AWp.cond rfl (fun hc => ?_) (fun hc => ?_)
      rotate_left
      · cases hc
      cases hf : f.get a with
      | none =>
        repeat (first | refine AWp.seq ?_ | refine AWp.block ?_)
        apply AWp.draw [] [] mixed
        · conv => lhs; simp [hA, hC, lkObj, Tm.row, Tm.rows_eq, Cs.rows_eq, D.aget, D.aput, D.adel, D.keq, arD_get, hf, hdeep, q15, q16]
        · kernel_rfl
        · (repeat' apply And.intro) <;> first | omega | assumption | trivial | (simp [inI, maxLen]; done) | (simp [inI, maxLen]; omega)
        repeat (first | refine AWp.seq ?_ | refine AWp.block ?_)
        apply AWp.reg [] []
        · conv => lhs; simp [hA, hC, lkObj, Tm.row, Tm.rows_eq, Cs.rows_eq, D.aget, D.aput, D.adel, D.keq, arD_get, hf, hdeep, q15, q16]
        · (repeat' apply And.intro) <;> first | omega | assumption | trivial | (simp [inI, maxLen]; done) | (simp [inI, maxLen]; omega)
        repeat (first | refine AWp.seq ?_ | refine AWp.block ?_)
        refine AWp.cond rfl (fun hc => ?_) (fun hc => ?_)
        rotate_left
        · cases hc
        repeat (first | refine AWp.seq ?_ | refine AWp.block ?_)
        apply AWp.reg [] []
        · conv => lhs; simp [hA, hC, lkObj, Tm.row, Tm.rows_eq, Cs.rows_eq, D.aget, D.aput, D.adel, D.keq, arD_get, hf, hdeep, q15, q16]
        · (repeat' apply And.intro) <;> first | omega | assumption | trivial | (simp [inI, maxLen]; done) | (simp [inI, maxLen]; omega)
        refine AWp.ret ?_
        have hm : ¬ manyB 4 na nc = true := by simp [manyB]; omega
        have hh : headE f 4 n a names na = 6 := by first | (simp [headE, arD_get, hf, hdeep, q15, q16]; done) | (simp [headE, arD_get, hf, hdeep, q15, q16]; omega)
        try dsimp only [thenQ, blockQ]
        apply endC.ret
        · rfl
        · conv => lhs; simp [resAV, Try.results51]
        · simp only [Tm.wrong, if_neg hdeep, if_neg hkk, hN0, hC0, if_neg hm, hh]; rfl
        · simp [moEnd, memGet]
      | some w =>
        repeat (first | refine AWp.seq ?_ | refine AWp.block ?_)
        apply AWp.draw [] [] mixed
        · conv => lhs; simp [hA, hC, lkObj, Tm.row, Tm.rows_eq, Cs.rows_eq, D.aget, D.aput, D.adel, D.keq, arD_get, hf, hdeep, q15, q16]
        · kernel_rfl
        · (repeat' apply And.intro) <;> first | omega | assumption | trivial | (simp [inI, maxLen]; done) | (simp [inI, maxLen]; omega)
        repeat (first | refine AWp.seq ?_ | refine AWp.block ?_)
        apply AWp.reg [] []
        · conv => lhs; simp [hA, hC, lkObj, Tm.row, Tm.rows_eq, Cs.rows_eq, D.aget, D.aput, D.adel, D.keq, arD_get, hf, hdeep, q15, q16]
        · (repeat' apply And.intro) <;> first | omega | assumption | trivial | (simp [inI, maxLen]; done) | (simp [inI, maxLen]; omega)
        repeat (first | refine AWp.seq ?_ | refine AWp.block ?_)
        refine AWp.cond rfl (fun hc => ?_) (fun hc => ?_)
        · cases hc
        refine AWp.skip ?_
        by_cases q17 : (w : Int) = A
        · repeat (first | refine AWp.seq ?_ | refine AWp.block ?_)
          apply AWp.reg [] []
          · conv => lhs; simp [hA, hC, lkObj, Tm.row, Tm.rows_eq, Cs.rows_eq, D.aget, D.aput, D.adel, D.keq, arD_get, hf, hdeep, q15, q16, q17]
          · (repeat' apply And.intro) <;> first | omega | assumption | trivial | (simp [inI, maxLen]; done) | (simp [inI, maxLen]; omega)
          repeat (first | refine AWp.seq ?_ | refine AWp.block ?_)
          refine AWp.cond rfl (fun hc => ?_) (fun hc => ?_)
          · cases hc
          refine AWp.skip ?_
          have hm : ¬ manyB 4 na nc = true := by simp [manyB]; omega
          have hh : headE f 4 n a names na = 0 := by first | (simp [headE, arD_get, hf, hdeep, q15, q16, q17]; done) | (simp [headE, arD_get, hf, hdeep, q15, q16, q17]; omega)
          exact hW ⟨hkk, by simpa using hm, hh⟩ _ (Le.sub (by simp [Tm.row, Tm.rows_eq, Cs.rows_eq]) (by simp))
        repeat (first | refine AWp.seq ?_ | refine AWp.block ?_)
        apply AWp.reg [] []
        · conv => lhs; simp [hA, hC, lkObj, Tm.row, Tm.rows_eq, Cs.rows_eq, D.aget, D.aput, D.adel, D.keq, arD_get, hf, hdeep, q15, q16, q17]
        · (repeat' apply And.intro) <;> first | omega | assumption | trivial | (simp [inI, maxLen]; done) | (simp [inI, maxLen]; omega)
        repeat (first | refine AWp.seq ?_ | refine AWp.block ?_)
        refine AWp.cond rfl (fun hc => ?_) (fun hc => ?_)
        rotate_left
        · cases hc
        repeat (first | refine AWp.seq ?_ | refine AWp.block ?_)
        apply AWp.reg [] []
        · conv => lhs; simp [hA, hC, lkObj, Tm.row, Tm.rows_eq, Cs.rows_eq, D.aget, D.aput, D.adel, D.keq, arD_get, hf, hdeep, q15, q16, q17]
        · (repeat' apply And.intro) <;> first | omega | assumption | trivial | (simp [inI, maxLen]; done) | (simp [inI, maxLen]; omega)
        refine AWp.ret ?_
        have hm : ¬ manyB 4 na nc = true := by simp [manyB]; omega
        have hh : headE f 4 n a names na = 5 := by first | (simp [headE, arD_get, hf, hdeep, q15, q16, q17]; done) | (simp [headE, arD_get, hf, hdeep, q15, q16, q17]; omega)
        try dsimp only [thenQ, blockQ]
        apply endC.ret
        · rfl
        · conv => lhs; simp [resAV, Try.results51]
        · simp only [Tm.wrong, if_neg hdeep, if_neg hkk, hN0, hC0, if_neg hm, hh]; rfl
        · simp [moEnd, memGet]
    · repeat (first | refine AWp.seq ?_ | refine AWp.block ?_)
      apply AWp.reg [] []
      · conv => lhs; simp [hA, hC, lkObj, Tm.row, Tm.rows_eq, Cs.rows_eq, D.aget, D.aput, D.adel, D.keq, hdeep]
      · (repeat' apply And.intro) <;> first | omega | assumption | trivial | (simp [inI, maxLen]; done) | (simp [inI, maxLen]; omega)
      repeat (first | refine AWp.seq ?_ | refine AWp.block ?_)
      apply AWp.reg [] []
      · conv => lhs; simp [hA, hC, lkObj, Tm.row, Tm.rows_eq, Cs.rows_eq, D.aget, D.aput, D.adel, D.keq, hdeep]
      · (repeat' apply And.intro) <;> first | omega | assumption | trivial | (simp [inI, maxLen]; done) | (simp [inI, maxLen]; omega)
      repeat (first | refine AWp.seq ?_ | refine AWp.block ?_)
      apply AWp.reg [] []
      · conv => lhs; simp [hA, hC, lkObj, Tm.row, Tm.rows_eq, Cs.rows_eq, D.aget, D.aput, D.adel, D.keq, hdeep]
      · (repeat' apply And.intro) <;> first | omega | assumption | trivial | (simp [inI, maxLen]; done) | (simp [inI, maxLen]; omega)
      repeat (first | refine AWp.seq ?_ | refine AWp.block ?_)
      refine AWp.cond rfl (fun hc => ?_) (fun hc => ?_)
      · cases hc
      by_cases q18 : A = 2
      · by_cases q19 : 0 < C
        · repeat (first | refine AWp.seq ?_ | refine AWp.block ?_)
          apply AWp.reg [] []
          · conv => lhs; simp [hA, hC, lkObj, Tm.row, Tm.rows_eq, Cs.rows_eq, D.aget, D.aput, D.adel, D.keq, hdeep, q18, q19]
          · (repeat' apply And.intro) <;> first | omega | assumption | trivial | (simp [inI, maxLen]; done) | (simp [inI, maxLen]; omega)
          repeat (first | refine AWp.seq ?_ | refine AWp.block ?_)
          refine AWp.cond rfl (fun hc => ?_) (fun hc => ?_)
          rotate_left
          · cases hc
          repeat (first | refine AWp.seq ?_ | refine AWp.block ?_)
          apply AWp.reg [] []
          · conv => lhs; simp [hA, hC, lkObj, Tm.row, Tm.rows_eq, Cs.rows_eq, D.aget, D.aput, D.adel, D.keq, hdeep, q18, q19]
          · (repeat' apply And.intro) <;> first | omega | assumption | trivial | (simp [inI, maxLen]; done) | (simp [inI, maxLen]; omega)
          refine AWp.ret ?_
          try dsimp only [thenQ, blockQ]
          apply endC.ret
          · rfl
          · conv => lhs; simp [resAV, Try.results51]
          · simp only [Tm.wrong, if_neg hdeep, if_neg hkk, hN0, hC0, if_pos (show manyB 5 na nc = true by simp [manyB]; omega)]; rfl
          · simp [moEnd, memGet]
        repeat (first | refine AWp.seq ?_ | refine AWp.block ?_)
        apply AWp.reg [] []
        · conv => lhs; simp [hA, hC, lkObj, Tm.row, Tm.rows_eq, Cs.rows_eq, D.aget, D.aput, D.adel, D.keq, hdeep, q18, q19]
        · (repeat' apply And.intro) <;> first | omega | assumption | trivial | (simp [inI, maxLen]; done) | (simp [inI, maxLen]; omega)
        repeat (first | refine AWp.seq ?_ | refine AWp.block ?_)
        refine AWp.cond rfl (fun hc => ?_) (fun hc => ?_)
        · cases hc
        repeat (first | refine AWp.seq ?_ | refine AWp.block ?_)
        apply AWp.reg [] []
        · conv => lhs; simp [hA, hC, lkObj, Tm.row, Tm.rows_eq, Cs.rows_eq, D.aget, D.aput, D.adel, D.keq, hdeep, q18, q19]
        · (repeat' apply And.intro) <;> first | omega | assumption | trivial | (simp [inI, maxLen]; done) | (simp [inI, maxLen]; omega)
        repeat (first | refine AWp.seq ?_ | refine AWp.block ?_)
        refine AWp.cond rfl (fun hc => ?_) (fun hc => ?_)
        · cases hc
        repeat (first | refine AWp.seq ?_ | refine AWp.block ?_)
        apply AWp.reg [] []
        · conv => lhs; simp [hA, hC, lkObj, Tm.row, Tm.rows_eq, Cs.rows_eq, D.aget, D.aput, D.adel, D.keq, hdeep, q18, q19]
        · (repeat' apply And.intro) <;> first | omega | assumption | trivial | (simp [inI, maxLen]; done) | (simp [inI, maxLen]; omega)
        repeat (first | refine AWp.seq ?_ | refine AWp.block ?_)
        refine AWp.cond rfl (fun hc => ?_) (fun hc => ?_)
        · cases hc
        repeat (first | refine AWp.seq ?_ | refine AWp.block ?_)
        apply AWp.reg [] []
        · conv => lhs; simp [hA, hC, lkObj, Tm.row, Tm.rows_eq, Cs.rows_eq, D.aget, D.aput, D.adel, D.keq, hdeep, q18, q19]
        · (repeat' apply And.intro) <;> first | omega | assumption | trivial | (simp [inI, maxLen]; done) | (simp [inI, maxLen]; omega)
        repeat (first | refine AWp.seq ?_ | refine AWp.block ?_)
        refine AWp.cond rfl (fun hc => ?_) (fun hc => ?_)
        · cases hc
        by_cases q20 : n < 1
        · repeat (first | refine AWp.seq ?_ | refine AWp.block ?_)
          apply AWp.reg [] []
          · conv => lhs; simp [hA, hC, lkObj, Tm.row, Tm.rows_eq, Cs.rows_eq, D.aget, D.aput, D.adel, D.keq, hdeep, q18, q19, q20]
          · (repeat' apply And.intro) <;> first | omega | assumption | trivial | (simp [inI, maxLen]; done) | (simp [inI, maxLen]; omega)
          repeat (first | refine AWp.seq ?_ | refine AWp.block ?_)
          refine AWp.cond rfl (fun hc => ?_) (fun hc => ?_)
          rotate_left
          · cases hc
          repeat (first | refine AWp.seq ?_ | refine AWp.block ?_)
          apply AWp.reg [] []
          · conv => lhs; simp [hA, hC, lkObj, Tm.row, Tm.rows_eq, Cs.rows_eq, D.aget, D.aput, D.adel, D.keq, hdeep, q18, q19, q20]
          · (repeat' apply And.intro) <;> first | omega | assumption | trivial | (simp [inI, maxLen]; done) | (simp [inI, maxLen]; omega)
          refine AWp.ret ?_
          have hm : ¬ manyB 5 na nc = true := by simp [manyB]; omega
          have hh : headE f 5 n a names na = 1 := by first | (simp [headE, hdeep, q18, q19, q20]; done) | (simp [headE, hdeep, q18, q19, q20]; omega)
          try dsimp only [thenQ, blockQ]
          apply endC.ret
          · rfl
          · conv => lhs; simp [resAV, Try.results51]
          · simp only [Tm.wrong, if_neg hdeep, if_neg hkk, hN0, hC0, if_neg hm, hh]; rfl
          · simp [moEnd, memGet]
        by_cases q21 : 5 < n
        · repeat (first | refine AWp.seq ?_ | refine AWp.block ?_)
          apply AWp.reg [] []
          · conv => lhs; simp [hA, hC, lkObj, Tm.row, Tm.rows_eq, Cs.rows_eq, D.aget, D.aput, D.adel, D.keq, hdeep, q18, q19, q20, q21]
          · (repeat' apply And.intro) <;> first | omega | assumption | trivial | (simp [inI, maxLen]; done) | (simp [inI, maxLen]; omega)
          repeat (first | refine AWp.seq ?_ | refine AWp.block ?_)
          refine AWp.cond rfl (fun hc => ?_) (fun hc => ?_)
          rotate_left
          · cases hc
          repeat (first | refine AWp.seq ?_ | refine AWp.block ?_)
          apply AWp.reg [] []
          · conv => lhs; simp [hA, hC, lkObj, Tm.row, Tm.rows_eq, Cs.rows_eq, D.aget, D.aput, D.adel, D.keq, hdeep, q18, q19, q20, q21]
          · (repeat' apply And.intro) <;> first | omega | assumption | trivial | (simp [inI, maxLen]; done) | (simp [inI, maxLen]; omega)
          refine AWp.ret ?_
          have hm : ¬ manyB 5 na nc = true := by simp [manyB]; omega
          have hh : headE f 5 n a names na = 1 := by first | (simp [headE, hdeep, q18, q19, q20, q21]; done) | (simp [headE, hdeep, q18, q19, q20, q21]; omega)
          try dsimp only [thenQ, blockQ]
          apply endC.ret
          · rfl
          · conv => lhs; simp [resAV, Try.results51]
          · simp only [Tm.wrong, if_neg hdeep, if_neg hkk, hN0, hC0, if_neg hm, hh]; rfl
          · simp [moEnd, memGet]
        repeat (first | refine AWp.seq ?_ | refine AWp.block ?_)
        apply AWp.reg [] []
        · conv => lhs; simp [hA, hC, lkObj, Tm.row, Tm.rows_eq, Cs.rows_eq, D.aget, D.aput, D.adel, D.keq, hdeep, q18, q19, q20, q21]
        · (repeat' apply And.intro) <;> first | omega | assumption | trivial | (simp [inI, maxLen]; done) | (simp [inI, maxLen]; omega)
        repeat (first | refine AWp.seq ?_ | refine AWp.block ?_)
        refine AWp.cond rfl (fun hc => ?_) (fun hc => ?_)
        · cases hc
        repeat (first | refine AWp.seq ?_ | refine AWp.block ?_)
        apply AWp.draw [] [] mixed
        · conv => lhs; simp [hA, hC, lkObj, Tm.row, Tm.rows_eq, Cs.rows_eq, D.aget, D.aput, D.adel, D.keq, hdeep, q18, q19, q20, q21]
        · kernel_rfl
        · (repeat' apply And.intro) <;> first | omega | assumption | trivial | (simp [inI, maxLen]; done) | (simp [inI, maxLen]; omega)
        repeat (first | refine AWp.seq ?_ | refine AWp.block ?_)
        refine AWp.cond rfl (fun hc => ?_) (fun hc => ?_)
        · cases hc
        refine AWp.skip ?_
        repeat (first | refine AWp.seq ?_ | refine AWp.block ?_)
        apply AWp.reg [] []
        · conv => lhs; simp [hA, hC, lkObj, Tm.row, Tm.rows_eq, Cs.rows_eq, D.aget, D.aput, D.adel, D.keq, hdeep, q18, q19, q20, q21]
        · (repeat' apply And.intro) <;> first | omega | assumption | trivial | (simp [inI, maxLen]; done) | (simp [inI, maxLen]; omega)
        repeat (first | refine AWp.seq ?_ | refine AWp.block ?_)
        refine AWp.cond rfl (fun hc => ?_) (fun hc => ?_)
        · cases hc
        refine AWp.skip ?_
        have hm : ¬ manyB 5 na nc = true := by simp [manyB]; omega
        have hh : headE f 5 n a names na = 0 := by first | (simp [headE, hdeep, q18, q19, q20, q21]; done) | (simp [headE, hdeep, q18, q19, q20, q21]; omega)
        exact hW ⟨hkk, by simpa using hm, hh⟩ _ (Le.sub (by simp [Tm.row, Tm.rows_eq, Cs.rows_eq]) (by simp))
      repeat (first | refine AWp.seq ?_ | refine AWp.block ?_)
      apply AWp.reg [] []
      · conv => lhs; simp [hA, hC, lkObj, Tm.row, Tm.rows_eq, Cs.rows_eq, D.aget, D.aput, D.adel, D.keq, hdeep, q18]
      · (repeat' apply And.intro) <;> first | omega | assumption | trivial | (simp [inI, maxLen]; done) | (simp [inI, maxLen]; omega)
      repeat (first | refine AWp.seq ?_ | refine AWp.block ?_)
      refine AWp.cond rfl (fun hc => ?_) (fun hc => ?_)
      rotate_left
      · cases hc
      repeat (first | refine AWp.seq ?_ | refine AWp.block ?_)
      apply AWp.reg [] []
      · conv => lhs; simp [hA, hC, lkObj, Tm.row, Tm.rows_eq, Cs.rows_eq, D.aget, D.aput, D.adel, D.keq, hdeep, q18]
      · (repeat' apply And.intro) <;> first | omega | assumption | trivial | (simp [inI, maxLen]; done) | (simp [inI, maxLen]; omega)
      refine AWp.ret ?_
      try dsimp only [thenQ, blockQ]
      apply endC.ret
      · rfl
      · conv => lhs; simp [resAV, Try.results51]
      · simp only [Tm.wrong, if_neg hdeep, if_neg hkk, hN0, hC0, if_pos (show manyB 5 na nc = true by simp [manyB]; omega)]; rfl
      · simp [moEnd, memGet]
    · repeat (first | refine AWp.seq ?_ | refine AWp.block ?_)
      apply AWp.reg [] []
      · conv => lhs; simp [hA, hC, lkObj, Tm.row, Tm.rows_eq, Cs.rows_eq, D.aget, D.aput, D.adel, D.keq, hdeep]
      · (repeat' apply And.intro) <;> first | omega | assumption | trivial | (simp [inI, maxLen]; done) | (simp [inI, maxLen]; omega)
      repeat (first | refine AWp.seq ?_ | refine AWp.block ?_)
      apply AWp.reg [] []
      · conv => lhs; simp [hA, hC, lkObj, Tm.row, Tm.rows_eq, Cs.rows_eq, D.aget, D.aput, D.adel, D.keq, hdeep]
      · (repeat' apply And.intro) <;> first | omega | assumption | trivial | (simp [inI, maxLen]; done) | (simp [inI, maxLen]; omega)
      repeat (first | refine AWp.seq ?_ | refine AWp.block ?_)
      apply AWp.reg [] []
      · conv => lhs; simp [hA, hC, lkObj, Tm.row, Tm.rows_eq, Cs.rows_eq, D.aget, D.aput, D.adel, D.keq, hdeep]
      · (repeat' apply And.intro) <;> first | omega | assumption | trivial | (simp [inI, maxLen]; done) | (simp [inI, maxLen]; omega)
      repeat (first | refine AWp.seq ?_ | refine AWp.block ?_)
      refine AWp.cond rfl (fun hc => ?_) (fun hc => ?_)
      · cases hc
      by_cases q22 : A = 2
      · by_cases q23 : 0 < C
        · repeat (first | refine AWp.seq ?_ | refine AWp.block ?_)
          apply AWp.reg [] []
          · conv => lhs; simp [hA, hC, lkObj, Tm.row, Tm.rows_eq, Cs.rows_eq, D.aget, D.aput, D.adel, D.keq, hdeep, q22, q23]
          · (repeat' apply And.intro) <;> first | omega | assumption | trivial | (simp [inI, maxLen]; done) | (simp [inI, maxLen]; omega)
          repeat (first | refine AWp.seq ?_ | refine AWp.block ?_)
          refine AWp.cond rfl (fun hc => ?_) (fun hc => ?_)
          rotate_left
          · cases hc
          repeat (first | refine AWp.seq ?_ | refine AWp.block ?_)
          apply AWp.reg [] []
          · conv => lhs; simp [hA, hC, lkObj, Tm.row, Tm.rows_eq, Cs.rows_eq, D.aget, D.aput, D.adel, D.keq, hdeep, q22, q23]
          · (repeat' apply And.intro) <;> first | omega | assumption | trivial | (simp [inI, maxLen]; done) | (simp [inI, maxLen]; omega)
          refine AWp.ret ?_
          try dsimp only [thenQ, blockQ]
          apply endC.ret
          · rfl
          · conv => lhs; simp [resAV, Try.results51]
          · simp only [Tm.wrong, if_neg hdeep, if_neg hkk, hN0, hC0, if_pos (show manyB 6 na nc = true by simp [manyB]; omega)]; rfl
          · simp [moEnd, memGet]
        repeat (first | refine AWp.seq ?_ | refine AWp.block ?_)
        apply AWp.reg [] []
        · conv => lhs; simp [hA, hC, lkObj, Tm.row, Tm.rows_eq, Cs.rows_eq, D.aget, D.aput, D.adel, D.keq, hdeep, q22, q23]
        · (repeat' apply And.intro) <;> first | omega | assumption | trivial | (simp [inI, maxLen]; done) | (simp [inI, maxLen]; omega)
        repeat (first | refine AWp.seq ?_ | refine AWp.block ?_)
        refine AWp.cond rfl (fun hc => ?_) (fun hc => ?_)
        · cases hc
        repeat (first | refine AWp.seq ?_ | refine AWp.block ?_)
        apply AWp.reg [] []
        · conv => lhs; simp [hA, hC, lkObj, Tm.row, Tm.rows_eq, Cs.rows_eq, D.aget, D.aput, D.adel, D.keq, hdeep, q22, q23]
        · (repeat' apply And.intro) <;> first | omega | assumption | trivial | (simp [inI, maxLen]; done) | (simp [inI, maxLen]; omega)
        repeat (first | refine AWp.seq ?_ | refine AWp.block ?_)
        refine AWp.cond rfl (fun hc => ?_) (fun hc => ?_)
        · cases hc
        repeat (first | refine AWp.seq ?_ | refine AWp.block ?_)
        apply AWp.reg [] []
        · conv => lhs; simp [hA, hC, lkObj, Tm.row, Tm.rows_eq, Cs.rows_eq, D.aget, D.aput, D.adel, D.keq, hdeep, q22, q23]
        · (repeat' apply And.intro) <;> first | omega | assumption | trivial | (simp [inI, maxLen]; done) | (simp [inI, maxLen]; omega)
        repeat (first | refine AWp.seq ?_ | refine AWp.block ?_)
        refine AWp.cond rfl (fun hc => ?_) (fun hc => ?_)
        · cases hc
        repeat (first | refine AWp.seq ?_ | refine AWp.block ?_)
        apply AWp.reg [] []
        · conv => lhs; simp [hA, hC, lkObj, Tm.row, Tm.rows_eq, Cs.rows_eq, D.aget, D.aput, D.adel, D.keq, hdeep, q22, q23]
        · (repeat' apply And.intro) <;> first | omega | assumption | trivial | (simp [inI, maxLen]; done) | (simp [inI, maxLen]; omega)
        repeat (first | refine AWp.seq ?_ | refine AWp.block ?_)
        refine AWp.cond rfl (fun hc => ?_) (fun hc => ?_)
        · cases hc
        repeat (first | refine AWp.seq ?_ | refine AWp.block ?_)
        apply AWp.reg [] []
        · conv => lhs; simp [hA, hC, lkObj, Tm.row, Tm.rows_eq, Cs.rows_eq, D.aget, D.aput, D.adel, D.keq, hdeep, q22, q23]
        · (repeat' apply And.intro) <;> first | omega | assumption | trivial | (simp [inI, maxLen]; done) | (simp [inI, maxLen]; omega)
        repeat (first | refine AWp.seq ?_ | refine AWp.block ?_)
        refine AWp.cond rfl (fun hc => ?_) (fun hc => ?_)
        · cases hc
        cases q24 : nameB a with
        | true =>
          rw [q24] at hNm
          repeat (first | refine AWp.seq ?_ | refine AWp.block ?_)
          apply AWp.draw [] [.p (fun _ => .d (.bool true)) none] mixed
          · conv => lhs; simp [hA, hC, lkObj, Tm.row, Tm.rows_eq, Cs.rows_eq, D.aget, D.aput, D.adel, D.keq, hdeep, q22, q23]
          · kernel_rfl
          · (repeat' apply And.intro) <;> first | omega | assumption | trivial | (simp [inI, maxLen]; done) | (simp [inI, maxLen]; omega)
          repeat (first | refine AWp.seq ?_ | refine AWp.block ?_)
          refine AWp.cond rfl (fun hc => ?_) (fun hc => ?_)
          · cases hc
          refine AWp.skip ?_
          repeat (first | refine AWp.seq ?_ | refine AWp.block ?_)
          apply AWp.reg [] []
          · conv => lhs; simp [hA, hC, lkObj, Tm.row, Tm.rows_eq, Cs.rows_eq, D.aget, D.aput, D.adel, D.keq, hdeep, q22, q23]
          · (repeat' apply And.intro) <;> first | omega | assumption | trivial | (simp [inI, maxLen]; done) | (simp [inI, maxLen]; omega)
          repeat (first | refine AWp.seq ?_ | refine AWp.block ?_)
          refine AWp.cond rfl (fun hc => ?_) (fun hc => ?_)
          · cases hc
          refine AWp.skip ?_
          have hm : ¬ manyB 6 na nc = true := by simp [manyB]; omega
          have hh : headE f 6 n a names na = 0 := by first | (simp [headE, hdeep, q22, q23, q24]; done) | (simp [headE, hdeep, q22, q23, q24]; omega)
          exact hW ⟨hkk, by simpa using hm, hh⟩ _ (Le.sub (by simp [Tm.row, Tm.rows_eq, Cs.rows_eq]) (by simp))
        | false =>
          rw [q24] at hNm
          repeat (first | refine AWp.seq ?_ | refine AWp.block ?_)
          apply AWp.draw [] [.p (fun _ => .d (.bool false)) none] mixed
          · conv => lhs; simp [hA, hC, lkObj, Tm.row, Tm.rows_eq, Cs.rows_eq, D.aget, D.aput, D.adel, D.keq, hdeep, q22, q23]
          · kernel_rfl
          · (repeat' apply And.intro) <;> first | omega | assumption | trivial | (simp [inI, maxLen]; done) | (simp [inI, maxLen]; omega)
          repeat (first | refine AWp.seq ?_ | refine AWp.block ?_)
          refine AWp.cond rfl (fun hc => ?_) (fun hc => ?_)
          rotate_left
          · cases hc
          repeat (first | refine AWp.seq ?_ | refine AWp.block ?_)
          apply AWp.reg [] []
          · conv => lhs; simp [hA, hC, lkObj, Tm.row, Tm.rows_eq, Cs.rows_eq, D.aget, D.aput, D.adel, D.keq, hdeep, q22, q23]
          · (repeat' apply And.intro) <;> first | omega | assumption | trivial | (simp [inI, maxLen]; done) | (simp [inI, maxLen]; omega)
          refine AWp.ret ?_
          have hm : ¬ manyB 6 na nc = true := by simp [manyB]; omega
          have hh : headE f 6 n a names na = 7 := by first | (simp [headE, hdeep, q22, q23, q24]; done) | (simp [headE, hdeep, q22, q23, q24]; omega)
          try dsimp only [thenQ, blockQ]
          apply endC.ret
          · rfl
          · conv => lhs; simp [resAV, Try.results51]
          · simp only [Tm.wrong, if_neg hdeep, if_neg hkk, hN0, hC0, if_neg hm, hh]; rfl
          · simp [moEnd, memGet]
      repeat (first | refine AWp.seq ?_ | refine AWp.block ?_)
      apply AWp.reg [] []
      · conv => lhs; simp [hA, hC, lkObj, Tm.row, Tm.rows_eq, Cs.rows_eq, D.aget, D.aput, D.adel, D.keq, hdeep, q22]
      · (repeat' apply And.intro) <;> first | omega | assumption | trivial | (simp [inI, maxLen]; done) | (simp [inI, maxLen]; omega)
      repeat (first | refine AWp.seq ?_ | refine AWp.block ?_)
      refine AWp.cond rfl (fun hc => ?_) (fun hc => ?_)
      rotate_left
      · cases hc
      repeat (first | refine AWp.seq ?_ | refine AWp.block ?_)
      apply AWp.reg [] []
      · conv => lhs; simp [hA, hC, lkObj, Tm.row, Tm.rows_eq, Cs.rows_eq, D.aget, D.aput, D.adel, D.keq, hdeep, q22]
      · (repeat' apply And.intro) <;> first | omega | assumption | trivial | (simp [inI, maxLen]; done) | (simp [inI, maxLen]; omega)
      refine AWp.ret ?_
      try dsimp only [thenQ, blockQ]
      apply endC.ret
      · rfl
      · conv => lhs; simp [resAV, Try.results51]
      · simp only [Tm.wrong, if_neg hdeep, if_neg hkk, hN0, hC0, if_pos (show manyB 6 na nc = true by simp [manyB]; omega)]; rfl
      · simp [moEnd, memGet]
    · repeat (first | refine AWp.seq ?_ | refine AWp.block ?_)
      apply AWp.reg [] []
      · conv => lhs; simp [hA, hC, lkObj, Tm.row, Tm.rows_eq, Cs.rows_eq, D.aget, D.aput, D.adel, D.keq, hdeep]
      · (repeat' apply And.intro) <;> first | omega | assumption | trivial | (simp [inI, maxLen]; done) | (simp [inI, maxLen]; omega)
      repeat (first | refine AWp.seq ?_ | refine AWp.block ?_)
      apply AWp.reg [] []
      · conv => lhs; simp [hA, hC, lkObj, Tm.row, Tm.rows_eq, Cs.rows_eq, D.aget, D.aput, D.adel, D.keq, hdeep]
      · (repeat' apply And.intro) <;> first | omega | assumption | trivial | (simp [inI, maxLen]; done) | (simp [inI, maxLen]; omega)
      repeat (first | refine AWp.seq ?_ | refine AWp.block ?_)
      apply AWp.reg [] []
      · conv => lhs; simp [hA, hC, lkObj, Tm.row, Tm.rows_eq, Cs.rows_eq, D.aget, D.aput, D.adel, D.keq, hdeep]
      · (repeat' apply And.intro) <;> first | omega | assumption | trivial | (simp [inI, maxLen]; done) | (simp [inI, maxLen]; omega)
      repeat (first | refine AWp.seq ?_ | refine AWp.block ?_)
      refine AWp.cond rfl (fun hc => ?_) (fun hc => ?_)
      · cases hc
      by_cases q25 : A = 1
      · repeat (first | refine AWp.seq ?_ | refine AWp.block ?_)
        apply AWp.reg [] []
        · conv => lhs; simp [hA, hC, lkObj, Tm.row, Tm.rows_eq, Cs.rows_eq, D.aget, D.aput, D.adel, D.keq, hdeep, q25]
        · (repeat' apply And.intro) <;> first | omega | assumption | trivial | (simp [inI, maxLen]; done) | (simp [inI, maxLen]; omega)
        repeat (first | refine AWp.seq ?_ | refine AWp.block ?_)
        refine AWp.cond rfl (fun hc => ?_) (fun hc => ?_)
        · cases hc
        repeat (first | refine AWp.seq ?_ | refine AWp.block ?_)
        apply AWp.reg [] []
        · conv => lhs; simp [hA, hC, lkObj, Tm.row, Tm.rows_eq, Cs.rows_eq, D.aget, D.aput, D.adel, D.keq, hdeep, q25]
        · (repeat' apply And.intro) <;> first | omega | assumption | trivial | (simp [inI, maxLen]; done) | (simp [inI, maxLen]; omega)
        repeat (first | refine AWp.seq ?_ | refine AWp.block ?_)
        refine AWp.cond rfl (fun hc => ?_) (fun hc => ?_)
        · cases hc
        repeat (first | refine AWp.seq ?_ | refine AWp.block ?_)
        apply AWp.reg [] []
        · conv => lhs; simp [hA, hC, lkObj, Tm.row, Tm.rows_eq, Cs.rows_eq, D.aget, D.aput, D.adel, D.keq, hdeep, q25]
        · (repeat' apply And.intro) <;> first | omega | assumption | trivial | (simp [inI, maxLen]; done) | (simp [inI, maxLen]; omega)
        repeat (first | refine AWp.seq ?_ | refine AWp.block ?_)
        refine AWp.cond rfl (fun hc => ?_) (fun hc => ?_)
        · cases hc
        repeat (first | refine AWp.seq ?_ | refine AWp.block ?_)
        apply AWp.reg [] []
        · conv => lhs; simp [hA, hC, lkObj, Tm.row, Tm.rows_eq, Cs.rows_eq, D.aget, D.aput, D.adel, D.keq, hdeep, q25]
        · (repeat' apply And.intro) <;> first | omega | assumption | trivial | (simp [inI, maxLen]; done) | (simp [inI, maxLen]; omega)
        repeat (first | refine AWp.seq ?_ | refine AWp.block ?_)
        refine AWp.cond rfl (fun hc => ?_) (fun hc => ?_)
        · cases hc
        repeat (first | refine AWp.seq ?_ | refine AWp.block ?_)
        apply AWp.reg [] []
        · conv => lhs; simp [hA, hC, lkObj, Tm.row, Tm.rows_eq, Cs.rows_eq, D.aget, D.aput, D.adel, D.keq, hdeep, q25]
        · (repeat' apply And.intro) <;> first | omega | assumption | trivial | (simp [inI, maxLen]; done) | (simp [inI, maxLen]; omega)
        repeat (first | refine AWp.seq ?_ | refine AWp.block ?_)
        refine AWp.cond rfl (fun hc => ?_) (fun hc => ?_)
        · cases hc
        repeat (first | refine AWp.seq ?_ | refine AWp.block ?_)
        apply AWp.draw [] [] mixed
        · conv => lhs; simp [hA, hC, lkObj, Tm.row, Tm.rows_eq, Cs.rows_eq, D.aget, D.aput, D.adel, D.keq, hdeep, q25]
        · kernel_rfl
        · (repeat' apply And.intro) <;> first | omega | assumption | trivial | (simp [inI, maxLen]; done) | (simp [inI, maxLen]; omega)
        repeat (first | refine AWp.seq ?_ | refine AWp.block ?_)
        refine AWp.cond rfl (fun hc => ?_) (fun hc => ?_)
        · cases hc
        refine AWp.skip ?_
        repeat (first | refine AWp.seq ?_ | refine AWp.block ?_)
        apply AWp.reg [] []
        · conv => lhs; simp [hA, hC, lkObj, Tm.row, Tm.rows_eq, Cs.rows_eq, D.aget, D.aput, D.adel, D.keq, hdeep, q25]
        · (repeat' apply And.intro) <;> first | omega | assumption | trivial | (simp [inI, maxLen]; done) | (simp [inI, maxLen]; omega)
        repeat (first | refine AWp.seq ?_ | refine AWp.block ?_)
        refine AWp.cond rfl (fun hc => ?_) (fun hc => ?_)
        · cases hc
        refine AWp.skip ?_
        have hm : ¬ manyB 7 na nc = true := by simp [manyB]; omega
        have hh : headE f 7 n a names na = 0 := by first | (simp [headE, hdeep, q25]; done) | (simp [headE, hdeep, q25]; omega)
        exact hW ⟨hkk, by simpa using hm, hh⟩ _ (Le.sub (by simp [Tm.row, Tm.rows_eq, Cs.rows_eq]) (by simp))
      repeat (first | refine AWp.seq ?_ | refine AWp.block ?_)
      apply AWp.reg [] []
      · conv => lhs; simp [hA, hC, lkObj, Tm.row, Tm.rows_eq, Cs.rows_eq, D.aget, D.aput, D.adel, D.keq, hdeep, q25]
      · (repeat' apply And.intro) <;> first | omega | assumption | trivial | (simp [inI, maxLen]; done) | (simp [inI, maxLen]; omega)
      repeat (first | refine AWp.seq ?_ | refine AWp.block ?_)
      refine AWp.cond rfl (fun hc => ?_) (fun hc => ?_)
      rotate_left
      · cases hc
      repeat (first | refine AWp.seq ?_ | refine AWp.block ?_)
      apply AWp.reg [] []
      · conv => lhs; simp [hA, hC, lkObj, Tm.row, Tm.rows_eq, Cs.rows_eq, D.aget, D.aput, D.adel, D.keq, hdeep, q25]
      · (repeat' apply And.intro) <;> first | omega | assumption | trivial | (simp [inI, maxLen]; done) | (simp [inI, maxLen]; omega)
      refine AWp.ret ?_
      try dsimp only [thenQ, blockQ]
      apply endC.ret
      · rfl
      · conv => lhs; simp [resAV, Try.results51]
      · simp only [Tm.wrong, if_neg hdeep, if_neg hkk, hN0, hC0, if_pos (show manyB 7 na nc = true by simp [manyB]; omega)]; rfl
      · simp [moEnd, memGet]
  obtain ⟨hkk, hm, hh⟩ := hφ
  repeat (first | refine AWp.seq ?_ | refine AWp.block ?_)
  apply AWp.reg [] []
  · conv => lhs; simp [Tm.row, Tm.rows_eq, Cs.rows_eq]
  · (repeat' apply And.intro) <;> first | omega | assumption | trivial | (simp [inI, maxLen]; done) | (simp [inI, maxLen]; omega)
  repeat (first | refine AWp.seq ?_ | refine AWp.block ?_)
  refine AWp.loop (σ := fun u : {i : Nat // i ≤ xs.length ∧ Tm.wrongs f k a names deep 0 xs = Tm.wrongs f k a names deep i (xs.drop i)} => ⟨249, [(0, .ptr 1001 0), (1, .d (.ptr (Tm.mk k n a b vs xs cs).row)), (2, strsAV names), (3, .d (.int deep)), (199, .d (.int xs.length)), (200, .d (.int u.1))], [(1001, some lkObj), (1002, some (fnsObj (arD f)))]⟩)
    (μ := fun u => xs.length - u.1) ⟨0, Nat.zero_le _, rfl⟩ (Le.sub (by simp [Tm.row, Tm.rows_eq, Cs.rows_eq]) (by simp)) (fun ⟨i, hi, hw⟩ => ?_)
  dsimp only
  repeat (first | refine AWp.seq ?_ | refine AWp.block ?_)
  apply AWp.reg [] []
  · conv => lhs; simp
  · trivial
  repeat (first | refine AWp.seq ?_ | refine AWp.block ?_)
  refine AWp.cond rfl (fun h => ?_) (fun h => ?_)
  · have hi1 : i < xs.length := by have := of_decide_eq_true h; omega
    have h1 : xs[i]? = some xs[i] := List.getElem?_eq_getElem hi1
    have hmem : xs[i] ∈ xs := List.getElem_mem hi1
    have hdr : xs.drop i = xs[i] :: xs.drop (i + 1) := List.drop_eq_getElem_cons hi1
    generalize xs[i] = x at h1 hmem hdr
    obtain ⟨ins, hins⟩ : ∃ ins, ins = if k = 6 ∧ i = 1 then names ++ [a] else names := ⟨_, rfl⟩
    have hil : (ins.length : Int) ≤ 1048576 + 8 * (deep + 1) := by rw [hins]; split <;> (try rw [List.length_append, List.length_singleton]) <;> omega
    have hp := ih x ins (deep + 1) (by have := Tm.sz_arg (k := k) (n := n) (a := a) (b := b) (vs := vs) (cs := cs) hmem; omega) (hO.arg hmem) (by omega) (by omega) hil
    rw [hdr] at hw
    simp only [Tm.wrongs, ← hins] at hw
    generalize x.wrong f ins (deep + 1) = e at hp hw
    obtain ⟨xk, xn, xa, xb, xv, xx, xc⟩ := x
    simp only [Tm.row, Tm.rows_eq, Cs.rows_eq] at hp
    refine AWp.skip ?_
    repeat (first | refine AWp.seq ?_ | refine AWp.block ?_)
    apply AWp.reg [] []
    · conv => lhs; simp
    · first | trivial | omega | (simp [inI, maxLen]; done) | (simp [inI, maxLen]; omega)
    repeat (first | refine AWp.seq ?_ | refine AWp.block ?_)
    apply AWp.reg [] []
    · conv => lhs; simp
    · trivial
    refine AWp.seqJ ⟨249, [(0, .ptr 1001 0), (1, .d (.ptr (Tm.mk k n a b vs xs cs).row)), (2, strsAV names), (3, .d (.int deep)), (199, .d (.int xs.length)), (200, .d (.int i)), (14, .d (.int i)), (15, strsAV ins)], [(1001, some lkObj), (1002, some (fnsObj (arD f)))]⟩ ?_ (fun W hW => ?_)
    rotate_left
    · by_cases k6 : k = 6
      · subst k6
        by_cases i1 : i = 1
        · subst i1
          rw [if_pos ⟨rfl, rfl⟩] at hins
          subst hins
          have hcl := sp_Clone names (by omega)
          repeat (first | refine AWp.seq ?_ | refine AWp.block ?_)
          apply AWp.reg [] []
          · conv => lhs; simp [Tm.row, Tm.rows_eq, Cs.rows_eq]
          · trivial
          repeat (first | refine AWp.seq ?_ | refine AWp.block ?_)
          refine AWp.cond rfl (fun h2 => ?_) (fun h2 => ?_)
          rotate_left
          · cases h2
          repeat (first | refine AWp.seq ?_ | refine AWp.block ?_)
          apply AWp.draw [7] [.p (fun d => .arr d 0 names.length) (some (.arr 9 1 (names.map strR)))] mixed
          · conv => lhs; simp [Tm.row, Tm.rows_eq, Cs.rows_eq]
          · kernel_rfl
          · (repeat' apply And.intro) <;> first | omega | assumption | trivial | (simp [inI, maxLen]; done) | (simp [inI, maxLen]; omega)
          exact hW _ (Le.sub (by simp [Tm.row, Tm.rows_eq, Cs.rows_eq]; rw [List.take_of_length_le (by simp)]) (by simp))
        · have i1' : ¬ (i : Int) = 1 := by omega
          rw [if_neg (by omega)] at hins
          subst hins
          repeat (first | refine AWp.seq ?_ | refine AWp.block ?_)
          apply AWp.reg [] []
          · conv => lhs; simp [i1, i1', Tm.row, Tm.rows_eq, Cs.rows_eq]
          · trivial
          repeat (first | refine AWp.seq ?_ | refine AWp.block ?_)
          refine AWp.cond rfl (fun h2 => ?_) (fun h2 => ?_)
          · cases h2
          refine AWp.skip ?_
          exact hW _ (Le.sub (by simp [Tm.row, Tm.rows_eq, Cs.rows_eq]) (by simp))
      · rw [if_neg (by omega)] at hins
        subst hins
        repeat (first | refine AWp.seq ?_ | refine AWp.block ?_)
        apply AWp.reg [] []
        · conv => lhs; simp [k6, Tm.row, Tm.rows_eq, Cs.rows_eq]
        · trivial
        repeat (first | refine AWp.seq ?_ | refine AWp.block ?_)
        refine AWp.cond rfl (fun h2 => ?_) (fun h2 => ?_)
        · cases h2
        refine AWp.skip ?_
        exact hW _ (Le.sub (by simp [Tm.row, Tm.rows_eq, Cs.rows_eq]) (by simp))
    repeat (first | refine AWp.seq ?_ | refine AWp.block ?_)
    apply AWp.reg [] [.c [] [.ptr 1001 0, .d (.ptr (Tm.mk xk xn xa xb xv xx xc).row), strsAV ins, .d (.int (deep + 1))] [(1001, lkObj), (1002, fnsObj (arD f))] (.d (.int e)) [(1001, lkObj), (1002, fnsObj (arD f))]]
    · conv => lhs; simp [h1, Tm.row, Tm.rows_eq, Cs.rows_eq, lkObj]
    · (repeat' apply And.intro) <;> first | omega | assumption | trivial | (simp [inI, maxLen]; done) | (simp [inI, maxLen]; omega)
    by_cases he : e = 0
    · subst he
      simp only [ne_eq, not_true_eq_false, if_false] at hw
      repeat (first | refine AWp.seq ?_ | refine AWp.block ?_)
      apply AWp.reg [] []
      · conv => lhs; simp
      · trivial
      repeat (first | refine AWp.seq ?_ | refine AWp.block ?_)
      refine AWp.cond rfl (fun h2 => ?_) (fun h2 => ?_)
      · cases h2
      refine AWp.skip ?_
      repeat (first | refine AWp.seq ?_ | refine AWp.block ?_)
      apply AWp.reg [] []
      · conv => lhs; simp
      · first | trivial | omega | (simp [inI, maxLen]; done) | (simp [inI, maxLen]; omega)
      refine ⟨⟨i + 1, hi1, hw⟩, by simp; omega, Le.sub (by simp [Tm.row, Tm.rows_eq, Cs.rows_eq]) (by simp)⟩
    · rw [if_pos he] at hw
      repeat (first | refine AWp.seq ?_ | refine AWp.block ?_)
      apply AWp.reg [] []
      · conv => lhs; simp [he]
      · trivial
      repeat (first | refine AWp.seq ?_ | refine AWp.block ?_)
      refine AWp.cond rfl (fun h2 => ?_) (fun h2 => ?_)
      rotate_left
      · cases h2
      repeat (first | refine AWp.seq ?_ | refine AWp.block ?_)
      apply AWp.reg [] []
      · conv => lhs; simp
      · trivial
      refine AWp.ret ?_
      try dsimp only [thenQ, blockQ]
      apply endC.ret
      · rfl
      · conv => lhs; simp [resAV, Try.results51]
      · simp only [Tm.wrong, if_neg hdeep, if_neg hkk, hN0, hC0, hm, Bool.false_eq_true, hh, hw, if_pos he, ne_eq, not_true_eq_false, if_false]; rfl
      · simp [moEnd, memGet]
  have hi1 : i = xs.length := by have := of_decide_eq_false h; omega
  subst hi1
  rw [List.drop_length] at hw
  simp only [Tm.wrongs] at hw
  clear h
  refine AWp.exit ?_
  by_cases k7 : k = 7
  rotate_left
  · repeat (first | refine AWp.seq ?_ | refine AWp.block ?_)
    apply AWp.reg [] []
    · conv => lhs; simp [k7, Tm.row, Tm.rows_eq, Cs.rows_eq]
    · trivial
    repeat (first | refine AWp.seq ?_ | refine AWp.block ?_)
    refine AWp.cond rfl (fun h2 => ?_) (fun h2 => ?_)
    · cases h2
    refine AWp.skip ?_
    repeat (first | refine AWp.seq ?_ | refine AWp.block ?_)
    apply AWp.reg [] []
    · conv => lhs; simp
    · trivial
    refine AWp.ret ?_
    try dsimp only [thenQ, blockQ]
    apply endC.ret
    · rfl
    · conv => lhs; simp [resAV, Try.results51]
    · simp only [Tm.wrong, if_neg hdeep, if_neg hkk, hN0, hC0, hm, Bool.false_eq_true, hh, hw, if_pos k7, ne_eq, not_true_eq_false, if_false]; rfl
    · simp [moEnd, memGet]
  subst k7
  repeat (first | refine AWp.seq ?_ | refine AWp.block ?_)
  apply AWp.reg [] []
  · conv => lhs; simp [Tm.row, Tm.rows_eq, Cs.rows_eq]
  · trivial
  repeat (first | refine AWp.seq ?_ | refine AWp.block ?_)
  refine AWp.cond rfl (fun h2 => ?_) (fun h2 => ?_)
  rotate_left
  · cases h2
  have hfin : (if cs.length = 0 ∨ 5 < cs.length then 5 else Cs.wrongs f names deep [] cs) = Tm.wrong f (.mk 7 n a b vs xs cs) names deep := by
    simp only [Tm.wrong, if_neg hdeep, if_neg hkk, hN0, hC0, hm, Bool.false_eq_true, hh, hw, ne_eq, not_true_eq_false, if_false]
  have hq := ihc cs names deep (by simp only [Tm.sz] at hN; omega) (fun c hc => hO.case hc) o3 hd0 (by omega) hnl
  rw [hfin] at hq
  generalize Tm.wrong f (.mk 7 n a b vs xs cs) names deep = E at hq
  repeat (first | refine AWp.seq ?_ | refine AWp.block ?_)
  apply AWp.reg [] [.c [] [.ptr 1001 0, .d (.sl (cs.map Cs.row)), strsAV names, .d (.int deep)] [(1001, lkObj), (1002, fnsObj (arD f))] (.d (.int E)) [(1001, lkObj), (1002, fnsObj (arD f))]]
  · conv => lhs; simp [Tm.row, Tm.rows_eq, Cs.rows_eq, lkObj]
  · (repeat' apply And.intro) <;> first | omega | assumption | trivial | (simp [inI, maxLen]; done) | (simp [inI, maxLen]; omega)
  refine AWp.ret ?_
  try dsimp only [thenQ, blockQ]
  apply endC.ret
  · rfl
  · conv => lhs; simp [resAV, Try.results51]
  · rfl
  · simp [moEnd, memGet]
end Go.Proofs.Ytialccgjbanmcaa
