/- (*scope.looker).cases, by the abstract machine; both together. Printed by walk_cases.py. -/
import Derived.Test.YtialccgjbanmcaaLookA
namespace Go.Proofs.Ytialccgjbanmcaa
open Go.RowKit
attribute [local simp] runD mkRc dstOk guardOk opEff opEff0 effOp pureOp callOp zEff evA constAV frGet memGet startAS frOf isGoCall idIn AS.after nextR opnIds objIds AV.ids idsL AObj.ids frNo memNo opnAny isAny mkVal rdCells wrCells fldAddr idxAddr srcRows litRows toD1 toDs setAt sliceAV optI partAV bldAV fillAV binAV binI AV.cells callEff calleeOf frKill memKill AV.kill AObj.kill AV.has AV.hasL Op.operands Call.operands keepF keepM viewIds cChk renOf moGet moWs moQ cEff moLike moHave AV.ren renL AObj.ren AObj.like kept startC moMem AV.frz frz1 frzL frSub memSub frzs AS.frz frFrz memFrz AObj.frz takeMap takeLen bleF Nat.ble_eq memAny objAny mapOp D.keyOk rowAV valRow extOp wrapOp phO
set_option linter.unusedVariables false
set_option linter.unusedSimpArgs false

/-- The tags that were had. -/
def hadD (l : List Int) : List (D × List D) := l.map fun t => (.int t, [.bool true])
def hadT (l : List Cs) (i : Nat) : List Int := ((l.take i).map Cs.tag).reverse
def inH (l : List Int) (g : Int) : Bool := l.contains g
theorem hadD_get (g : Int) : ∀ l : List Int, D.aget (.int g) (hadD l) = if inH l g = true then some [.bool true] else none
  | [] => by simp [hadD, D.aget, inH]
  | x :: l => by
    have ih := hadD_get g l
    unfold hadD inH at ih
    unfold hadD inH
    by_cases h : x = g
    · subst h; simp [D.aget, D.keq]
    · have h' : ¬ g = x := fun e => h e.symm
      simp only [List.map_cons]
      rw [show D.aget (.int g) ((D.int x, [D.bool true]) :: List.map (fun t => (D.int t, [D.bool true])) l) = D.aget (.int g) (List.map (fun t => (D.int t, [D.bool true])) l) by simp [D.aget, D.keq, h], ih]
      simp [h']
theorem hadD_put {g : Int} {l : List Int} (h : inH l g = false) : D.aput (.int g) [.bool true] (hadD l) = hadD (g :: l) := by
  unfold D.aput
  rw [D.adel_all]
  · rfl
  · intro p hp
    unfold hadD at hp
    obtain ⟨t, ht, rfl⟩ := List.mem_map.1 hp
    intro e
    simp only [D.int.injEq] at e
    subst e
    have : l.contains t = true := List.contains_iff_mem.2 ht
    unfold inH at h
    rw [this] at h; cases h

set_option maxRecDepth 20000 in
set_option maxHeartbeats 16000000 in
theorem cases_of (f : Arity) (N : Nat) (ih : TermSaid f N) : CasesSaid f N := by
  intro l names deep hN hOk hl hd0 hd1 hnl
  obtain ⟨C, hC⟩ : ∃ C : Int, (l.length : Int) = C := ⟨_, rfl⟩
  refine CSpec.of Try.func62 rfl rfl (Nat.le_of_ble_eq_true rfl) ?_
  show AWp _ _ (endC _ Try.f62 _ _) (startC 96 _ _)
  repeat (first | refine AWp.seq ?_ | refine AWp.block ?_)
  apply AWp.reg [] []
  · conv => lhs; simp [hC, Cs.row, Tm.row, Tm.rows_eq, Cs.rows_eq, lkObj, kpObj]
  · (repeat' apply And.intro) <;> first | omega | assumption | trivial | (simp [inI, maxLen]; done) | (simp [inI, maxLen]; omega)
  by_cases q1 : C < 1
  · repeat (first | refine AWp.seq ?_ | refine AWp.block ?_)
    apply AWp.reg [] []
    · conv => lhs; simp [hC, Cs.row, Tm.row, Tm.rows_eq, Cs.rows_eq, lkObj, kpObj, q1]
    · (repeat' apply And.intro) <;> first | omega | assumption | trivial | (simp [inI, maxLen]; done) | (simp [inI, maxLen]; omega)
    repeat (first | refine AWp.seq ?_ | refine AWp.block ?_)
    refine AWp.cond rfl (fun hc => ?_) (fun hc => ?_)
    rotate_left
    · cases hc
    repeat (first | refine AWp.seq ?_ | refine AWp.block ?_)
    apply AWp.reg [] []
    · conv => lhs; simp [hC, Cs.row, Tm.row, Tm.rows_eq, Cs.rows_eq, lkObj, kpObj, q1]
    · (repeat' apply And.intro) <;> first | omega | assumption | trivial | (simp [inI, maxLen]; done) | (simp [inI, maxLen]; omega)
    refine AWp.ret ?_
    try dsimp only [thenQ, blockQ]
    apply endC.ret
    · rfl
    · conv => lhs; simp [resAV, Try.results62]
    · rw [if_pos (show l.length = 0 ∨ 5 < l.length by omega)]; rfl
    · simp [moEnd, memGet, lkObj]
  by_cases q2 : 5 < C
  · repeat (first | refine AWp.seq ?_ | refine AWp.block ?_)
    apply AWp.reg [] []
    · conv => lhs; simp [hC, Cs.row, Tm.row, Tm.rows_eq, Cs.rows_eq, lkObj, kpObj, q1, q2]
    · (repeat' apply And.intro) <;> first | omega | assumption | trivial | (simp [inI, maxLen]; done) | (simp [inI, maxLen]; omega)
    repeat (first | refine AWp.seq ?_ | refine AWp.block ?_)
    refine AWp.cond rfl (fun hc => ?_) (fun hc => ?_)
    rotate_left
    · cases hc
    repeat (first | refine AWp.seq ?_ | refine AWp.block ?_)
    apply AWp.reg [] []
    · conv => lhs; simp [hC, Cs.row, Tm.row, Tm.rows_eq, Cs.rows_eq, lkObj, kpObj, q1, q2]
    · (repeat' apply And.intro) <;> first | omega | assumption | trivial | (simp [inI, maxLen]; done) | (simp [inI, maxLen]; omega)
    refine AWp.ret ?_
    try dsimp only [thenQ, blockQ]
    apply endC.ret
    · rfl
    · conv => lhs; simp [resAV, Try.results62]
    · rw [if_pos (show l.length = 0 ∨ 5 < l.length by omega)]; rfl
    · simp [moEnd, memGet, lkObj]
  repeat (first | refine AWp.seq ?_ | refine AWp.block ?_)
  apply AWp.reg [] []
  · conv => lhs; simp [hC, Cs.row, Tm.row, Tm.rows_eq, Cs.rows_eq, lkObj, kpObj, q1, q2]
  · (repeat' apply And.intro) <;> first | omega | assumption | trivial | (simp [inI, maxLen]; done) | (simp [inI, maxLen]; omega)
  repeat (first | refine AWp.seq ?_ | refine AWp.block ?_)
  refine AWp.cond rfl (fun hc => ?_) (fun hc => ?_)
  · cases hc
  refine AWp.skip ?_
  have hlen : ¬ (l.length = 0 ∨ 5 < l.length) := by omega
  repeat (first | refine AWp.seq ?_ | refine AWp.block ?_)
  apply AWp.reg [] []
  · conv => lhs; simp [hC, Cs.row, Tm.row, Tm.rows_eq, Cs.rows_eq, lkObj, kpObj, q1, q2]
  · (repeat' apply And.intro) <;> first | omega | assumption | trivial | (simp [inI, maxLen]; done) | (simp [inI, maxLen]; omega)
  repeat (first | refine AWp.seq ?_ | refine AWp.block ?_)
  apply AWp.reg [] []
  · conv => lhs; simp [hC, Cs.row, Tm.row, Tm.rows_eq, Cs.rows_eq, lkObj, kpObj, q1, q2]
  · (repeat' apply And.intro) <;> first | omega | assumption | trivial | (simp [inI, maxLen]; done) | (simp [inI, maxLen]; omega)
  repeat (first | refine AWp.seq ?_ | refine AWp.block ?_)
  refine AWp.loop (σ := fun u : {i : Nat // i ≤ l.length ∧ Cs.wrongs f names deep [] l = Cs.wrongs f names deep (hadT l i) (l.drop i)} => ⟨96, [(1, .d (.sl (l.map Cs.row))), (2, strsAV names), (3, .d (.int deep)), (4, .ptr 4 0), (9, .mp 21), (23, .d (.int l.length)), (24, .d (.int u.1))], [(4, some kpObj), (21, some (.map false false 1 (hadD (hadT l u.1)))), (1001, some lkObj), (1002, some (fnsObj (arD f)))]⟩)
    (μ := fun u => l.length - u.1) ⟨0, Nat.zero_le _, rfl⟩ (Le.sub (by simp [hadD, hadT, kpObj, lkObj, hC]) (by simp [hadD, hadT, kpObj, lkObj, hC])) (fun ⟨i, hi, hwi⟩ => ?_)
  dsimp only
  repeat (first | refine AWp.seq ?_ | refine AWp.block ?_)
  apply AWp.reg [] []
  · conv => lhs; simp
  · trivial
  repeat (first | refine AWp.seq ?_ | refine AWp.block ?_)
  refine AWp.cond rfl (fun hci => ?_) (fun hci => ?_)
  · have hi1 : i < l.length := by have := of_decide_eq_true hci; omega
    have h1c : l[i]? = some l[i] := List.getElem?_eq_getElem hi1
    have hmc : l[i] ∈ l := List.getElem_mem hi1
    have hdc : l.drop i = l[i] :: l.drop (i + 1) := List.drop_eq_getElem_cons hi1
    generalize l[i] = c at h1c hmc hdc
    obtain ⟨g, ws, x⟩ := c
    have hsn : hadT l (i + 1) = g :: hadT l i := by unfold hadT; rw [List.take_add_one, h1c]; simp [Cs.tag]
    obtain ⟨oc1, oc2⟩ := (hOk _ hmc).body
    have hws := (hOk _ hmc).sizes
    rw [hdc] at hwi
    simp only [Cs.wrongs] at hwi
    rw [show (Cs.mk g ws x).tag = g from rfl, ← hsn] at hwi
    obtain ⟨H, hH⟩ : ∃ H, H = hadT l i := ⟨_, rfl⟩
    rw [← hH] at hwi hsn ⊢
    obtain ⟨E, hE⟩ : ∃ E, E = Cs.wrongC f names deep H (.mk g ws x) := ⟨_, rfl⟩
    rw [← hE] at hwi
    simp only [Cs.wrongC] at hE
    rw [show H.contains g = inH H g from rfl] at hE
    have hal : ((names ++ ws).length : Int) = names.length + ws.length := by simp
    have hx := fun q : ((names ++ ws).length : Int) ≤ 1048576 + 8 * (deep + 1) => ih x (names ++ ws) (deep + 1) (by have := Cs.szs_mem hmc; simp only [Cs.sz] at this; omega) oc1 (by omega) (by omega) q
    generalize x.wrong f (names ++ ws) (deep + 1) = e at hx hE
    have hun := sp_unlike ws (by omega)
    have hbd := cs_ContainsFunc2 ws (by omega) (fun s => !nameB s) 69 (arD f) (fun s hs => cs_cases1 s (by have := hws s hs; omega) (arD f))
    rw [show (ws.any fun s => !nameB s) = badB ws from rfl] at hbd
    have hcl := sp_Clone names (by omega)
    obtain ⟨B, hB⟩ : ∃ B : Int, (ws.length : Int) = B := ⟨_, rfl⟩
    have hC' := hC
    refine AWp.skip ?_
    repeat (first | refine AWp.seq ?_ | refine AWp.block ?_)
    apply AWp.reg [] []
    · conv => lhs; simp [hC, Cs.row, Tm.row, Tm.rows_eq, Cs.rows_eq, lkObj, kpObj, h1c, hB, hadD_get, Cs.row, q1, q2]
    · (repeat' apply And.intro) <;> first | omega | assumption | trivial | (simp [inI, maxLen]; done) | (simp [inI, maxLen]; omega)
    obtain ⟨xk, xn, xa, xb, xv, xx, xc⟩ := x
    repeat (first | refine AWp.seq ?_ | refine AWp.block ?_)
    apply AWp.reg [] []
    · conv => lhs; simp [hC, Cs.row, Tm.row, Tm.rows_eq, Cs.rows_eq, lkObj, kpObj, h1c, hB, hadD_get, Cs.row, q1, q2]
    · (repeat' apply And.intro) <;> first | omega | assumption | trivial | (simp [inI, maxLen]; done) | (simp [inI, maxLen]; omega)
    by_cases q3 : g < 0
    · repeat (first | refine AWp.seq ?_ | refine AWp.block ?_)
      apply AWp.reg [] []
      · conv => lhs; simp [hC, Cs.row, Tm.row, Tm.rows_eq, Cs.rows_eq, lkObj, kpObj, h1c, hB, hadD_get, Cs.row, q1, q2, q3]
      · (repeat' apply And.intro) <;> first | omega | assumption | trivial | (simp [inI, maxLen]; done) | (simp [inI, maxLen]; omega)
      repeat (first | refine AWp.seq ?_ | refine AWp.block ?_)
      refine AWp.cond rfl (fun hc => ?_) (fun hc => ?_)
      rotate_left
      · cases hc
      repeat (first | refine AWp.seq ?_ | refine AWp.block ?_)
      apply AWp.reg [] []
      · conv => lhs; simp [hC, Cs.row, Tm.row, Tm.rows_eq, Cs.rows_eq, lkObj, kpObj, h1c, hB, hadD_get, Cs.row, q1, q2, q3]
      · (repeat' apply And.intro) <;> first | omega | assumption | trivial | (simp [inI, maxLen]; done) | (simp [inI, maxLen]; omega)
      refine AWp.ret ?_
      try dsimp only [thenQ, blockQ]
      apply endC.ret
      · rfl
      · conv => lhs; simp [resAV, Try.results62]
      · rw [if_pos (show g < 0 ∨ 9 < g by omega)] at hE; rw [if_neg hlen, hwi, hE]; rfl
      · simp [moEnd, memGet, lkObj]
    by_cases q4 : 9 < g
    · repeat (first | refine AWp.seq ?_ | refine AWp.block ?_)
      apply AWp.reg [] []
      · conv => lhs; simp [hC, Cs.row, Tm.row, Tm.rows_eq, Cs.rows_eq, lkObj, kpObj, h1c, hB, hadD_get, Cs.row, q1, q2, q3, q4]
      · (repeat' apply And.intro) <;> first | omega | assumption | trivial | (simp [inI, maxLen]; done) | (simp [inI, maxLen]; omega)
      repeat (first | refine AWp.seq ?_ | refine AWp.block ?_)
      refine AWp.cond rfl (fun hc => ?_) (fun hc => ?_)
      rotate_left
      · cases hc
      repeat (first | refine AWp.seq ?_ | refine AWp.block ?_)
      apply AWp.reg [] []
      · conv => lhs; simp [hC, Cs.row, Tm.row, Tm.rows_eq, Cs.rows_eq, lkObj, kpObj, h1c, hB, hadD_get, Cs.row, q1, q2, q3, q4]
      · (repeat' apply And.intro) <;> first | omega | assumption | trivial | (simp [inI, maxLen]; done) | (simp [inI, maxLen]; omega)
      refine AWp.ret ?_
      try dsimp only [thenQ, blockQ]
      apply endC.ret
      · rfl
      · conv => lhs; simp [resAV, Try.results62]
      · rw [if_pos (show g < 0 ∨ 9 < g by omega)] at hE; rw [if_neg hlen, hwi, hE]; rfl
      · simp [moEnd, memGet, lkObj]
    repeat (first | refine AWp.seq ?_ | refine AWp.block ?_)
    apply AWp.reg [] []
    · conv => lhs; simp [hC, Cs.row, Tm.row, Tm.rows_eq, Cs.rows_eq, lkObj, kpObj, h1c, hB, hadD_get, Cs.row, q1, q2, q3, q4]
    · (repeat' apply And.intro) <;> first | omega | assumption | trivial | (simp [inI, maxLen]; done) | (simp [inI, maxLen]; omega)
    repeat (first | refine AWp.seq ?_ | refine AWp.block ?_)
    refine AWp.cond rfl (fun hc => ?_) (fun hc => ?_)
    · cases hc
    cases q5 : inH H g with
    | true =>
      rw [q5] at hE
      repeat (first | refine AWp.seq ?_ | refine AWp.block ?_)
      apply AWp.reg [] []
      · conv => lhs; simp [hC, Cs.row, Tm.row, Tm.rows_eq, Cs.rows_eq, lkObj, kpObj, h1c, hB, hadD_get, Cs.row, q5, q1, q2, q3, q4]
      · (repeat' apply And.intro) <;> first | omega | assumption | trivial | (simp [inI, maxLen]; done) | (simp [inI, maxLen]; omega)
      repeat (first | refine AWp.seq ?_ | refine AWp.block ?_)
      refine AWp.cond rfl (fun hc => ?_) (fun hc => ?_)
      rotate_left
      · cases hc
      repeat (first | refine AWp.seq ?_ | refine AWp.block ?_)
      apply AWp.reg [] []
      · conv => lhs; simp [hC, Cs.row, Tm.row, Tm.rows_eq, Cs.rows_eq, lkObj, kpObj, h1c, hB, hadD_get, Cs.row, q5, q1, q2, q3, q4]
      · (repeat' apply And.intro) <;> first | omega | assumption | trivial | (simp [inI, maxLen]; done) | (simp [inI, maxLen]; omega)
      refine AWp.ret ?_
      try dsimp only [thenQ, blockQ]
      apply endC.ret
      · rfl
      · conv => lhs; simp [resAV, Try.results62]
      · rw [if_neg (show ¬ (g < 0 ∨ 9 < g) by omega), if_pos (by simp)] at hE; rw [if_neg hlen, hwi, hE]; rfl
      · simp [moEnd, memGet, lkObj]
    | false =>
      rw [q5] at hE
      cases q6 : twB ws with
      | true =>
        rw [q6] at hun hE
        repeat (first | refine AWp.seq ?_ | refine AWp.block ?_)
        apply AWp.reg [] [.p (fun _ => .d (.bool false)) none]
        · conv => lhs; simp [hC, Cs.row, Tm.row, Tm.rows_eq, Cs.rows_eq, lkObj, kpObj, h1c, hB, hadD_get, Cs.row, q5, q6, q1, q2, q3, q4]
        · (repeat' apply And.intro) <;> first | omega | assumption | trivial | (simp [inI, maxLen]; done) | (simp [inI, maxLen]; omega)
        repeat (first | refine AWp.seq ?_ | refine AWp.block ?_)
        refine AWp.cond rfl (fun hc => ?_) (fun hc => ?_)
        rotate_left
        · cases hc
        repeat (first | refine AWp.seq ?_ | refine AWp.block ?_)
        apply AWp.reg [] []
        · conv => lhs; simp [hC, Cs.row, Tm.row, Tm.rows_eq, Cs.rows_eq, lkObj, kpObj, h1c, hB, hadD_get, Cs.row, q5, q6, q1, q2, q3, q4]
        · (repeat' apply And.intro) <;> first | omega | assumption | trivial | (simp [inI, maxLen]; done) | (simp [inI, maxLen]; omega)
        refine AWp.ret ?_
        try dsimp only [thenQ, blockQ]
        apply endC.ret
        · rfl
        · conv => lhs; simp [resAV, Try.results62]
        · rw [if_neg (show ¬ (g < 0 ∨ 9 < g) by omega), if_pos (by simp)] at hE; rw [if_neg hlen, hwi, hE]; rfl
        · simp [moEnd, memGet, lkObj]
      | false =>
        rw [q6] at hun hE
        cases q7 : badB ws with
        | true =>
          rw [q7] at hbd hE
          repeat (first | refine AWp.seq ?_ | refine AWp.block ?_)
          apply AWp.reg [] [.p (fun _ => .d (.bool true)) none, .c [(1000, 4)] [strsAV ws, .clo 69 [.ptr 1000 0]] [(1000, kpObj), (1001, lkObj), (1002, fnsObj (arD f))] (.d (.bool true)) [(1000, kpObj), (1001, lkObj), (1002, fnsObj (arD f))]]
          · conv => lhs; simp [hC, Cs.row, Tm.row, Tm.rows_eq, Cs.rows_eq, lkObj, kpObj, h1c, hB, hadD_get, Cs.row, q5, q6, q7, q1, q2, q3, q4]
          · (repeat' apply And.intro) <;> first | omega | assumption | trivial | (simp [inI, maxLen]; done) | (simp [inI, maxLen]; omega)
          repeat (first | refine AWp.seq ?_ | refine AWp.block ?_)
          refine AWp.cond rfl (fun hc => ?_) (fun hc => ?_)
          rotate_left
          · cases hc
          repeat (first | refine AWp.seq ?_ | refine AWp.block ?_)
          apply AWp.reg [] []
          · conv => lhs; simp [hC, Cs.row, Tm.row, Tm.rows_eq, Cs.rows_eq, lkObj, kpObj, h1c, hB, hadD_get, Cs.row, q5, q6, q7, q1, q2, q3, q4]
          · (repeat' apply And.intro) <;> first | omega | assumption | trivial | (simp [inI, maxLen]; done) | (simp [inI, maxLen]; omega)
          refine AWp.ret ?_
          try dsimp only [thenQ, blockQ]
          apply endC.ret
          · rfl
          · conv => lhs; simp [resAV, Try.results62]
          · rw [if_neg (show ¬ (g < 0 ∨ 9 < g) by omega), if_pos (by simp)] at hE; rw [if_neg hlen, hwi, hE]; rfl
          · simp [moEnd, memGet, lkObj]
        | false =>
          rw [q7] at hbd hE
          repeat (first | refine AWp.seq ?_ | refine AWp.block ?_)
          apply AWp.reg [] [.p (fun _ => .d (.bool true)) none, .c [(1000, 4)] [strsAV ws, .clo 69 [.ptr 1000 0]] [(1000, kpObj), (1001, lkObj), (1002, fnsObj (arD f))] (.d (.bool false)) [(1000, kpObj), (1001, lkObj), (1002, fnsObj (arD f))]]
          · conv => lhs; simp [hC, Cs.row, Tm.row, Tm.rows_eq, Cs.rows_eq, lkObj, kpObj, h1c, hB, hadD_get, Cs.row, q5, q6, q7, q1, q2, q3, q4]
          · (repeat' apply And.intro) <;> first | omega | assumption | trivial | (simp [inI, maxLen]; done) | (simp [inI, maxLen]; omega)
          repeat (first | refine AWp.seq ?_ | refine AWp.block ?_)
          refine AWp.cond rfl (fun hc => ?_) (fun hc => ?_)
          · cases hc
          by_cases q8 : 6 < B
          · repeat (first | refine AWp.seq ?_ | refine AWp.block ?_)
            apply AWp.reg [] []
            · conv => lhs; simp [hC, Cs.row, Tm.row, Tm.rows_eq, Cs.rows_eq, lkObj, kpObj, h1c, hB, hadD_get, Cs.row, q5, q6, q7, q1, q2, q3, q4, q8]
            · (repeat' apply And.intro) <;> first | omega | assumption | trivial | (simp [inI, maxLen]; done) | (simp [inI, maxLen]; omega)
            repeat (first | refine AWp.seq ?_ | refine AWp.block ?_)
            refine AWp.cond rfl (fun hc => ?_) (fun hc => ?_)
            rotate_left
            · cases hc
            repeat (first | refine AWp.seq ?_ | refine AWp.block ?_)
            apply AWp.reg [] []
            · conv => lhs; simp [hC, Cs.row, Tm.row, Tm.rows_eq, Cs.rows_eq, lkObj, kpObj, h1c, hB, hadD_get, Cs.row, q5, q6, q7, q1, q2, q3, q4, q8]
            · (repeat' apply And.intro) <;> first | omega | assumption | trivial | (simp [inI, maxLen]; done) | (simp [inI, maxLen]; omega)
            refine AWp.ret ?_
            try dsimp only [thenQ, blockQ]
            apply endC.ret
            · rfl
            · conv => lhs; simp [resAV, Try.results62]
            · rw [if_neg (show ¬ (g < 0 ∨ 9 < g) by omega), if_neg (by simp), if_pos (show 6 < ws.length by omega)] at hE; rw [if_neg hlen, hwi, hE]; rfl
            · simp [moEnd, memGet, lkObj]
          repeat (first | refine AWp.seq ?_ | refine AWp.block ?_)
          apply AWp.reg [] []
          · conv => lhs; simp [hC, Cs.row, Tm.row, Tm.rows_eq, Cs.rows_eq, lkObj, kpObj, h1c, hB, hadD_get, Cs.row, q5, q6, q7, q1, q2, q3, q4, q8]
          · (repeat' apply And.intro) <;> first | omega | assumption | trivial | (simp [inI, maxLen]; done) | (simp [inI, maxLen]; omega)
          repeat (first | refine AWp.seq ?_ | refine AWp.block ?_)
          refine AWp.cond rfl (fun hc => ?_) (fun hc => ?_)
          · cases hc
          refine AWp.skip ?_
          have hput : D.aput (.int g) [.bool true] (hadD H) = hadD (g :: H) := hadD_put (by assumption)
          repeat (first | refine AWp.seq ?_ | refine AWp.block ?_)
          apply AWp.reg [] []
          · conv => lhs; simp [hC, Cs.row, Tm.row, Tm.rows_eq, Cs.rows_eq, lkObj, kpObj, h1c, hB, hadD_get, Cs.row, q5, q6, q7, hput, q1, q2, q3, q4, q8]
          · (repeat' apply And.intro) <;> first | omega | assumption | trivial | (simp [inI, maxLen]; done) | (simp [inI, maxLen]; omega)
          rw [if_neg (show ¬ (g < 0 ∨ 9 < g) by omega), if_neg (by simp), if_neg (show ¬ 6 < ws.length by omega)] at hE
          subst hE
          have hx := hx (by omega)
          obtain ⟨nw, hnw⟩ : ∃ nw, nw = names ++ ws := ⟨_, rfl⟩
          have hnw2 : List.take (names.length + ws.length) (List.map strR names ++ List.map strR ws) = List.map strR nw := by rw [hnw, List.map_append, List.take_of_length_le (by simp)]
          rw [← hnw] at hx
          simp only [Tm.row, Tm.rows_eq, Cs.rows_eq] at hx
          apply AWp.keep [1, 2, 3, 4, 9, 11, 23, 24] [4, 21, 1001, 1002]
          · conv => lhs; simp [keepF, frGet]
          · conv => lhs; simp [keepM, memGet]
          repeat (first | refine AWp.seq ?_ | refine AWp.block ?_)
          apply AWp.draw [10] [.p (fun d => .arr d 0 names.length) (some (.arr 9 1 (names.map strR))), .c [] [.ptr 1001 0, .d (.ptr (Tm.mk xk xn xa xb xv xx xc).row), strsAV nw, .d (.int (deep + 1))] [(1001, lkObj), (1002, fnsObj (arD f))] (.d (.int E)) [(1001, lkObj), (1002, fnsObj (arD f))]] mixed
          · conv => lhs; simp [hC, Cs.row, Tm.row, Tm.rows_eq, Cs.rows_eq, lkObj, kpObj, hadD_get, Cs.row, q5, q6, q7, hnw2, q1, q2, q3, q4, q8]
          · kernel_rfl
          · (repeat' apply And.intro) <;> first | omega | assumption | trivial | (simp [inI, maxLen]; done) | (simp [inI, maxLen]; omega)
          by_cases q9 : E = 0
          · repeat (first | refine AWp.seq ?_ | refine AWp.block ?_)
            apply AWp.reg [] []
            · conv => lhs; simp [hC, Cs.row, Tm.row, Tm.rows_eq, Cs.rows_eq, lkObj, kpObj, hadD_get, Cs.row, q5, q6, q7, hnw2, q1, q2, q3, q4, q8, q9]
            · (repeat' apply And.intro) <;> first | omega | assumption | trivial | (simp [inI, maxLen]; done) | (simp [inI, maxLen]; omega)
            repeat (first | refine AWp.seq ?_ | refine AWp.block ?_)
            refine AWp.cond rfl (fun hc => ?_) (fun hc => ?_)
            · cases hc
            refine AWp.skip ?_
            rw [if_neg (show ¬ (E ≠ 0) by omega)] at hwi
            repeat (first | refine AWp.seq ?_ | refine AWp.block ?_)
            apply AWp.reg [] []
            · conv => lhs; simp [hC, Cs.row, Tm.row, Tm.rows_eq, Cs.rows_eq, lkObj, kpObj, hadD_get, Cs.row, q5, q6, q7, hnw2, q1, q2, q3, q4, q8, q9]
            · (repeat' apply And.intro) <;> first | omega | assumption | trivial | (simp [inI, maxLen]; done) | (simp [inI, maxLen]; omega)
            refine ⟨⟨i + 1, hi1, hwi⟩, by simp; omega, ?_⟩
            dsimp only
            rw [show hadT l (i + 1) = g :: H from hsn]
            exact Le.sub (by simp [hC]) (by simp [kpObj, lkObj])
          repeat (first | refine AWp.seq ?_ | refine AWp.block ?_)
          apply AWp.reg [] []
          · conv => lhs; simp [hC, Cs.row, Tm.row, Tm.rows_eq, Cs.rows_eq, lkObj, kpObj, hadD_get, Cs.row, q5, q6, q7, hnw2, q1, q2, q3, q4, q8, q9]
          · (repeat' apply And.intro) <;> first | omega | assumption | trivial | (simp [inI, maxLen]; done) | (simp [inI, maxLen]; omega)
          repeat (first | refine AWp.seq ?_ | refine AWp.block ?_)
          refine AWp.cond rfl (fun hc => ?_) (fun hc => ?_)
          rotate_left
          · cases hc
          repeat (first | refine AWp.seq ?_ | refine AWp.block ?_)
          apply AWp.reg [] []
          · conv => lhs; simp [hC, Cs.row, Tm.row, Tm.rows_eq, Cs.rows_eq, lkObj, kpObj, hadD_get, Cs.row, q5, q6, q7, hnw2, q1, q2, q3, q4, q8, q9]
          · (repeat' apply And.intro) <;> first | omega | assumption | trivial | (simp [inI, maxLen]; done) | (simp [inI, maxLen]; omega)
          refine AWp.ret ?_
          try dsimp only [thenQ, blockQ]
          apply endC.ret
          · rfl
          · conv => lhs; simp [resAV, Try.results62]
          · rw [if_neg hlen, hwi, if_pos (by assumption)]; rfl
          · simp [moEnd, memGet, lkObj]
  have hi1 : i = l.length := by have := of_decide_eq_false hci; omega
  subst hi1
  clear hci
  rw [List.drop_length] at hwi
  simp only [Cs.wrongs] at hwi
  refine AWp.exit ?_
  repeat (first | refine AWp.seq ?_ | refine AWp.block ?_)
  apply AWp.reg [] []
  · conv => lhs; simp [hC, Cs.row, Tm.row, Tm.rows_eq, Cs.rows_eq, lkObj, kpObj, q1, q2]
  · (repeat' apply And.intro) <;> first | omega | assumption | trivial | (simp [inI, maxLen]; done) | (simp [inI, maxLen]; omega)
  refine AWp.ret ?_
  try dsimp only [thenQ, blockQ]
  apply endC.ret
  · rfl
  · conv => lhs; simp [resAV, Try.results62]
  · rw [if_neg hlen, hwi]; rfl
  · simp [moEnd, memGet, lkObj]

theorem looker_said (f : Arity) : ∀ N, TermSaid f N
  | 0 => fun t _ _ h => absurd h (Nat.not_lt_zero _)
  | N + 1 => term_step f N (looker_said f N) (cases_of f N (looker_said f N))
theorem cs_term (f : Arity) (t : Tm) (names : List ByteArray) (hO : t.Ok) (hn : names.length ≤ 1048576) :
    CSpec Try.prog 51 [.ptr 1001 0, .d (.ptr t.row), strsAV names, .d (.int 0)] (lkMo f) (.d (.int (t.wrong f names 0))) (lkMo f) :=
  looker_said f _ t names 0 (Nat.lt_succ_self _) hO (by omega) (by omega) (by omega)
end Go.Proofs.Ytialccgjbanmcaa
