import Derived.Test.YtapiiklnnkkdlaaDoorScopeB
import Derived.Test.YtapiiklnnkkdlaaDoorNameB
import Derived.Test.YtapiiklnnkkdlaaDoorScopeC
import Derived.Test.YtapiiklnnkkdlaaDoorFreeD
import Derived.Test.YtapiiklnnkkdlaaDoorParseA
import Derived.Test.YtapiiklnnkkdlaaDoorNameH
import Derived.Test.YtapiiklnnkkdlaaDoorClosP
/- xcref1.Check, scope.Check, by the abstract machine. Printed by walk_check.py. -/
namespace Go.Proofs.YtapiiklnnkkdlaaDoor
open Go.RowKit
attribute [local simp] runD mkRc ldOf stOf stOk ldArg noAny dstOk guardOk opEff opEff0 effOp pureOp callOp zEff evA constAV scalAV Value.oneCell' frGet memGet startAS frOf isGoCall idIn AS.after nextR opnIds objIds AV.ids idsL AObj.ids frNo memNo opnAny isAny mkVal rdCells wrCells fldAddr idxAddr srcRows litRows toD1 toDs setAt sliceAV optI partAV bldAV fillAV binAV binI AV.cells callEff calleeOf frKill memKill AV.kill AObj.kill AV.has AV.hasL Op.operands Call.operands keepF keepM viewIds cChk renOf moGet moWs moQ cEff moLike moHave AV.ren renL AObj.ren AObj.like kept startC moMem AV.frz frz1 frzL frSub memSub frzs AS.frz frFrz memFrz AObj.frz takeMap takeLen bleF Nat.ble_eq memAny objAny mapOp D.keyOk rowAV valRow extOp wrapOp phO
set_option linter.unusedVariables false
set_option linter.unusedSimpArgs false
theorem arD_put {f : Arity} {g : ByteArray} {n : Nat} (h : f.get g = none) : D.aput (.str g) [.int n] (arD f) = arD ((g, n) :: f) := by
  unfold D.aput
  rw [D.adel_all]
  · rfl
  · intro p hp
    unfold arD at hp
    obtain ⟨t, ht, rfl⟩ := List.mem_map.1 hp
    intro e
    simp only [D.str.injEq] at e
    subst e
    unfold Arity.get at h
    rw [Option.map_eq_none_iff, List.find?_eq_none] at h
    have := h t ht
    simp at this
set_option maxRecDepth 20000 in
set_option maxHeartbeats 16000000 in
theorem sp_refCheck (l : List Fn) (hl : FnsOk l) : PSpec Tryd.prog 16 [fnsAV l] (fun _ => .d (.int (checkE l))) none := by
  have hll := hl.len
  obtain ⟨C, hC⟩ : ∃ C : Int, (l.length : Int) = C := ⟨_, rfl⟩
  refine PSpec.of Tryd.func16 rfl rfl rfl (Nat.le_of_ble_eq_true rfl) ?_
  show AWp _ _ (endQ _ Tryd.f16 _ _ _) (startAS 81 _)
  refine AWp.rg [] [] ?_ (hr := by conv => lhs; simp [hC, Fn.row, Tm.row, Tm.rows_eq, Cs.rows_eq])
  by_cases q1 : C = 0
  · refine AWp.rg [] [] ?_ (hr := by conv => lhs; simp [hC, Fn.row, Tm.row, Tm.rows_eq, Cs.rows_eq, q1])
    refine AWp.cy ?_
    refine AWp.rg [] [] ?_ (hr := by conv => lhs; simp [hC, Fn.row, Tm.row, Tm.rows_eq, Cs.rows_eq, q1])
    refine AWp.ret ?_
    try dsimp only [thenQ, blockQ]
    apply endQ.ret
    · rfl
    · conv => lhs; simp [resAV, Tryd.results16]
    · rw [checkE, if_pos (show l.length = 0 ∨ 6 < l.length by omega)]; rfl
  by_cases q2 : 6 < C
  · refine AWp.rg [] [] ?_ (hr := by conv => lhs; simp [hC, Fn.row, Tm.row, Tm.rows_eq, Cs.rows_eq, q1, q2])
    refine AWp.cy ?_
    refine AWp.rg [] [] ?_ (hr := by conv => lhs; simp [hC, Fn.row, Tm.row, Tm.rows_eq, Cs.rows_eq, q1, q2])
    refine AWp.ret ?_
    try dsimp only [thenQ, blockQ]
    apply endQ.ret
    · rfl
    · conv => lhs; simp [resAV, Tryd.results16]
    · rw [checkE, if_pos (show l.length = 0 ∨ 6 < l.length by omega)]; rfl
  refine AWp.rg [] [] ?_ (hr := by conv => lhs; simp [hC, Fn.row, Tm.row, Tm.rows_eq, Cs.rows_eq, q1, q2])
  refine AWp.cn ?_
  refine AWp.skip ?_
  have hlen : ¬ (l.length = 0 ∨ 6 < l.length) := by omega
  refine AWp.rg [] [] ?_ (hr := by conv => lhs; simp [hC, Fn.row, Tm.row, Tm.rows_eq, Cs.rows_eq, q1, q2])
  refine AWp.rg [] [] ?_ (hr := by conv => lhs; simp [hC, Fn.row, Tm.row, Tm.rows_eq, Cs.rows_eq, q1, q2])
  repeat (first | refine AWp.seq ?_ | refine AWp.block ?_)
  refine AWp.loop (σ := fun u : {i : Nat // i ≤ l.length ∧ headsE [] l = headsE (arOf (l.take i)) (l.drop i)} => ⟨81, [(0, fnsAV l), (3, .mp 19), (20, fnsAV l), (21, .d (.int l.length)), (22, .d (.int u.1))], [(19, some (wrObj (arOf (l.take u.1))))]⟩)
    (μ := fun u => l.length - u.1) ⟨0, Nat.zero_le _, rfl⟩ (Le.sub (by simp [arOf, wrObj, arD, hC, nmObj]) (by simp [arOf, wrObj, arD, hC, nmObj])) (fun ⟨i, hi, hwi⟩ => ?_)
  dsimp only
  repeat (first | refine AWp.seq ?_ | refine AWp.block ?_)
  apply AWp.reg [] []
  · conv => lhs; simp
  · trivial
  repeat (first | refine AWp.seq ?_ | refine AWp.block ?_)
  refine AWp.cond rfl (fun hci => ?_) (fun hci => ?_)
  · have hi1 : i < l.length := by have := of_decide_eq_true hci; omega
    have h1c : l[i]? = some l[i] := List.getElem?_eq_getElem hi1
    have hmc : l[i] ∈ l := List.getElem_mem hi1
    have hdc : l.drop i = l[i] :: l.drop (i + 1) := List.drop_eq_getElem_cons hi1
    generalize l[i] = c at h1c hmc hdc
    obtain ⟨g, ps, bd⟩ := c
    have hsn : arOf (l.take (i + 1)) = (g, ps.length) :: arOf (l.take i) := by rw [List.take_add_one, h1c]; exact arOf_snoc _ _
    obtain ⟨o1, o2, o3, o4⟩ := hl.all _ hmc
    dsimp only at o1 o2 o3 o4
    rw [hdc] at hwi
    simp only [headsE] at hwi
    rw [← hsn] at hwi
    obtain ⟨f, hf⟩ : ∃ f, f = arOf (l.take i) := ⟨_, rfl⟩
    rw [← hf] at hwi hsn ⊢
    obtain ⟨E, hE⟩ : ∃ E, E = Fn.headE f ⟨g, ps, bd⟩ := ⟨_, rfl⟩
    rw [← hE] at hwi
    simp only [Fn.headE] at hE
    have hNm := sp_Name g (by omega)
    have hTw := sp_twice ps (by omega)
    have hBd := sp_bad ps (by omega) (fun s hs => by have := o3 s hs; omega)
    have hSz := sp_refSize bd o4
    obtain ⟨S, hS⟩ : ∃ S, S = wr bd.sz := ⟨_, rfl⟩
    rw [← hS] at hSz hE
    obtain ⟨B, hB⟩ : ∃ B : Int, (ps.length : Int) = B := ⟨_, rfl⟩
    obtain ⟨xk, xn, xa, xb, xv, xx, xc⟩ := bd
    refine AWp.skip ?_
    refine AWp.rg [] [] ?_ (hr := by conv => lhs; simp [hC, Fn.row, Tm.row, Tm.rows_eq, Cs.rows_eq, h1c, hB, q1, q2])
    cases hg : f.get g with
    | some m =>
      refine AWp.rg [] [] ?_ (hr := by conv => lhs; simp [hC, Fn.row, Tm.row, Tm.rows_eq, Cs.rows_eq, h1c, hB, arD_get, hg, q1, q2])
      refine AWp.rg [] [] ?_ (hr := by conv => lhs; simp [hC, Fn.row, Tm.row, Tm.rows_eq, Cs.rows_eq, h1c, hB, arD_get, hg, q1, q2])
      refine AWp.cy ?_
      refine AWp.rg [] [] ?_ (hr := by conv => lhs; simp [hC, Fn.row, Tm.row, Tm.rows_eq, Cs.rows_eq, h1c, hB, arD_get, hg, q1, q2])
      refine AWp.ret ?_
      rw [if_pos (by simp [hg])] at hE
      rw [if_pos (by omega)] at hwi
      try dsimp only [thenQ, blockQ]
      apply endQ.ret
      · rfl
      · conv => lhs; simp [resAV, Tryd.results16]
      · rw [checkE, if_neg hlen, hwi, if_pos (by omega), hE]; rfl
    | none =>
      refine AWp.rg [] [] ?_ (hr := by conv => lhs; simp [hC, Fn.row, Tm.row, Tm.rows_eq, Cs.rows_eq, h1c, hB, arD_get, hg, q1, q2])
      cases q3 : nameB g with
      | true =>
        rw [q3] at hNm
        cases q4 : twB ps with
        | true =>
          rw [q4] at hTw
          refine AWp.rg [] [.p (fun _ => .d (.bool true)) none, .p (fun _ => .d (.bool true)) none] ?_ (hr := by conv => lhs; simp [hC, Fn.row, Tm.row, Tm.rows_eq, Cs.rows_eq, h1c, hB, arD_get, hg, q3, q4, q1, q2])
          refine AWp.cy ?_
          refine AWp.rg [] [] ?_ (hr := by conv => lhs; simp [hC, Fn.row, Tm.row, Tm.rows_eq, Cs.rows_eq, h1c, hB, arD_get, hg, q3, q4, q1, q2])
          refine AWp.ret ?_
          rw [if_pos (by simp [hg, q3, q4])] at hE
          rw [if_pos (by omega)] at hwi
          try dsimp only [thenQ, blockQ]
          apply endQ.ret
          · rfl
          · conv => lhs; simp [resAV, Tryd.results16]
          · rw [checkE, if_neg hlen, hwi, if_pos (by omega), hE]; rfl
        | false =>
          rw [q4] at hTw
          cases q5 : badB ps with
          | true =>
            rw [q5] at hBd
            refine AWp.rg [] [.p (fun _ => .d (.bool true)) none, .p (fun _ => .d (.bool false)) none, .p (fun _ => .d (.bool true)) none] ?_ (hr := by conv => lhs; simp [hC, Fn.row, Tm.row, Tm.rows_eq, Cs.rows_eq, h1c, hB, arD_get, hg, q3, q4, q5, q1, q2])
            refine AWp.cy ?_
            refine AWp.rg [] [] ?_ (hr := by conv => lhs; simp [hC, Fn.row, Tm.row, Tm.rows_eq, Cs.rows_eq, h1c, hB, arD_get, hg, q3, q4, q5, q1, q2])
            refine AWp.ret ?_
            rw [if_pos (by simp [hg, q3, q4, q5])] at hE
            rw [if_pos (by omega)] at hwi
            try dsimp only [thenQ, blockQ]
            apply endQ.ret
            · rfl
            · conv => lhs; simp [resAV, Tryd.results16]
            · rw [checkE, if_neg hlen, hwi, if_pos (by omega), hE]; rfl
          | false =>
            rw [q5] at hBd
            refine AWp.rg [] [.p (fun _ => .d (.bool true)) none, .p (fun _ => .d (.bool false)) none, .p (fun _ => .d (.bool false)) none] ?_ (hr := by conv => lhs; simp [hC, Fn.row, Tm.row, Tm.rows_eq, Cs.rows_eq, h1c, hB, arD_get, hg, q3, q4, q5, q1, q2])
            refine AWp.cn ?_
            refine AWp.skip ?_
            by_cases q6 : 6 < B
            · refine AWp.rg [] [] ?_ (hr := by conv => lhs; simp [hC, Fn.row, Tm.row, Tm.rows_eq, Cs.rows_eq, h1c, hB, arD_get, hg, q3, q4, q5, q1, q2, q6])
              refine AWp.cy ?_
              refine AWp.rg [] [] ?_ (hr := by conv => lhs; simp [hC, Fn.row, Tm.row, Tm.rows_eq, Cs.rows_eq, h1c, hB, arD_get, hg, q3, q4, q5, q1, q2, q6])
              refine AWp.ret ?_
              rw [if_neg (by simp [hg, q3, q4, q5]), if_pos (show 6 < ps.length by omega)] at hE
              rw [if_pos (by omega)] at hwi
              try dsimp only [thenQ, blockQ]
              apply endQ.ret
              · rfl
              · conv => lhs; simp [resAV, Tryd.results16]
              · rw [checkE, if_neg hlen, hwi, if_pos (by omega), hE]; rfl
            refine AWp.rg [] [] ?_ (hr := by conv => lhs; simp [hC, Fn.row, Tm.row, Tm.rows_eq, Cs.rows_eq, h1c, hB, arD_get, hg, q3, q4, q5, q1, q2, q6])
            refine AWp.cn ?_
            refine AWp.skip ?_
            by_cases q7 : 400 < S
            · refine AWp.rg [] [.p (fun _ => .d (.int S)) none] ?_ (hr := by conv => lhs; simp [hC, Fn.row, Tm.row, Tm.rows_eq, Cs.rows_eq, h1c, hB, arD_get, hg, q3, q4, q5, q1, q2, q6, q7])
              refine AWp.cy ?_
              refine AWp.rg [] [] ?_ (hr := by conv => lhs; simp [hC, Fn.row, Tm.row, Tm.rows_eq, Cs.rows_eq, h1c, hB, arD_get, hg, q3, q4, q5, q1, q2, q6, q7])
              refine AWp.ret ?_
              rw [if_neg (by simp [hg, q3, q4, q5]), if_neg (show ¬ 6 < ps.length by omega), if_pos (show 400 < S by omega)] at hE
              rw [if_pos (by omega)] at hwi
              try dsimp only [thenQ, blockQ]
              apply endQ.ret
              · rfl
              · conv => lhs; simp [resAV, Tryd.results16]
              · rw [checkE, if_neg hlen, hwi, if_pos (by omega), hE]; rfl
            refine AWp.rg [] [.p (fun _ => .d (.int S)) none] ?_ (hr := by conv => lhs; simp [hC, Fn.row, Tm.row, Tm.rows_eq, Cs.rows_eq, h1c, hB, arD_get, hg, q3, q4, q5, q1, q2, q6, q7])
            refine AWp.cn ?_
            refine AWp.skip ?_
            rw [if_neg (by simp [hg, q3, q4, q5]), if_neg (show ¬ 6 < ps.length by omega), if_neg (show ¬ 400 < S by omega)] at hE
            rw [if_neg (show ¬ (E ≠ 0) by omega)] at hwi
            have hput : D.aput (.str g) [.int B] (arD f) = arD ((g, ps.length) :: f) := by rw [← hB]; exact arD_put hg
            refine AWp.rg [] [] ?_ (hr := by conv => lhs; simp [hC, Fn.row, Tm.row, Tm.rows_eq, Cs.rows_eq, h1c, hB, arD_get, hg, q3, q4, q5, hput, q1, q2, q6, q7])
            refine AWp.rg [] [] ?_ (hr := by conv => lhs; simp [hC, Fn.row, Tm.row, Tm.rows_eq, Cs.rows_eq, h1c, hB, arD_get, hg, q3, q4, q5, hput, q1, q2, q6, q7])
            refine ⟨⟨i + 1, hi1, hwi⟩, by simp; omega, ?_⟩
            dsimp only
            rw [hsn]
            exact Le.sub (by simp [hC]) (by simp [nmObj])
      | false =>
        rw [q3] at hNm
        refine AWp.rg [] [.p (fun _ => .d (.bool false)) none] ?_ (hr := by conv => lhs; simp [hC, Fn.row, Tm.row, Tm.rows_eq, Cs.rows_eq, h1c, hB, arD_get, hg, q3, q1, q2])
        refine AWp.cy ?_
        refine AWp.rg [] [] ?_ (hr := by conv => lhs; simp [hC, Fn.row, Tm.row, Tm.rows_eq, Cs.rows_eq, h1c, hB, arD_get, hg, q3, q1, q2])
        refine AWp.ret ?_
        rw [if_pos (by simp [hg, q3])] at hE
        rw [if_pos (by omega)] at hwi
        try dsimp only [thenQ, blockQ]
        apply endQ.ret
        · rfl
        · conv => lhs; simp [resAV, Tryd.results16]
        · rw [checkE, if_neg hlen, hwi, if_pos (by omega), hE]; rfl
  have hi1 : i = l.length := by have := of_decide_eq_false hci; omega
  subst hi1
  clear hci
  rw [List.drop_length] at hwi
  simp only [headsE] at hwi
  rw [List.take_length]
  have hall := heads_zero hwi
  refine AWp.exit ?_
  refine AWp.rg [] [] ?_ (hr := by conv => lhs; simp [hC, Fn.row, Tm.row, Tm.rows_eq, Cs.rows_eq, q1, q2])
  repeat (first | refine AWp.seq ?_ | refine AWp.block ?_)
  refine AWp.loop (σ := fun u : {j : Nat // j ≤ l.length ∧ bodiesE (arOf l) l = bodiesE (arOf l) (l.drop j)} => ⟨81, [(0, fnsAV l), (3, .mp 19), (65, fnsAV l), (66, .d (.int l.length)), (67, .d (.int u.1))], [(19, some (wrObj (arOf l)))]⟩)
    (μ := fun u => l.length - u.1) ⟨0, Nat.zero_le _, rfl⟩ (Le.sub (by simp [hC, nmObj]) (by simp [hC, nmObj])) (fun ⟨j, hi, hwj⟩ => ?_)
  dsimp only
  repeat (first | refine AWp.seq ?_ | refine AWp.block ?_)
  apply AWp.reg [] []
  · conv => lhs; simp
  · trivial
  repeat (first | refine AWp.seq ?_ | refine AWp.block ?_)
  refine AWp.cond rfl (fun hcj => ?_) (fun hcj => ?_)
  · have hi1 : j < l.length := by have := of_decide_eq_true hcj; omega
    have h1c : l[j]? = some l[j] := List.getElem?_eq_getElem hi1
    have hmc : l[j] ∈ l := List.getElem_mem hi1
    have hdc : l.drop j = l[j] :: l.drop (j + 1) := List.drop_eq_getElem_cons hi1
    generalize l[j] = c at h1c hmc hdc
    have hps := (hall _ hmc).2.2.2.1
    obtain ⟨g, ps, bd⟩ := c
    obtain ⟨o1, o2, o3, o4⟩ := hl.all _ hmc
    dsimp only at o1 o2 o3 o4 hps
    rw [hdc] at hwj
    simp only [bodiesE] at hwj
    have hx := cs_Wrong (arOf l) bd ps o4 (by omega)
    obtain ⟨E, hE⟩ : ∃ E, E = bd.wrong (arOf l) ps 0 := ⟨_, rfl⟩
    rw [← hE] at hwj hx
    obtain ⟨xk, xn, xa, xb, xv, xx, xc⟩ := bd
    refine AWp.skip ?_
    refine AWp.rg [] [] ?_ (hr := by conv => lhs; simp [hC, Fn.row, Tm.row, Tm.rows_eq, Cs.rows_eq, h1c, q1, q2])
    refine AWp.rg [] [.c [(1000, 19)] [.mp 1000, tmAV (.mk xk xn xa xb xv xx xc), strsAV ps, .d (.int 0)] [(1000, wrObj (arOf l))] (.d (.int E)) [(1000, wrObj (arOf l))]] ?_ (hr := by conv => lhs; simp [hC, Fn.row, Tm.row, Tm.rows_eq, Cs.rows_eq, h1c, q1, q2])
    by_cases q8 : E = 0
    · refine AWp.rg [] [] ?_ (hr := by conv => lhs; simp [hC, Fn.row, Tm.row, Tm.rows_eq, Cs.rows_eq, h1c, q1, q2, q8])
      refine AWp.cn ?_
      refine AWp.skip ?_
      rw [if_neg (show ¬ (E ≠ 0) by omega)] at hwj
      refine AWp.rg [] [] ?_ (hr := by conv => lhs; simp [hC, Fn.row, Tm.row, Tm.rows_eq, Cs.rows_eq, h1c, q1, q2, q8])
      refine ⟨⟨j + 1, hi1, hwj⟩, by simp; omega, ?_⟩
      dsimp only
      exact Le.sub (by simp [hC]) (by simp [nmObj])
    refine AWp.rg [] [] ?_ (hr := by conv => lhs; simp [hC, Fn.row, Tm.row, Tm.rows_eq, Cs.rows_eq, h1c, q1, q2, q8])
    refine AWp.cy ?_
    refine AWp.rg [] [] ?_ (hr := by conv => lhs; simp [hC, Fn.row, Tm.row, Tm.rows_eq, Cs.rows_eq, h1c, q1, q2, q8])
    refine AWp.ret ?_
    rw [if_pos (by omega)] at hwj
    try dsimp only [thenQ, blockQ]
    apply endQ.ret
    · rfl
    · conv => lhs; simp [resAV, Tryd.results16]
    · rw [checkE, if_neg hlen, hwi, if_neg (by omega), hwj]; rfl
  have hi1 : j = l.length := by have := of_decide_eq_false hcj; omega
  subst hi1
  clear hcj
  rw [List.drop_length] at hwj
  simp only [bodiesE] at hwj
  refine AWp.exit ?_
  refine AWp.rg [] [] ?_ (hr := by conv => lhs; simp [hC, Fn.row, Tm.row, Tm.rows_eq, Cs.rows_eq, q1, q2])
  refine AWp.ret ?_
  try dsimp only [thenQ, blockQ]
  apply endQ.ret
  · rfl
  · conv => lhs; simp [resAV, Tryd.results16]
  · rw [checkE, if_neg hlen, hwi, if_neg (by omega), hwj]; rfl

@[simp] theorem le_maxLen18 : 18 ≤ maxLen := by decide
theorem runE_ok (l : List Fn) (hr : ∀ x ∈ l, x.Fit (arOf l)) (name : ByteArray) (args : List Int) (fuel : Int) : (runE true l name args fuel).1.Ok := by
  unfold runE
  split
  · exact zeroV_fine.ok
  rename_i hf
  split
  · exact zeroV_fine.ok
  split
  · exact (evCall_fine true hr 40 name (args.map argV) fuel (fun v hv => by obtain ⟨n, _, rfl⟩ := List.mem_map.1 hv; exact argV_fine n) (by omega) (by omega)).1.ok
  · exact zeroV_fine.ok

def ShN (N : Nat) : Prop := ∀ t : Tm, t.sz ≤ N → t.In → t.wt ≤ 4611686018427387904 → PSpec Tryd.prog 47 [tmAV t] (fun _ => .d (.str t.sh)) none
set_option maxRecDepth 20000 in
set_option maxHeartbeats 16000000 in
theorem sh_step (N : Nat) (ih : ShN N) : ShN (N + 1) := by
  intro t hsz hI hW
  obtain ⟨R, hR⟩ : ∃ R, R = t.sh := ⟨_, rfl⟩
  rw [← hR]
  obtain ⟨tk, tn, ta, tb, tvs, txs, tcs⟩ := t
  obtain ⟨hn, hxI, hcI⟩ := hI
  rw [Tm.InL_iff] at hxI
  rw [Cs.InL_iff] at hcI
  rw [Tm.sz] at hsz
  rw [Tm.wt] at hW
  have hA := Tm.shL_size txs ⟨#[]⟩ (Tm.InL_iff.2 hxI)
  have hV := joinB_size tvs 0 ⟨#[]⟩
  have e0 : (⟨#[]⟩ : ByteArray).size = 0 := rfl
  rw [e0, Nat.zero_add] at hA hV
  have hxl := Tm.wtL_len txs
  have hcl := Cs.wtL_len tcs
  have hvl := strW_len tvs
  have hit0 := sp_Itoa tn hn
  have hT := itoaB_size hn
  obtain ⟨T, hT0⟩ : ∃ T, T = itoaB tn := ⟨_, rfl⟩
  rw [← hT0] at hit0 hT
  rw [Tm.sh] at hR
  have hx7 : (7 : Int) = 7 := rfl
  refine PSpec.of Tryd.func47 rfl rfl rfl (Nat.le_of_ble_eq_true rfl) ?_
  show AWp _ _ (endQ _ Tryd.f47 _ _ _) (startAS 209 _)
  refine AWp.rg [] [] ?_ (hr := by conv => lhs; simp [Tm.row, Tm.rows_eq, Cs.rows_eq])
  refine AWp.rg [] [] ?_ (hr := by conv => lhs; simp [Tm.row, Tm.rows_eq, Cs.rows_eq])
  refine AWp.rg [] [] ?_ (hr := by conv => lhs; simp [Tm.row, Tm.rows_eq, Cs.rows_eq])
  repeat (first | refine AWp.seq ?_ | refine AWp.block ?_)
  refine AWp.loop (σ := fun u : {u : Nat × ByteArray // u.1 ≤ txs.length ∧ (Tm.shL txs ⟨#[]⟩ = Tm.shL (txs.drop u.1) u.2 ∧ u.2.size + Tm.wtL (txs.drop u.1) ≤ Tm.wtL txs)} => ⟨209, [(1, .ptr 1 0), (3, .d (.str u.1.2)), (16, .d (.sl (txs.map Tm.row))), (17, .d (.int (txs.length : Int))), (18, .d (.int (u.1.1 : Int)))], [(1, some (.blk 34 [.d (.int tk), .d (.int tn), .d (.str ta), .d (.str tb), .d (strsD tvs), .d (.sl (txs.map Tm.row)), .d (.sl (tcs.map Cs.row))]))]⟩)
    (μ := fun u => txs.length - u.1.1) ⟨(0, ⟨#[]⟩), ⟨Nat.zero_le _, ⟨by rw [List.drop_zero], by rw [List.drop_zero]; exact Nat.le_of_eq (Nat.zero_add _)⟩⟩⟩ (Le.sub (by simp) (by simp)) (fun ⟨(i, o), ⟨hi3, hw⟩⟩ => ?_)
  dsimp only at hi3 hw ⊢
  refine AWp.rg [] [] ?_ (hr := by conv => lhs; simp [Tm.row, Tm.rows_eq, Cs.rows_eq])
  repeat (first | refine AWp.seq ?_ | refine AWp.block ?_)
  refine AWp.cond rfl (fun hc => ?_) (fun hc => ?_)
  · have hi1 : i < txs.length := by have := of_decide_eq_true hc; omega
    clear hc
    have h1y : txs[i]? = some txs[i] := List.getElem?_eq_getElem hi1
    have hmy : txs[i] ∈ txs := List.getElem_mem hi1
    have hdy : txs.drop i = txs[i] :: txs.drop (i + 1) := List.drop_eq_getElem_cons hi1
    generalize txs[i] = y at h1y hmy hdy
    obtain ⟨ho1, ho2⟩ := hw
    have hyw := Tm.wtL_mem hmy
    rw [hdy, Tm.shL] at ho1
    rw [hdy, Tm.wtL] at ho2
    have hx := ih y (by have := Tm.szs_mem hmy; omega) (hxI y hmy) (by omega)
    have hz := Tm.sh_size y (hxI y hmy)
    generalize y.sh = z at hx hz ho1
    generalize y.wt = yw at hz ho2 hyw
    obtain ⟨yk, yn, ya, yb, yvs, yxs, ycs⟩ := y
    refine AWp.skip ?_
    refine AWp.rg [] [] ?_ (hr := by conv => lhs; simp [Tm.row, Tm.rows_eq, Cs.rows_eq, h1y])
    refine AWp.rg [] [.p (fun _ => .d (.str z)) none] ?_ (hr := by conv => lhs; simp [Tm.row, Tm.rows_eq, Cs.rows_eq, h1y])
    refine AWp.rg [] [] ?_ (hr := by conv => lhs; simp [Tm.row, Tm.rows_eq, Cs.rows_eq, h1y])
    refine ⟨⟨(i + 1, (o ++ ⟨#[32]⟩) ++ z), hi1, ⟨ho1, by dsimp only; try simp only [ByteArray.size_append, zl0, zl1, zl2, zl3, zl4, zl5, zl6, zl7, zl8, zl9, zl10, zl11, zl12, zl13, zl14, zl15, zl16, zl17, zl18]; omega⟩⟩, by simp; omega, ?_⟩
    dsimp only
    exact Le.sub (by simp) (by simp)
  have hi1 : i = txs.length := by have := of_decide_eq_false hc; omega
  subst hi1
  clear hc
  obtain ⟨ho1, ho2⟩ := hw
  rw [List.drop_length, Tm.shL] at ho1
  rw [ho1] at hR hA
  clear ho1 ho2
  obtain ⟨A, hAA⟩ : ∃ A, A = o := ⟨_, rfl⟩
  rw [← hAA] at hR hA
  refine AWp.exit ?_
  rw [← hAA]
  clear hAA
  refine AWp.rg [] [] ?_ (hr := by conv => lhs; simp [Tm.row, Tm.rows_eq, Cs.rows_eq])
  refine AWp.rg [] [] ?_ (hr := by conv => lhs; simp [Tm.row, Tm.rows_eq, Cs.rows_eq])
  repeat (first | refine AWp.seq ?_ | refine AWp.block ?_)
  refine AWp.loop (σ := fun u : {u : Nat × ByteArray // u.1 ≤ tvs.length ∧ (joinB 0 tvs ⟨#[]⟩ = joinB u.1 (tvs.drop u.1) u.2 ∧ u.2.size + strW (tvs.drop u.1) ≤ (⟨#[]⟩ : ByteArray).size + strW tvs)} => ⟨209, [(1, .ptr 1 0), (3, .d (.str A)), (6, .d (.str u.1.2)), (29, .d (strsD tvs)), (30, .d (.int (tvs.length : Int))), (31, .d (.int (u.1.1 : Int)))], [(1, some (.blk 34 [.d (.int tk), .d (.int tn), .d (.str ta), .d (.str tb), .d (strsD tvs), .d (.sl (txs.map Tm.row)), .d (.sl (tcs.map Cs.row))]))]⟩)
    (μ := fun u => tvs.length - u.1.1) ⟨(0, ⟨#[]⟩), ⟨Nat.zero_le _, ⟨by rw [List.drop_zero], by rw [List.drop_zero]; exact Nat.le_refl _⟩⟩⟩ (Le.sub (by simp) (by simp)) (fun ⟨(i, v), ⟨hi9, hw⟩⟩ => ?_)
  dsimp only at hi9 hw ⊢
  refine AWp.rg [] [] ?_ (hr := by conv => lhs; simp [Tm.row, Tm.rows_eq, Cs.rows_eq])
  repeat (first | refine AWp.seq ?_ | refine AWp.block ?_)
  refine AWp.cond rfl (fun hc => ?_) (fun hc => ?_)
  · have hi1 : i < tvs.length := by have := of_decide_eq_true hc; omega
    clear hc
    have h1s : tvs[i]? = some tvs[i] := List.getElem?_eq_getElem hi1
    have hms : tvs[i] ∈ tvs := List.getElem_mem hi1
    have hds : tvs.drop i = tvs[i] :: tvs.drop (i + 1) := List.drop_eq_getElem_cons hi1
    generalize tvs[i] = s at h1s hms hds
    obtain ⟨hj1, hj2⟩ := hw
    rw [hds, joinB] at hj1
    rw [hds, strW] at hj2
    refine AWp.skip ?_
    refine AWp.rg [] [] ?_ (hr := by conv => lhs; simp [Tm.row, Tm.rows_eq, Cs.rows_eq, h1s])
    by_cases hp : 0 < i
    · refine AWp.rg [] [] ?_ (hr := by conv => lhs; simp [Tm.row, Tm.rows_eq, Cs.rows_eq, h1s, hp])
      refine AWp.cy ?_
      refine AWp.rg [] [] ?_ (hr := by conv => lhs; simp [Tm.row, Tm.rows_eq, Cs.rows_eq, h1s, hp])
      refine AWp.rg [] [] ?_ (hr := by conv => lhs; simp [Tm.row, Tm.rows_eq, Cs.rows_eq, h1s, hp])
      refine AWp.rg [] [] ?_ (hr := by conv => lhs; simp [Tm.row, Tm.rows_eq, Cs.rows_eq, h1s, hp])
      refine ⟨⟨(i + 1, (v ++ ⟨#[32]⟩) ++ s), hi1, ⟨by rw [hj1, if_pos (by omega)], by dsimp only; try simp only [ByteArray.size_append, zl0, zl1, zl2, zl3, zl4, zl5, zl6, zl7, zl8, zl9, zl10, zl11, zl12, zl13, zl14, zl15, zl16, zl17, zl18]; omega⟩⟩, by simp; omega, ?_⟩
      dsimp only
      exact Le.sub (by simp) (by simp)
    refine AWp.rg [] [] ?_ (hr := by conv => lhs; simp [Tm.row, Tm.rows_eq, Cs.rows_eq, h1s, hp])
    refine AWp.cn ?_
    refine AWp.skip ?_
    refine AWp.rg [] [] ?_ (hr := by conv => lhs; simp [Tm.row, Tm.rows_eq, Cs.rows_eq, h1s, hp])
    refine AWp.rg [] [] ?_ (hr := by conv => lhs; simp [Tm.row, Tm.rows_eq, Cs.rows_eq, h1s, hp])
    refine ⟨⟨(i + 1, v ++ s), hi1, ⟨by rw [hj1, if_neg (by omega)], by dsimp only; try simp only [ByteArray.size_append, zl0, zl1, zl2, zl3, zl4, zl5, zl6, zl7, zl8, zl9, zl10, zl11, zl12, zl13, zl14, zl15, zl16, zl17, zl18]; omega⟩⟩, by simp; omega, ?_⟩
    dsimp only
    exact Le.sub (by simp) (by simp)
  have hi1 : i = tvs.length := by have := of_decide_eq_false hc; omega
  subst hi1
  clear hc
  obtain ⟨hj1, hj2⟩ := hw
  rw [List.drop_length, joinB] at hj1
  rw [hj1] at hR hV
  clear hj1 hj2
  refine AWp.exit ?_
  refine AWp.rg [] [.p (fun _ => .d (.str T)) none] ?_ (hr := by conv => lhs; simp [Tm.row, Tm.rows_eq, Cs.rows_eq])
  refine AWp.rg [] [] ?_ (hr := by conv => lhs; simp [Tm.row, Tm.rows_eq, Cs.rows_eq])
  by_cases q1 : tk = 1
  · have q1t := eq_true q1
    refine AWp.rg [] [] ?_ (hr := by conv => lhs; simp [Tm.row, Tm.rows_eq, Cs.rows_eq, q1t])
    refine AWp.cy ?_
    rw [shK, if_pos (by omega)] at hR
    rw [hR]
    refine AWp.rg [] [] ?_ (hr := by conv => lhs; simp [Tm.row, Tm.rows_eq, Cs.rows_eq, q1t])
    refine AWp.ret ?_
    try dsimp only [thenQ, blockQ]
    apply endQ.ret
    · rfl
    · conv => lhs; simp [resAV, Tryd.results47]
    first | rfl | simp [resVal]
  refine AWp.rg [] [] ?_ (hr := by conv => lhs; simp [Tm.row, Tm.rows_eq, Cs.rows_eq, q1])
  refine AWp.cn ?_
  by_cases q2 : tk = 2
  · have q2t := eq_true q2
    refine AWp.rg [] [] ?_ (hr := by conv => lhs; simp [Tm.row, Tm.rows_eq, Cs.rows_eq, q1, q2t])
    refine AWp.cy ?_
    rw [shK, if_neg (by omega), if_pos (by omega)] at hR
    rw [← hT0] at hR
    rw [hR]
    refine AWp.rg [] [.p (fun _ => .d (.str T)) none] ?_ (hr := by conv => lhs; simp [Tm.row, Tm.rows_eq, Cs.rows_eq, q1, q2t])
    refine AWp.ret ?_
    try dsimp only [thenQ, blockQ]
    apply endQ.ret
    · rfl
    · conv => lhs; simp [resAV, Tryd.results47]
    first | rfl | simp [resVal]
  refine AWp.rg [] [] ?_ (hr := by conv => lhs; simp [Tm.row, Tm.rows_eq, Cs.rows_eq, q1, q2])
  refine AWp.cn ?_
  by_cases q3 : tk = 3
  · have q3t := eq_true q3
    refine AWp.rg [] [] ?_ (hr := by conv => lhs; simp [Tm.row, Tm.rows_eq, Cs.rows_eq, q1, q2, q3t])
    refine AWp.cy ?_
    rw [shK, if_neg (by omega), if_neg (by omega), if_pos (by omega)] at hR
    rw [← hT0] at hR
    rw [hR]
    refine AWp.rg [] [] ?_ (hr := by conv => lhs; simp [Tm.row, Tm.rows_eq, Cs.rows_eq, q1, q2, q3t])
    refine AWp.ret ?_
    try dsimp only [thenQ, blockQ]
    apply endQ.ret
    · rfl
    · conv => lhs; simp [resAV, Tryd.results47]
    first | rfl | simp [resVal]
  refine AWp.rg [] [] ?_ (hr := by conv => lhs; simp [Tm.row, Tm.rows_eq, Cs.rows_eq, q1, q2, q3])
  refine AWp.cn ?_
  by_cases q4 : tk = 4
  · have q4t := eq_true q4
    refine AWp.rg [] [] ?_ (hr := by conv => lhs; simp [Tm.row, Tm.rows_eq, Cs.rows_eq, q1, q2, q3, q4t])
    refine AWp.cy ?_
    rw [shK, if_neg (by omega), if_neg (by omega), if_neg (by omega), if_pos (by omega)] at hR
    rw [hR]
    refine AWp.rg [] [] ?_ (hr := by conv => lhs; simp [Tm.row, Tm.rows_eq, Cs.rows_eq, q1, q2, q3, q4t])
    refine AWp.ret ?_
    try dsimp only [thenQ, blockQ]
    apply endQ.ret
    · rfl
    · conv => lhs; simp [resAV, Tryd.results47]
    first | rfl | simp [resVal]
  refine AWp.rg [] [] ?_ (hr := by conv => lhs; simp [Tm.row, Tm.rows_eq, Cs.rows_eq, q1, q2, q3, q4])
  refine AWp.cn ?_
  by_cases q5 : tk = 5
  · have q5t := eq_true q5
    refine AWp.rg [] [] ?_ (hr := by conv => lhs; simp [Tm.row, Tm.rows_eq, Cs.rows_eq, q1, q2, q3, q4, q5t])
    refine AWp.cy ?_
    by_cases q6 : 0 < tn
    · by_cases q7 : tn < 6
      · refine AWp.rg [] [] ?_ (hr := by conv => lhs; simp [Tm.row, Tm.rows_eq, Cs.rows_eq, q1, q2, q3, q4, q5t, q6, q7])
        refine AWp.cy ?_
        rw [shK, if_neg (by omega), if_neg (by omega), if_neg (by omega), if_neg (by omega), if_pos (by omega), if_pos (by omega)] at hR
        rw [hR]
        refine AWp.rg [] [] ?_ (hr := by conv => lhs; simp [Tm.row, Tm.rows_eq, Cs.rows_eq, q1, q2, q3, q4, q5t, q6, q7])
        refine AWp.ret ?_
        try dsimp only [thenQ, blockQ]
        apply endQ.ret
        · rfl
        · conv => lhs; simp [resAV, Tryd.results47]
        first | rfl | simp [resVal]
      refine AWp.rg [] [] ?_ (hr := by conv => lhs; simp [Tm.row, Tm.rows_eq, Cs.rows_eq, q1, q2, q3, q4, q5t, q6, q7])
      refine AWp.cn ?_
      refine AWp.skip ?_
      rw [shK, if_neg (by omega), if_neg (by omega), if_neg (by omega), if_neg (by omega), if_pos (by omega), if_neg (by omega)] at hR
      rw [hR]
      refine AWp.rg [] [] ?_ (hr := by conv => lhs; simp [Tm.row, Tm.rows_eq, Cs.rows_eq, q1, q2, q3, q4, q5t, q6, q7])
      refine AWp.ret ?_
      try dsimp only [thenQ, blockQ]
      apply endQ.ret
      · rfl
      · conv => lhs; simp [resAV, Tryd.results47]
      first | rfl | simp [resVal]
    refine AWp.rg [] [] ?_ (hr := by conv => lhs; simp [Tm.row, Tm.rows_eq, Cs.rows_eq, q1, q2, q3, q4, q5t, q6])
    refine AWp.cn ?_
    refine AWp.skip ?_
    rw [shK, if_neg (by omega), if_neg (by omega), if_neg (by omega), if_neg (by omega), if_pos (by omega), if_neg (by omega)] at hR
    rw [hR]
    refine AWp.rg [] [] ?_ (hr := by conv => lhs; simp [Tm.row, Tm.rows_eq, Cs.rows_eq, q1, q2, q3, q4, q5t, q6])
    refine AWp.ret ?_
    try dsimp only [thenQ, blockQ]
    apply endQ.ret
    · rfl
    · conv => lhs; simp [resAV, Tryd.results47]
    first | rfl | simp [resVal]
  refine AWp.rg [] [] ?_ (hr := by conv => lhs; simp [Tm.row, Tm.rows_eq, Cs.rows_eq, q1, q2, q3, q4, q5])
  refine AWp.cn ?_
  by_cases q8 : tk = 6
  · have q8t := eq_true q8
    refine AWp.rg [] [] ?_ (hr := by conv => lhs; simp [Tm.row, Tm.rows_eq, Cs.rows_eq, q1, q2, q3, q4, q5, q8t])
    refine AWp.cy ?_
    rw [shK, if_neg (by omega), if_neg (by omega), if_neg (by omega), if_neg (by omega), if_neg (by omega), if_pos (by omega)] at hR
    rw [hR]
    refine AWp.rg [] [] ?_ (hr := by conv => lhs; simp [Tm.row, Tm.rows_eq, Cs.rows_eq, q1, q2, q3, q4, q5, q8t])
    refine AWp.ret ?_
    try dsimp only [thenQ, blockQ]
    apply endQ.ret
    · rfl
    · conv => lhs; simp [resAV, Tryd.results47]
    first | rfl | simp [resVal]
  refine AWp.rg [] [] ?_ (hr := by conv => lhs; simp [Tm.row, Tm.rows_eq, Cs.rows_eq, q1, q2, q3, q4, q5, q8])
  refine AWp.cn ?_
  by_cases q9 : tk = 7
  · have q9t := eq_true q9
    refine AWp.rg [] [] ?_ (hr := by conv => lhs; simp [Tm.row, Tm.rows_eq, Cs.rows_eq, q1, q2, q3, q4, q5, q8, q9t])
    refine AWp.cy ?_
    rw [shK, if_neg (by omega), if_neg (by omega), if_neg (by omega), if_neg (by omega), if_neg (by omega), if_neg (by omega), if_pos (by omega)] at hR
    obtain ⟨M0, hM0⟩ : ∃ M, M = ⟨#[40, 109, 97, 116, 99, 104]⟩ ++ A := ⟨_, rfl⟩
    have hM0s : M0.size = 6 + A.size := by rw [hM0, ByteArray.size_append]; rfl
    rw [← hM0] at hR
    refine AWp.rg [] [] ?_ (hr := by conv => lhs; simp [Tm.row, Tm.rows_eq, Cs.rows_eq, q1, q2, q3, q4, q5, q8, q9t])
    rw [← hM0]
    clear hM0
    refine AWp.rg [] [] ?_ (hr := by conv => lhs; simp [Tm.row, Tm.rows_eq, Cs.rows_eq, q1, q2, q3, q4, q5, q8, q9t])
    repeat (first | refine AWp.seq ?_ | refine AWp.block ?_)
    refine AWp.loop (σ := fun u : {u : Nat × ByteArray // u.1 ≤ tcs.length ∧ (Cs.shL tcs M0 = Cs.shL (tcs.drop u.1) u.2 ∧ u.2.size + Cs.wtL (tcs.drop u.1) ≤ M0.size + Cs.wtL tcs)} => ⟨209, [(10, .d (.str u.1.2)), (107, .d (.sl (tcs.map Cs.row))), (108, .d (.int (tcs.length : Int))), (109, .d (.int (u.1.1 : Int)))], []⟩)
      (μ := fun u => tcs.length - u.1.1) ⟨(0, M0), ⟨Nat.zero_le _, ⟨by rw [List.drop_zero], by rw [List.drop_zero]; exact Nat.le_refl _⟩⟩⟩ (Le.sub (by simp) (by simp)) (fun ⟨(i, m), ⟨hi34, hw⟩⟩ => ?_)
    dsimp only at hi34 hw ⊢
    refine AWp.rg [] [] ?_ (hr := by conv => lhs; simp [Tm.row, Tm.rows_eq, Cs.rows_eq, q1, q2, q3, q4, q5, q8, q9t])
    repeat (first | refine AWp.seq ?_ | refine AWp.block ?_)
    refine AWp.cond rfl (fun hc => ?_) (fun hc => ?_)
    · have hi1 : i < tcs.length := by have := of_decide_eq_true hc; omega
      clear hc
      have h1y : tcs[i]? = some tcs[i] := List.getElem?_eq_getElem hi1
      have hmy : tcs[i] ∈ tcs := List.getElem_mem hi1
      have hdy : tcs.drop i = tcs[i] :: tcs.drop (i + 1) := List.drop_eq_getElem_cons hi1
      generalize tcs[i] = y at h1y hmy hdy
      obtain ⟨hm1, hm2⟩ := hw
      have hyw := Cs.wtL_mem hmy
      rw [hdy, Cs.shL] at hm1
      rw [hdy, Cs.wtL] at hm2
      have hyI := hcI y hmy
      have hysz := Cs.szs_mem hmy
      obtain ⟨dt, dws, y⟩ := y
      rw [Cs.wt] at hm2 hyw
      rw [Cs.sz] at hysz
      have hit := sp_Itoa dt hyI.1
      have hT2 := itoaB_size hyI.1
      have hwl := strW_len dws
      have hx := ih y (by omega) hyI.2 (by omega)
      have hz := Tm.sh_size y hyI.2
      rw [Cs.shC] at hm1
      generalize itoaB dt = T2 at hit hT2 hm1
      generalize y.sh = z at hx hz hm1
      generalize y.wt = yw at hz hm2 hyw
      obtain ⟨yk, yn, ya, yb, yvs, yxs, ycs⟩ := y
      obtain ⟨m1, hm1d⟩ : ∃ x, x = ((m ++ ⟨#[32, 40, 35]⟩) ++ T2) ++ ⟨#[32, 40]⟩ := ⟨_, rfl⟩
      have hm1s : m1.size = m.size + T2.size + 5 := by rw [hm1d]; try simp only [ByteArray.size_append, zl0, zl1, zl2, zl3, zl4, zl5, zl6, zl7, zl8, zl9, zl10, zl11, zl12, zl13, zl14, zl15, zl16, zl17, zl18]; omega
      rw [← hm1d] at hm1
      refine AWp.skip ?_
      refine AWp.rg [] [] ?_ (hr := by conv => lhs; simp [Tm.row, Tm.rows_eq, Cs.rows_eq, h1y, Cs.row, q1, q2, q3, q4, q5, q8, q9t])
      refine AWp.rg [] [.p (fun _ => .d (.str T2)) none] ?_ (hr := by conv => lhs; simp [Tm.row, Tm.rows_eq, Cs.rows_eq, h1y, Cs.row, q1, q2, q3, q4, q5, q8, q9t])
      rw [← hm1d]
      refine AWp.rg [] [] ?_ (hr := by conv => lhs; simp [Tm.row, Tm.rows_eq, Cs.rows_eq, h1y, Cs.row, q1, q2, q3, q4, q5, q8, q9t])
      repeat (first | refine AWp.seq ?_ | refine AWp.block ?_)
      refine AWp.loop (σ := fun u : {u : Nat × ByteArray // u.1 ≤ dws.length ∧ (joinB 0 dws m1 = joinB u.1 (dws.drop u.1) u.2 ∧ u.2.size + strW (dws.drop u.1) ≤ (m1 : ByteArray).size + strW dws)} => ⟨209, [(10, .d (.str u.1.2)), (12, .ptr 12 0), (107, .d (.sl (tcs.map Cs.row))), (108, .d (.int (tcs.length : Int))), (109, .d (.int (i : Int))), (121, .d (strsD dws)), (122, .d (.int (dws.length : Int))), (123, .d (.int (u.1.1 : Int)))], [(12, some (.blk 40 [.d (.int dt), .d (strsD dws), .d (.int yk), .d (.int yn), .d (.str ya), .d (.str yb), .d (strsD yvs), .d (.sl (yxs.map Tm.row)), .d (.sl (ycs.map Cs.row))]))]⟩)
        (μ := fun u => dws.length - u.1.1) ⟨(0, m1), ⟨Nat.zero_le _, ⟨by rw [List.drop_zero], by rw [List.drop_zero]; exact Nat.le_refl _⟩⟩⟩ (Le.sub (by simp) (by simp)) (fun ⟨(j, v), ⟨hi38, hw⟩⟩ => ?_)
      dsimp only at hi38 hw ⊢
      refine AWp.rg [] [] ?_ (hr := by conv => lhs; simp [Tm.row, Tm.rows_eq, Cs.rows_eq, h1y, Cs.row, q1, q2, q3, q4, q5, q8, q9t])
      repeat (first | refine AWp.seq ?_ | refine AWp.block ?_)
      refine AWp.cond rfl (fun hc => ?_) (fun hc => ?_)
      · have hi1 : j < dws.length := by have := of_decide_eq_true hc; omega
        clear hc
        have h1s : dws[j]? = some dws[j] := List.getElem?_eq_getElem hi1
        have hms : dws[j] ∈ dws := List.getElem_mem hi1
        have hds : dws.drop j = dws[j] :: dws.drop (j + 1) := List.drop_eq_getElem_cons hi1
        generalize dws[j] = s at h1s hms hds
        obtain ⟨hj1, hj2⟩ := hw
        rw [hds, joinB] at hj1
        rw [hds, strW] at hj2
        refine AWp.skip ?_
        refine AWp.rg [] [] ?_ (hr := by conv => lhs; simp [Tm.row, Tm.rows_eq, Cs.rows_eq, h1y, Cs.row, h1s, q1, q2, q3, q4, q5, q8, q9t])
        by_cases hp : 0 < j
        · refine AWp.rg [] [] ?_ (hr := by conv => lhs; simp [Tm.row, Tm.rows_eq, Cs.rows_eq, h1y, Cs.row, h1s, q1, q2, q3, q4, q5, q8, q9t, hp])
          refine AWp.cy ?_
          refine AWp.rg [] [] ?_ (hr := by conv => lhs; simp [Tm.row, Tm.rows_eq, Cs.rows_eq, h1y, Cs.row, h1s, q1, q2, q3, q4, q5, q8, q9t, hp])
          refine AWp.rg [] [] ?_ (hr := by conv => lhs; simp [Tm.row, Tm.rows_eq, Cs.rows_eq, h1y, Cs.row, h1s, q1, q2, q3, q4, q5, q8, q9t, hp])
          refine AWp.rg [] [] ?_ (hr := by conv => lhs; simp [Tm.row, Tm.rows_eq, Cs.rows_eq, h1y, Cs.row, h1s, q1, q2, q3, q4, q5, q8, q9t, hp])
          refine ⟨⟨(j + 1, (v ++ ⟨#[32]⟩) ++ s), hi1, ⟨by rw [hj1, if_pos (by omega)], by dsimp only; try simp only [ByteArray.size_append, zl0, zl1, zl2, zl3, zl4, zl5, zl6, zl7, zl8, zl9, zl10, zl11, zl12, zl13, zl14, zl15, zl16, zl17, zl18]; omega⟩⟩, by simp; omega, ?_⟩
          dsimp only
          exact Le.sub (by simp) (by simp)
        refine AWp.rg [] [] ?_ (hr := by conv => lhs; simp [Tm.row, Tm.rows_eq, Cs.rows_eq, h1y, Cs.row, h1s, q1, q2, q3, q4, q5, q8, q9t, hp])
        refine AWp.cn ?_
        refine AWp.skip ?_
        refine AWp.rg [] [] ?_ (hr := by conv => lhs; simp [Tm.row, Tm.rows_eq, Cs.rows_eq, h1y, Cs.row, h1s, q1, q2, q3, q4, q5, q8, q9t, hp])
        refine AWp.rg [] [] ?_ (hr := by conv => lhs; simp [Tm.row, Tm.rows_eq, Cs.rows_eq, h1y, Cs.row, h1s, q1, q2, q3, q4, q5, q8, q9t, hp])
        refine ⟨⟨(j + 1, v ++ s), hi1, ⟨by rw [hj1, if_neg (by omega)], by dsimp only; try simp only [ByteArray.size_append, zl0, zl1, zl2, zl3, zl4, zl5, zl6, zl7, zl8, zl9, zl10, zl11, zl12, zl13, zl14, zl15, zl16, zl17, zl18]; omega⟩⟩, by simp; omega, ?_⟩
        dsimp only
        exact Le.sub (by simp) (by simp)
      have hi1 : j = dws.length := by have := of_decide_eq_false hc; omega
      subst hi1
      clear hc
      obtain ⟨hj1, hj2⟩ := hw
      rw [List.drop_length, joinB] at hj1
      rw [List.drop_length, strW] at hj2
      rw [hj1] at hm1
      refine AWp.exit ?_
      refine AWp.rg [] [.p (fun _ => .d (.str z)) none] ?_ (hr := by conv => lhs; simp [Tm.row, Tm.rows_eq, Cs.rows_eq, h1y, Cs.row, q1, q2, q3, q4, q5, q8, q9t])
      refine AWp.rg [] [] ?_ (hr := by conv => lhs; simp [Tm.row, Tm.rows_eq, Cs.rows_eq, h1y, Cs.row, q1, q2, q3, q4, q5, q8, q9t])
      refine ⟨⟨(i + 1, ((v ++ ⟨#[41, 32]⟩) ++ z) ++ ⟨#[41]⟩), hi1, ⟨hm1, by dsimp only; try simp only [ByteArray.size_append, zl0, zl1, zl2, zl3, zl4, zl5, zl6, zl7, zl8, zl9, zl10, zl11, zl12, zl13, zl14, zl15, zl16, zl17, zl18]; omega⟩⟩, by simp; omega, ?_⟩
      dsimp only
      exact Le.sub (by simp) (by simp)
    have hi1 : i = tcs.length := by have := of_decide_eq_false hc; omega
    subst hi1
    clear hc
    obtain ⟨hm1, hm2⟩ := hw
    rw [List.drop_length, Cs.shL] at hm1
    rw [hm1] at hR
    rw [List.drop_length, Cs.wtL] at hm2
    refine AWp.exit ?_
    rw [hR]
    refine AWp.rg [] [] ?_ (hr := by conv => lhs; simp [Tm.row, Tm.rows_eq, Cs.rows_eq, q1, q2, q3, q4, q5, q8, q9t])
    refine AWp.ret ?_
    try dsimp only [thenQ, blockQ]
    apply endQ.ret
    · rfl
    · conv => lhs; simp [resAV, Tryd.results47]
    first | rfl | simp [resVal]
  refine AWp.rg [] [] ?_ (hr := by conv => lhs; simp [Tm.row, Tm.rows_eq, Cs.rows_eq, q1, q2, q3, q4, q5, q8, q9])
  refine AWp.cn ?_
  by_cases q10 : tk = 8
  · have q10t := eq_true q10
    refine AWp.rg [] [] ?_ (hr := by conv => lhs; simp [Tm.row, Tm.rows_eq, Cs.rows_eq, q1, q2, q3, q4, q5, q8, q9, q10t])
    refine AWp.cy ?_
    rw [shK, if_neg (by omega), if_neg (by omega), if_neg (by omega), if_neg (by omega), if_neg (by omega), if_neg (by omega), if_neg (by omega), if_pos (by omega)] at hR
    rw [hR]
    refine AWp.rg [] [] ?_ (hr := by conv => lhs; simp [Tm.row, Tm.rows_eq, Cs.rows_eq, q1, q2, q3, q4, q5, q8, q9, q10t])
    refine AWp.ret ?_
    try dsimp only [thenQ, blockQ]
    apply endQ.ret
    · rfl
    · conv => lhs; simp [resAV, Tryd.results47]
    first | rfl | simp [resVal]
  refine AWp.rg [] [] ?_ (hr := by conv => lhs; simp [Tm.row, Tm.rows_eq, Cs.rows_eq, q1, q2, q3, q4, q5, q8, q9, q10])
  refine AWp.cn ?_
  by_cases q11 : tk = 9
  · have q11t := eq_true q11
    refine AWp.rg [] [] ?_ (hr := by conv => lhs; simp [Tm.row, Tm.rows_eq, Cs.rows_eq, q1, q2, q3, q4, q5, q8, q9, q10, q11t])
    refine AWp.cy ?_
    rw [shK, if_neg (by omega), if_neg (by omega), if_neg (by omega), if_neg (by omega), if_neg (by omega), if_neg (by omega), if_neg (by omega), if_neg (by omega), if_pos (by omega)] at hR
    rw [hR]
    refine AWp.rg [] [] ?_ (hr := by conv => lhs; simp [Tm.row, Tm.rows_eq, Cs.rows_eq, q1, q2, q3, q4, q5, q8, q9, q10, q11t])
    refine AWp.ret ?_
    try dsimp only [thenQ, blockQ]
    apply endQ.ret
    · rfl
    · conv => lhs; simp [resAV, Tryd.results47]
    first | rfl | simp [resVal]
  refine AWp.rg [] [] ?_ (hr := by conv => lhs; simp [Tm.row, Tm.rows_eq, Cs.rows_eq, q1, q2, q3, q4, q5, q8, q9, q10, q11])
  refine AWp.cn ?_
  by_cases q12 : tk = 10
  · have q12t := eq_true q12
    refine AWp.rg [] [] ?_ (hr := by conv => lhs; simp [Tm.row, Tm.rows_eq, Cs.rows_eq, q1, q2, q3, q4, q5, q8, q9, q10, q11, q12t])
    refine AWp.cy ?_
    rw [shK, if_neg (by omega), if_neg (by omega), if_neg (by omega), if_neg (by omega), if_neg (by omega), if_neg (by omega), if_neg (by omega), if_neg (by omega), if_neg (by omega), if_pos (by omega)] at hR
    rw [hR]
    refine AWp.rg [] [] ?_ (hr := by conv => lhs; simp [Tm.row, Tm.rows_eq, Cs.rows_eq, q1, q2, q3, q4, q5, q8, q9, q10, q11, q12t])
    refine AWp.ret ?_
    try dsimp only [thenQ, blockQ]
    apply endQ.ret
    · rfl
    · conv => lhs; simp [resAV, Tryd.results47]
    first | rfl | simp [resVal]
  refine AWp.rg [] [] ?_ (hr := by conv => lhs; simp [Tm.row, Tm.rows_eq, Cs.rows_eq, q1, q2, q3, q4, q5, q8, q9, q10, q11, q12])
  refine AWp.cn ?_
  by_cases q13 : tk = 11
  · have q13t := eq_true q13
    refine AWp.rg [] [] ?_ (hr := by conv => lhs; simp [Tm.row, Tm.rows_eq, Cs.rows_eq, q1, q2, q3, q4, q5, q8, q9, q10, q11, q12, q13t])
    refine AWp.cy ?_
    rw [shK, if_neg (by omega), if_neg (by omega), if_neg (by omega), if_neg (by omega), if_neg (by omega), if_neg (by omega), if_neg (by omega), if_neg (by omega), if_neg (by omega), if_neg (by omega), if_pos (by omega)] at hR
    rw [hR]
    refine AWp.rg [] [] ?_ (hr := by conv => lhs; simp [Tm.row, Tm.rows_eq, Cs.rows_eq, q1, q2, q3, q4, q5, q8, q9, q10, q11, q12, q13t])
    refine AWp.ret ?_
    try dsimp only [thenQ, blockQ]
    apply endQ.ret
    · rfl
    · conv => lhs; simp [resAV, Tryd.results47]
    first | rfl | simp [resVal]
  refine AWp.rg [] [] ?_ (hr := by conv => lhs; simp [Tm.row, Tm.rows_eq, Cs.rows_eq, q1, q2, q3, q4, q5, q8, q9, q10, q11, q12, q13])
  refine AWp.cn ?_
  by_cases q14 : tk = 12
  · have q14t := eq_true q14
    refine AWp.rg [] [] ?_ (hr := by conv => lhs; simp [Tm.row, Tm.rows_eq, Cs.rows_eq, q1, q2, q3, q4, q5, q8, q9, q10, q11, q12, q13, q14t])
    refine AWp.cy ?_
    rw [shK, if_neg (by omega), if_neg (by omega), if_neg (by omega), if_neg (by omega), if_neg (by omega), if_neg (by omega), if_neg (by omega), if_neg (by omega), if_neg (by omega), if_neg (by omega), if_neg (by omega), if_pos (by omega)] at hR
    rw [← hT0] at hR
    rw [hR]
    refine AWp.rg [] [] ?_ (hr := by conv => lhs; simp [Tm.row, Tm.rows_eq, Cs.rows_eq, q1, q2, q3, q4, q5, q8, q9, q10, q11, q12, q13, q14t])
    refine AWp.ret ?_
    try dsimp only [thenQ, blockQ]
    apply endQ.ret
    · rfl
    · conv => lhs; simp [resAV, Tryd.results47]
    first | rfl | simp [resVal]
  refine AWp.rg [] [] ?_ (hr := by conv => lhs; simp [Tm.row, Tm.rows_eq, Cs.rows_eq, q1, q2, q3, q4, q5, q8, q9, q10, q11, q12, q13, q14])
  refine AWp.cn ?_
  by_cases q15 : tk = 13
  · have q15t := eq_true q15
    refine AWp.rg [] [] ?_ (hr := by conv => lhs; simp [Tm.row, Tm.rows_eq, Cs.rows_eq, q1, q2, q3, q4, q5, q8, q9, q10, q11, q12, q13, q14, q15t])
    refine AWp.cy ?_
    rw [shK, if_neg (by omega), if_neg (by omega), if_neg (by omega), if_neg (by omega), if_neg (by omega), if_neg (by omega), if_neg (by omega), if_neg (by omega), if_neg (by omega), if_neg (by omega), if_neg (by omega), if_neg (by omega), if_pos (by omega)] at hR
    rw [hR]
    refine AWp.rg [] [] ?_ (hr := by conv => lhs; simp [Tm.row, Tm.rows_eq, Cs.rows_eq, q1, q2, q3, q4, q5, q8, q9, q10, q11, q12, q13, q14, q15t])
    refine AWp.ret ?_
    try dsimp only [thenQ, blockQ]
    apply endQ.ret
    · rfl
    · conv => lhs; simp [resAV, Tryd.results47]
    first | rfl | simp [resVal]
  refine AWp.rg [] [] ?_ (hr := by conv => lhs; simp [Tm.row, Tm.rows_eq, Cs.rows_eq, q1, q2, q3, q4, q5, q8, q9, q10, q11, q12, q13, q14, q15])
  refine AWp.cn ?_
  refine AWp.skip ?_
  rw [shK, if_neg (by omega), if_neg (by omega), if_neg (by omega), if_neg (by omega), if_neg (by omega), if_neg (by omega), if_neg (by omega), if_neg (by omega), if_neg (by omega), if_neg (by omega), if_neg (by omega), if_neg (by omega), if_neg (by omega)] at hR
  rw [hR]
  refine AWp.rg [] [] ?_ (hr := by conv => lhs; simp [Tm.row, Tm.rows_eq, Cs.rows_eq, q1, q2, q3, q4, q5, q8, q9, q10, q11, q12, q13, q14, q15])
  refine AWp.ret ?_
  try dsimp only [thenQ, blockQ]
  apply endQ.ret
  · rfl
  · conv => lhs; simp [resAV, Tryd.results47]
  first | rfl | simp [resVal]
theorem sh_all : ∀ N, ShN N
  | 0 => fun t h => by have := t.sz_ge; omega
  | N + 1 => sh_step N (sh_all N)
theorem sp_Show (t : Tm) (hI : t.In) (hW : t.wt ≤ 4611686018427387904) : PSpec Tryd.prog 47 [tmAV t] (fun _ => .d (.str t.sh)) none := sh_all t.sz t (Nat.le_refl _) hI hW
set_option maxRecDepth 20000 in
set_option maxHeartbeats 16000000 in
theorem sp_Print (l : List Fn) (hI : ∀ f ∈ l, f.body.In) (hW : Fn.wtL l ≤ 4611686018427387904) : PSpec Tryd.prog 45 [fnsAV l] (fun _ => .d (.str (Fn.shL l ⟨#[]⟩))) none := by
  obtain ⟨R, hR⟩ : ∃ R, R = Fn.shL l ⟨#[]⟩ := ⟨_, rfl⟩
  rw [← hR]
  have hll := Fn.wtL_len l
  refine PSpec.of Tryd.func45 rfl rfl rfl (Nat.le_of_ble_eq_true rfl) ?_
  show AWp _ _ (endQ _ Tryd.f45 _ _ _) (startAS 45 _)
  refine AWp.rg [] [] ?_ (hr := by conv => lhs; simp [Fn.row, Tm.row, Tm.rows_eq, Cs.rows_eq])
  refine AWp.rg [] [] ?_ (hr := by conv => lhs; simp [Fn.row, Tm.row, Tm.rows_eq, Cs.rows_eq])
  refine AWp.rg [] [] ?_ (hr := by conv => lhs; simp [Fn.row, Tm.row, Tm.rows_eq, Cs.rows_eq])
  repeat (first | refine AWp.seq ?_ | refine AWp.block ?_)
  refine AWp.loop (σ := fun u : {u : Nat × ByteArray // u.1 ≤ l.length ∧ (Fn.shL l ⟨#[]⟩ = Fn.shL (l.drop u.1) u.2 ∧ u.2.size + Fn.wtL (l.drop u.1) ≤ Fn.wtL l)} => ⟨45, [(3, .d (.str u.1.2)), (8, .d (.sl (l.map Fn.row))), (9, .d (.int (l.length : Int))), (10, .d (.int (u.1.1 : Int)))], []⟩)
    (μ := fun u => l.length - u.1.1) ⟨(0, ⟨#[]⟩), ⟨Nat.zero_le _, ⟨by rw [List.drop_zero], by rw [List.drop_zero]; exact Nat.le_of_eq (Nat.zero_add _)⟩⟩⟩ (Le.sub (by simp) (by simp)) (fun ⟨(i, m), ⟨hi3, hw⟩⟩ => ?_)
  dsimp only at hi3 hw ⊢
  refine AWp.rg [] [] ?_ (hr := by conv => lhs; simp [Fn.row, Tm.row, Tm.rows_eq, Cs.rows_eq])
  repeat (first | refine AWp.seq ?_ | refine AWp.block ?_)
  refine AWp.cond rfl (fun hc => ?_) (fun hc => ?_)
  · have hi1 : i < l.length := by have := of_decide_eq_true hc; omega
    clear hc
    have h1y : l[i]? = some l[i] := List.getElem?_eq_getElem hi1
    have hmy : l[i] ∈ l := List.getElem_mem hi1
    have hdy : l.drop i = l[i] :: l.drop (i + 1) := List.drop_eq_getElem_cons hi1
    generalize l[i] = y at h1y hmy hdy
    obtain ⟨hm1, hm2⟩ := hw
    have hyw := Fn.wtL_mem hmy
    rw [hdy, Fn.shL] at hm1
    rw [hdy, Fn.wtL] at hm2
    have hyI := hI y hmy
    obtain ⟨fg, dws, y⟩ := y
    dsimp only at hm1 hm2 hyw hyI
    have hwl := strW_len dws
    have hx := sp_Show y hyI (by omega)
    have hz := Tm.sh_size y hyI
    generalize y.sh = z at hx hz hm1
    generalize y.wt = yw at hz hm2 hyw
    obtain ⟨yk, yn, ya, yb, yvs, yxs, ycs⟩ := y
    obtain ⟨m1, hm1d⟩ : ∃ x, x = ((m ++ ⟨#[40, 102, 110, 32]⟩) ++ fg) ++ ⟨#[32, 40]⟩ := ⟨_, rfl⟩
    have hm1s : m1.size = m.size + fg.size + 6 := by rw [hm1d]; try simp only [ByteArray.size_append, zl0, zl1, zl2, zl3, zl4, zl5, zl6, zl7, zl8, zl9, zl10, zl11, zl12, zl13, zl14, zl15, zl16, zl17, zl18]; omega
    rw [← hm1d] at hm1
    refine AWp.skip ?_
    refine AWp.rg [] [] ?_ (hr := by conv => lhs; simp [Fn.row, Tm.row, Tm.rows_eq, Cs.rows_eq, h1y])
    refine AWp.rg [] [] ?_ (hr := by conv => lhs; simp [Fn.row, Tm.row, Tm.rows_eq, Cs.rows_eq, h1y])
    rw [← hm1d]
    clear hm1d
    refine AWp.rg [] [] ?_ (hr := by conv => lhs; simp [Fn.row, Tm.row, Tm.rows_eq, Cs.rows_eq, h1y])
    repeat (first | refine AWp.seq ?_ | refine AWp.block ?_)
    refine AWp.loop (σ := fun u : {u : Nat × ByteArray // u.1 ≤ dws.length ∧ (joinB 0 dws m1 = joinB u.1 (dws.drop u.1) u.2 ∧ u.2.size + strW (dws.drop u.1) ≤ (m1 : ByteArray).size + strW dws)} => ⟨45, [(3, .d (.str u.1.2)), (5, .ptr 5 0), (8, .d (.sl (l.map Fn.row))), (9, .d (.int (l.length : Int))), (10, .d (.int (i : Int))), (21, .d (strsD dws)), (22, .d (.int (dws.length : Int))), (23, .d (.int (u.1.1 : Int)))], [(5, some (.blk 36 [.d (.str fg), .d (strsD dws), .d (.int yk), .d (.int yn), .d (.str ya), .d (.str yb), .d (strsD yvs), .d (.sl (yxs.map Tm.row)), .d (.sl (ycs.map Cs.row))]))]⟩)
      (μ := fun u => dws.length - u.1.1) ⟨(0, m1), ⟨Nat.zero_le _, ⟨by rw [List.drop_zero], by rw [List.drop_zero]; exact Nat.le_refl _⟩⟩⟩ (Le.sub (by simp) (by simp)) (fun ⟨(j, v), ⟨hi7, hw⟩⟩ => ?_)
    dsimp only at hi7 hw ⊢
    refine AWp.rg [] [] ?_ (hr := by conv => lhs; simp [Fn.row, Tm.row, Tm.rows_eq, Cs.rows_eq, h1y])
    repeat (first | refine AWp.seq ?_ | refine AWp.block ?_)
    refine AWp.cond rfl (fun hc => ?_) (fun hc => ?_)
    · have hi1 : j < dws.length := by have := of_decide_eq_true hc; omega
      clear hc
      have h1s : dws[j]? = some dws[j] := List.getElem?_eq_getElem hi1
      have hms : dws[j] ∈ dws := List.getElem_mem hi1
      have hds : dws.drop j = dws[j] :: dws.drop (j + 1) := List.drop_eq_getElem_cons hi1
      generalize dws[j] = s at h1s hms hds
      obtain ⟨hj1, hj2⟩ := hw
      rw [hds, joinB] at hj1
      rw [hds, strW] at hj2
      refine AWp.skip ?_
      refine AWp.rg [] [] ?_ (hr := by conv => lhs; simp [Fn.row, Tm.row, Tm.rows_eq, Cs.rows_eq, h1y, h1s])
      by_cases hp : 0 < j
      · refine AWp.rg [] [] ?_ (hr := by conv => lhs; simp [Fn.row, Tm.row, Tm.rows_eq, Cs.rows_eq, h1y, h1s, hp])
        refine AWp.cy ?_
        refine AWp.rg [] [] ?_ (hr := by conv => lhs; simp [Fn.row, Tm.row, Tm.rows_eq, Cs.rows_eq, h1y, h1s, hp])
        refine AWp.rg [] [] ?_ (hr := by conv => lhs; simp [Fn.row, Tm.row, Tm.rows_eq, Cs.rows_eq, h1y, h1s, hp])
        refine AWp.rg [] [] ?_ (hr := by conv => lhs; simp [Fn.row, Tm.row, Tm.rows_eq, Cs.rows_eq, h1y, h1s, hp])
        refine ⟨⟨(j + 1, (v ++ ⟨#[32]⟩) ++ s), hi1, ⟨by rw [hj1, if_pos (by omega)], by dsimp only; try simp only [ByteArray.size_append, zl0, zl1, zl2, zl3, zl4, zl5, zl6, zl7, zl8, zl9, zl10, zl11, zl12, zl13, zl14, zl15, zl16, zl17, zl18]; omega⟩⟩, by simp; omega, ?_⟩
        dsimp only
        exact Le.sub (by simp) (by simp)
      refine AWp.rg [] [] ?_ (hr := by conv => lhs; simp [Fn.row, Tm.row, Tm.rows_eq, Cs.rows_eq, h1y, h1s, hp])
      refine AWp.cn ?_
      refine AWp.skip ?_
      refine AWp.rg [] [] ?_ (hr := by conv => lhs; simp [Fn.row, Tm.row, Tm.rows_eq, Cs.rows_eq, h1y, h1s, hp])
      refine AWp.rg [] [] ?_ (hr := by conv => lhs; simp [Fn.row, Tm.row, Tm.rows_eq, Cs.rows_eq, h1y, h1s, hp])
      refine ⟨⟨(j + 1, v ++ s), hi1, ⟨by rw [hj1, if_neg (by omega)], by dsimp only; try simp only [ByteArray.size_append, zl0, zl1, zl2, zl3, zl4, zl5, zl6, zl7, zl8, zl9, zl10, zl11, zl12, zl13, zl14, zl15, zl16, zl17, zl18]; omega⟩⟩, by simp; omega, ?_⟩
      dsimp only
      exact Le.sub (by simp) (by simp)
    have hi1 : j = dws.length := by have := of_decide_eq_false hc; omega
    subst hi1
    clear hc
    obtain ⟨hj1, hj2⟩ := hw
    rw [List.drop_length, joinB] at hj1
    rw [List.drop_length, strW] at hj2
    rw [hj1] at hm1
    refine AWp.exit ?_
    refine AWp.rg [] [.p (fun _ => .d (.str z)) none] ?_ (hr := by conv => lhs; simp [Fn.row, Tm.row, Tm.rows_eq, Cs.rows_eq, h1y])
    refine AWp.rg [] [] ?_ (hr := by conv => lhs; simp [Fn.row, Tm.row, Tm.rows_eq, Cs.rows_eq, h1y])
    refine ⟨⟨(i + 1, ((v ++ ⟨#[41, 32]⟩) ++ z) ++ ⟨#[41, 10]⟩), hi1, ⟨hm1, by dsimp only; try simp only [ByteArray.size_append, zl0, zl1, zl2, zl3, zl4, zl5, zl6, zl7, zl8, zl9, zl10, zl11, zl12, zl13, zl14, zl15, zl16, zl17, zl18]; omega⟩⟩, by simp; omega, ?_⟩
    dsimp only
    exact Le.sub (by simp) (by simp)
  have hi1 : i = l.length := by have := of_decide_eq_false hc; omega
  subst hi1
  clear hc
  obtain ⟨hm1, hm2⟩ := hw
  rw [List.drop_length, Fn.shL] at hm1
  rw [hm1] at hR
  refine AWp.exit ?_
  rw [hR]
  refine AWp.rg [] [] ?_ (hr := by conv => lhs; simp [Fn.row, Tm.row, Tm.rows_eq, Cs.rows_eq])
  refine AWp.ret ?_
  try dsimp only [thenQ, blockQ]
  apply endQ.ret
  · rfl
  · conv => lhs; simp [resAV, Tryd.results45]
  first | rfl | simp [resVal]

@[simp] theorem le_maxLen30y : 30 ≤ maxLen := by decide
@[simp] theorem le_maxLen37y : 37 ≤ maxLen := by decide
def fnHq : List Fn → Fn
  | f :: _ => f
  | [] => ⟨.empty, [], .mk 0 0 .empty .empty [] [] []⟩
theorem one_pt {l : List Fn} {f : Fn} (he : l = [f]) (hF : FnsOk l) (h : checkE l = 0) : f.body.Ok ∧ f.body.Rt 25 ∧ f.params.length ≤ 6 := by
  subst he
  exact right_all hF h f (List.mem_singleton.2 rfl)
end Go.Proofs.YtapiiklnnkkdlaaDoor
