import Derived.Test.YtapiiklnnkkdlaaDoorScopeB
import Derived.Test.YtapiiklnnkkdlaaDoorEvalB
import Derived.Test.YtapiiklnnkkdlaaDoorFreeD
import Derived.Test.YtapiiklnnkkdlaaDoorNumA
import Derived.Test.YtapiiklnnkkdlaaDoorClosP
/- xcref1.Check, scope.Check, by the abstract machine. Printed by walk_check.py. -/
namespace Go.Proofs.YtapiiklnnkkdlaaDoor
open Go.RowKit
attribute [local simp] runD mkRc ldOf stOf stOk ldArg noAny dstOk guardOk opEff opEff0 effOp pureOp callOp zEff evA constAV scalAV Value.oneCell' frGet memGet startAS frOf isGoCall idIn AS.after nextR opnIds objIds AV.ids idsL AObj.ids frNo memNo opnAny isAny mkVal rdCells wrCells fldAddr idxAddr srcRows litRows toD1 toDs setAt sliceAV optI partAV bldAV fillAV binAV binI AV.cells callEff calleeOf frKill memKill AV.kill AObj.kill AV.has AV.hasL Op.operands Call.operands keepF keepM viewIds cChk renOf moGet moWs moQ cEff moLike moHave AV.ren renL AObj.ren AObj.like kept startC moMem AV.frz frz1 frzL frSub memSub frzs AS.frz frFrz memFrz AObj.frz takeMap takeLen bleF Nat.ble_eq memAny objAny mapOp D.keyOk rowAV valRow extOp wrapOp phO
set_option linter.unusedVariables false
set_option linter.unusedSimpArgs false
theorem arD_put {f : Arity} {g : ByteArray} {n : Nat} (h : f.get g = none) : D.aput (.str g) [.int n] (arD f) = arD ((g, n) :: f) := by
  unfold D.aput
  rw [D.adel_all]
  · rfl
  · intro p hp
    unfold arD at hp
    obtain ⟨t, ht, rfl⟩ := List.mem_map.1 hp
    intro e
    simp only [D.str.injEq] at e
    subst e
    unfold Arity.get at h
    rw [Option.map_eq_none_iff, List.find?_eq_none] at h
    have := h t ht
    simp at this
set_option maxRecDepth 20000 in
set_option maxHeartbeats 16000000 in
theorem sp_refCheck (l : List Fn) (hl : FnsOk l) : PSpec Tryd.prog 16 [fnsAV l] (fun _ => .d (.int (checkE l))) none := by
  have hll := hl.len
  obtain ⟨C, hC⟩ : ∃ C : Int, (l.length : Int) = C := ⟨_, rfl⟩
  refine PSpec.of Tryd.func16 rfl rfl rfl (Nat.le_of_ble_eq_true rfl) ?_
  show AWp _ _ (endQ _ Tryd.f16 _ _ _) (startAS 81 _)
  refine AWp.rg [] [] ?_ (hr := by conv => lhs; simp [hC, Fn.row, Tm.row, Tm.rows_eq, Cs.rows_eq])
  by_cases q1 : C = 0
  · refine AWp.rg [] [] ?_ (hr := by conv => lhs; simp [hC, Fn.row, Tm.row, Tm.rows_eq, Cs.rows_eq, q1])
    refine AWp.cy ?_
    refine AWp.rg [] [] ?_ (hr := by conv => lhs; simp [hC, Fn.row, Tm.row, Tm.rows_eq, Cs.rows_eq, q1])
    refine AWp.ret ?_
    try dsimp only [thenQ, blockQ]
    apply endQ.ret
    · rfl
    · conv => lhs; simp [resAV, Tryd.results16]
    · rw [checkE, if_pos (show l.length = 0 ∨ 6 < l.length by omega)]; rfl
  by_cases q2 : 6 < C
  · refine AWp.rg [] [] ?_ (hr := by conv => lhs; simp [hC, Fn.row, Tm.row, Tm.rows_eq, Cs.rows_eq, q1, q2])
    refine AWp.cy ?_
    refine AWp.rg [] [] ?_ (hr := by conv => lhs; simp [hC, Fn.row, Tm.row, Tm.rows_eq, Cs.rows_eq, q1, q2])
    refine AWp.ret ?_
    try dsimp only [thenQ, blockQ]
    apply endQ.ret
    · rfl
    · conv => lhs; simp [resAV, Tryd.results16]
    · rw [checkE, if_pos (show l.length = 0 ∨ 6 < l.length by omega)]; rfl
  refine AWp.rg [] [] ?_ (hr := by conv => lhs; simp [hC, Fn.row, Tm.row, Tm.rows_eq, Cs.rows_eq, q1, q2])
  refine AWp.cn ?_
  refine AWp.skip ?_
  have hlen : ¬ (l.length = 0 ∨ 6 < l.length) := by omega
  refine AWp.rg [] [] ?_ (hr := by conv => lhs; simp [hC, Fn.row, Tm.row, Tm.rows_eq, Cs.rows_eq, q1, q2])
  refine AWp.rg [] [] ?_ (hr := by conv => lhs; simp [hC, Fn.row, Tm.row, Tm.rows_eq, Cs.rows_eq, q1, q2])
  repeat (first | refine AWp.seq ?_ | refine AWp.block ?_)
  refine AWp.loop (σ := fun u : {i : Nat // i ≤ l.length ∧ headsE [] l = headsE (arOf (l.take i)) (l.drop i)} => ⟨81, [(0, fnsAV l), (3, .mp 19), (20, fnsAV l), (21, .d (.int l.length)), (22, .d (.int u.1))], [(19, some (wrObj (arOf (l.take u.1))))]⟩)
    (μ := fun u => l.length - u.1) ⟨0, Nat.zero_le _, rfl⟩ (Le.sub (by simp [arOf, wrObj, arD, hC, nmObj]) (by simp [arOf, wrObj, arD, hC, nmObj])) (fun ⟨i, hi, hwi⟩ => ?_)
  dsimp only
  repeat (first | refine AWp.seq ?_ | refine AWp.block ?_)
  apply AWp.reg [] []
  · conv => lhs; simp
  · trivial
  repeat (first | refine AWp.seq ?_ | refine AWp.block ?_)
  refine AWp.cond rfl (fun hci => ?_) (fun hci => ?_)
  · have hi1 : i < l.length := by have := of_decide_eq_true hci; omega
    have h1c : l[i]? = some l[i] := List.getElem?_eq_getElem hi1
    have hmc : l[i] ∈ l := List.getElem_mem hi1
    have hdc : l.drop i = l[i] :: l.drop (i + 1) := List.drop_eq_getElem_cons hi1
    generalize l[i] = c at h1c hmc hdc
    obtain ⟨g, ps, bd⟩ := c
    have hsn : arOf (l.take (i + 1)) = (g, ps.length) :: arOf (l.take i) := by rw [List.take_add_one, h1c]; exact arOf_snoc _ _
    obtain ⟨o1, o2, o3, o4⟩ := hl.all _ hmc
    dsimp only at o1 o2 o3 o4
    rw [hdc] at hwi
    simp only [headsE] at hwi
    rw [← hsn] at hwi
    obtain ⟨f, hf⟩ : ∃ f, f = arOf (l.take i) := ⟨_, rfl⟩
    rw [← hf] at hwi hsn ⊢
    obtain ⟨E, hE⟩ : ∃ E, E = Fn.headE f ⟨g, ps, bd⟩ := ⟨_, rfl⟩
    rw [← hE] at hwi
    simp only [Fn.headE] at hE
    have hNm := sp_Name g (by omega)
    have hTw := sp_twice ps (by omega)
    have hBd := sp_bad ps (by omega) (fun s hs => by have := o3 s hs; omega)
    have hSz := sp_refSize bd o4
    obtain ⟨S, hS⟩ : ∃ S, S = wr bd.sz := ⟨_, rfl⟩
    rw [← hS] at hSz hE
    obtain ⟨B, hB⟩ : ∃ B : Int, (ps.length : Int) = B := ⟨_, rfl⟩
    obtain ⟨xk, xn, xa, xb, xv, xx, xc⟩ := bd
    refine AWp.skip ?_
    refine AWp.rg [] [] ?_ (hr := by conv => lhs; simp [hC, Fn.row, Tm.row, Tm.rows_eq, Cs.rows_eq, h1c, hB, q1, q2])
    cases hg : f.get g with
    | some m =>
      refine AWp.rg [] [] ?_ (hr := by conv => lhs; simp [hC, Fn.row, Tm.row, Tm.rows_eq, Cs.rows_eq, h1c, hB, arD_get, hg, q1, q2])
      refine AWp.rg [] [] ?_ (hr := by conv => lhs; simp [hC, Fn.row, Tm.row, Tm.rows_eq, Cs.rows_eq, h1c, hB, arD_get, hg, q1, q2])
      refine AWp.cy ?_
      refine AWp.rg [] [] ?_ (hr := by conv => lhs; simp [hC, Fn.row, Tm.row, Tm.rows_eq, Cs.rows_eq, h1c, hB, arD_get, hg, q1, q2])
      refine AWp.ret ?_
      rw [if_pos (by simp [hg])] at hE
      rw [if_pos (by omega)] at hwi
      try dsimp only [thenQ, blockQ]
      apply endQ.ret
      · rfl
      · conv => lhs; simp [resAV, Tryd.results16]
      · rw [checkE, if_neg hlen, hwi, if_pos (by omega), hE]; rfl
    | none =>
      refine AWp.rg [] [] ?_ (hr := by conv => lhs; simp [hC, Fn.row, Tm.row, Tm.rows_eq, Cs.rows_eq, h1c, hB, arD_get, hg, q1, q2])
      cases q3 : nameB g with
      | true =>
        rw [q3] at hNm
        cases q4 : twB ps with
        | true =>
          rw [q4] at hTw
          refine AWp.rg [] [.p (fun _ => .d (.bool true)) none, .p (fun _ => .d (.bool true)) none] ?_ (hr := by conv => lhs; simp [hC, Fn.row, Tm.row, Tm.rows_eq, Cs.rows_eq, h1c, hB, arD_get, hg, q3, q4, q1, q2])
          refine AWp.cy ?_
          refine AWp.rg [] [] ?_ (hr := by conv => lhs; simp [hC, Fn.row, Tm.row, Tm.rows_eq, Cs.rows_eq, h1c, hB, arD_get, hg, q3, q4, q1, q2])
          refine AWp.ret ?_
          rw [if_pos (by simp [hg, q3, q4])] at hE
          rw [if_pos (by omega)] at hwi
          try dsimp only [thenQ, blockQ]
          apply endQ.ret
          · rfl
          · conv => lhs; simp [resAV, Tryd.results16]
          · rw [checkE, if_neg hlen, hwi, if_pos (by omega), hE]; rfl
        | false =>
          rw [q4] at hTw
          cases q5 : badB ps with
          | true =>
            rw [q5] at hBd
            refine AWp.rg [] [.p (fun _ => .d (.bool true)) none, .p (fun _ => .d (.bool false)) none, .p (fun _ => .d (.bool true)) none] ?_ (hr := by conv => lhs; simp [hC, Fn.row, Tm.row, Tm.rows_eq, Cs.rows_eq, h1c, hB, arD_get, hg, q3, q4, q5, q1, q2])
            refine AWp.cy ?_
            refine AWp.rg [] [] ?_ (hr := by conv => lhs; simp [hC, Fn.row, Tm.row, Tm.rows_eq, Cs.rows_eq, h1c, hB, arD_get, hg, q3, q4, q5, q1, q2])
            refine AWp.ret ?_
            rw [if_pos (by simp [hg, q3, q4, q5])] at hE
            rw [if_pos (by omega)] at hwi
            try dsimp only [thenQ, blockQ]
            apply endQ.ret
            · rfl
            · conv => lhs; simp [resAV, Tryd.results16]
            · rw [checkE, if_neg hlen, hwi, if_pos (by omega), hE]; rfl
          | false =>
            rw [q5] at hBd
            refine AWp.rg [] [.p (fun _ => .d (.bool true)) none, .p (fun _ => .d (.bool false)) none, .p (fun _ => .d (.bool false)) none] ?_ (hr := by conv => lhs; simp [hC, Fn.row, Tm.row, Tm.rows_eq, Cs.rows_eq, h1c, hB, arD_get, hg, q3, q4, q5, q1, q2])
            refine AWp.cn ?_
            refine AWp.skip ?_
            by_cases q6 : 6 < B
            · refine AWp.rg [] [] ?_ (hr := by conv => lhs; simp [hC, Fn.row, Tm.row, Tm.rows_eq, Cs.rows_eq, h1c, hB, arD_get, hg, q3, q4, q5, q1, q2, q6])
              refine AWp.cy ?_
              refine AWp.rg [] [] ?_ (hr := by conv => lhs; simp [hC, Fn.row, Tm.row, Tm.rows_eq, Cs.rows_eq, h1c, hB, arD_get, hg, q3, q4, q5, q1, q2, q6])
              refine AWp.ret ?_
              rw [if_neg (by simp [hg, q3, q4, q5]), if_pos (show 6 < ps.length by omega)] at hE
              rw [if_pos (by omega)] at hwi
              try dsimp only [thenQ, blockQ]
              apply endQ.ret
              · rfl
              · conv => lhs; simp [resAV, Tryd.results16]
              · rw [checkE, if_neg hlen, hwi, if_pos (by omega), hE]; rfl
            refine AWp.rg [] [] ?_ (hr := by conv => lhs; simp [hC, Fn.row, Tm.row, Tm.rows_eq, Cs.rows_eq, h1c, hB, arD_get, hg, q3, q4, q5, q1, q2, q6])
            refine AWp.cn ?_
            refine AWp.skip ?_
            by_cases q7 : 400 < S
            · refine AWp.rg [] [.p (fun _ => .d (.int S)) none] ?_ (hr := by conv => lhs; simp [hC, Fn.row, Tm.row, Tm.rows_eq, Cs.rows_eq, h1c, hB, arD_get, hg, q3, q4, q5, q1, q2, q6, q7])
              refine AWp.cy ?_
              refine AWp.rg [] [] ?_ (hr := by conv => lhs; simp [hC, Fn.row, Tm.row, Tm.rows_eq, Cs.rows_eq, h1c, hB, arD_get, hg, q3, q4, q5, q1, q2, q6, q7])
              refine AWp.ret ?_
              rw [if_neg (by simp [hg, q3, q4, q5]), if_neg (show ¬ 6 < ps.length by omega), if_pos (show 400 < S by omega)] at hE
              rw [if_pos (by omega)] at hwi
              try dsimp only [thenQ, blockQ]
              apply endQ.ret
              · rfl
              · conv => lhs; simp [resAV, Tryd.results16]
              · rw [checkE, if_neg hlen, hwi, if_pos (by omega), hE]; rfl
            refine AWp.rg [] [.p (fun _ => .d (.int S)) none] ?_ (hr := by conv => lhs; simp [hC, Fn.row, Tm.row, Tm.rows_eq, Cs.rows_eq, h1c, hB, arD_get, hg, q3, q4, q5, q1, q2, q6, q7])
            refine AWp.cn ?_
            refine AWp.skip ?_
            rw [if_neg (by simp [hg, q3, q4, q5]), if_neg (show ¬ 6 < ps.length by omega), if_neg (show ¬ 400 < S by omega)] at hE
            rw [if_neg (show ¬ (E ≠ 0) by omega)] at hwi
            have hput : D.aput (.str g) [.int B] (arD f) = arD ((g, ps.length) :: f) := by rw [← hB]; exact arD_put hg
            refine AWp.rg [] [] ?_ (hr := by conv => lhs; simp [hC, Fn.row, Tm.row, Tm.rows_eq, Cs.rows_eq, h1c, hB, arD_get, hg, q3, q4, q5, hput, q1, q2, q6, q7])
            refine AWp.rg [] [] ?_ (hr := by conv => lhs; simp [hC, Fn.row, Tm.row, Tm.rows_eq, Cs.rows_eq, h1c, hB, arD_get, hg, q3, q4, q5, hput, q1, q2, q6, q7])
            refine ⟨⟨i + 1, hi1, hwi⟩, by simp; omega, ?_⟩
            dsimp only
            rw [hsn]
            exact Le.sub (by simp [hC]) (by simp [nmObj])
      | false =>
        rw [q3] at hNm
        refine AWp.rg [] [.p (fun _ => .d (.bool false)) none] ?_ (hr := by conv => lhs; simp [hC, Fn.row, Tm.row, Tm.rows_eq, Cs.rows_eq, h1c, hB, arD_get, hg, q3, q1, q2])
        refine AWp.cy ?_
        refine AWp.rg [] [] ?_ (hr := by conv => lhs; simp [hC, Fn.row, Tm.row, Tm.rows_eq, Cs.rows_eq, h1c, hB, arD_get, hg, q3, q1, q2])
        refine AWp.ret ?_
        rw [if_pos (by simp [hg, q3])] at hE
        rw [if_pos (by omega)] at hwi
        try dsimp only [thenQ, blockQ]
        apply endQ.ret
        · rfl
        · conv => lhs; simp [resAV, Tryd.results16]
        · rw [checkE, if_neg hlen, hwi, if_pos (by omega), hE]; rfl
  have hi1 : i = l.length := by have := of_decide_eq_false hci; omega
  subst hi1
  clear hci
  rw [List.drop_length] at hwi
  simp only [headsE] at hwi
  rw [List.take_length]
  have hall := heads_zero hwi
  refine AWp.exit ?_
  refine AWp.rg [] [] ?_ (hr := by conv => lhs; simp [hC, Fn.row, Tm.row, Tm.rows_eq, Cs.rows_eq, q1, q2])
  repeat (first | refine AWp.seq ?_ | refine AWp.block ?_)
  refine AWp.loop (σ := fun u : {j : Nat // j ≤ l.length ∧ bodiesE (arOf l) l = bodiesE (arOf l) (l.drop j)} => ⟨81, [(0, fnsAV l), (3, .mp 19), (65, fnsAV l), (66, .d (.int l.length)), (67, .d (.int u.1))], [(19, some (wrObj (arOf l)))]⟩)
    (μ := fun u => l.length - u.1) ⟨0, Nat.zero_le _, rfl⟩ (Le.sub (by simp [hC, nmObj]) (by simp [hC, nmObj])) (fun ⟨j, hi, hwj⟩ => ?_)
  dsimp only
  repeat (first | refine AWp.seq ?_ | refine AWp.block ?_)
  apply AWp.reg [] []
  · conv => lhs; simp
  · trivial
  repeat (first | refine AWp.seq ?_ | refine AWp.block ?_)
  refine AWp.cond rfl (fun hcj => ?_) (fun hcj => ?_)
  · have hi1 : j < l.length := by have := of_decide_eq_true hcj; omega
    have h1c : l[j]? = some l[j] := List.getElem?_eq_getElem hi1
    have hmc : l[j] ∈ l := List.getElem_mem hi1
    have hdc : l.drop j = l[j] :: l.drop (j + 1) := List.drop_eq_getElem_cons hi1
    generalize l[j] = c at h1c hmc hdc
    have hps := (hall _ hmc).2.2.2.1
    obtain ⟨g, ps, bd⟩ := c
    obtain ⟨o1, o2, o3, o4⟩ := hl.all _ hmc
    dsimp only at o1 o2 o3 o4 hps
    rw [hdc] at hwj
    simp only [bodiesE] at hwj
    have hx := cs_Wrong (arOf l) bd ps o4 (by omega)
    obtain ⟨E, hE⟩ : ∃ E, E = bd.wrong (arOf l) ps 0 := ⟨_, rfl⟩
    rw [← hE] at hwj hx
    obtain ⟨xk, xn, xa, xb, xv, xx, xc⟩ := bd
    refine AWp.skip ?_
    refine AWp.rg [] [] ?_ (hr := by conv => lhs; simp [hC, Fn.row, Tm.row, Tm.rows_eq, Cs.rows_eq, h1c, q1, q2])
    refine AWp.rg [] [.c [(1000, 19)] [.mp 1000, tmAV (.mk xk xn xa xb xv xx xc), strsAV ps, .d (.int 0)] [(1000, wrObj (arOf l))] (.d (.int E)) [(1000, wrObj (arOf l))]] ?_ (hr := by conv => lhs; simp [hC, Fn.row, Tm.row, Tm.rows_eq, Cs.rows_eq, h1c, q1, q2])
    by_cases q8 : E = 0
    · refine AWp.rg [] [] ?_ (hr := by conv => lhs; simp [hC, Fn.row, Tm.row, Tm.rows_eq, Cs.rows_eq, h1c, q1, q2, q8])
      refine AWp.cn ?_
      refine AWp.skip ?_
      rw [if_neg (show ¬ (E ≠ 0) by omega)] at hwj
      refine AWp.rg [] [] ?_ (hr := by conv => lhs; simp [hC, Fn.row, Tm.row, Tm.rows_eq, Cs.rows_eq, h1c, q1, q2, q8])
      refine ⟨⟨j + 1, hi1, hwj⟩, by simp; omega, ?_⟩
      dsimp only
      exact Le.sub (by simp [hC]) (by simp [nmObj])
    refine AWp.rg [] [] ?_ (hr := by conv => lhs; simp [hC, Fn.row, Tm.row, Tm.rows_eq, Cs.rows_eq, h1c, q1, q2, q8])
    refine AWp.cy ?_
    refine AWp.rg [] [] ?_ (hr := by conv => lhs; simp [hC, Fn.row, Tm.row, Tm.rows_eq, Cs.rows_eq, h1c, q1, q2, q8])
    refine AWp.ret ?_
    rw [if_pos (by omega)] at hwj
    try dsimp only [thenQ, blockQ]
    apply endQ.ret
    · rfl
    · conv => lhs; simp [resAV, Tryd.results16]
    · rw [checkE, if_neg hlen, hwi, if_neg (by omega), hwj]; rfl
  have hi1 : j = l.length := by have := of_decide_eq_false hcj; omega
  subst hi1
  clear hcj
  rw [List.drop_length] at hwj
  simp only [bodiesE] at hwj
  refine AWp.exit ?_
  refine AWp.rg [] [] ?_ (hr := by conv => lhs; simp [hC, Fn.row, Tm.row, Tm.rows_eq, Cs.rows_eq, q1, q2])
  refine AWp.ret ?_
  try dsimp only [thenQ, blockQ]
  apply endQ.ret
  · rfl
  · conv => lhs; simp [resAV, Tryd.results16]
  · rw [checkE, if_neg hlen, hwi, if_neg (by omega), hwj]; rfl

@[simp] theorem le_maxLen18 : 18 ≤ maxLen := by decide
def txE : ByteArray := ⟨#[40, 102, 110, 32, 102, 32, 40, 120, 41, 32, 40, 43, 32, 120, 32, 50, 41, 41]⟩
def prE : List Fn := (parseP false txE).1
theorem prE_fns : FnsOk prE := fnsOk_of (by kernel_rfl)
theorem prE_check : checkE prE = 0 := by kernel_rfl
theorem prE_eq : prE = [⟨⟨#[102]⟩, [⟨#[120]⟩], .mk 5 1 .empty .empty [] [.mk 1 0 ⟨#[120]⟩ .empty [] [] [], .mk 2 2 .empty .empty [] [] []] []⟩] := by kernel_rfl
theorem prE_run : runE true prE ⟨#[102]⟩ [5] 9 = (.mk false 7 [], 0) := by
  have hf : prE.find? (fun x => eqB x.name ⟨#[102]⟩) = some ⟨⟨#[102]⟩, [⟨#[120]⟩], .mk 5 1 .empty .empty [] [.mk 1 0 ⟨#[120]⟩ .empty [] [] [], .mk 2 2 .empty .empty [] [] []] []⟩ := by
    rw [prE_eq, List.find?_cons]
    simp only [eqB_self]
  have h : evCall true prE 40 ⟨#[102]⟩ ([5].map argV) 9 = (.mk false 7 [], 8, 0) := by
    rw [evCall_go hf rfl (by omega)]
    generalize evCall true prE 39 = C
    kernel_rfl
  unfold runE
  rw [h, if_neg (by omega)]
  rfl
set_option maxRecDepth 20000 in
set_option maxHeartbeats 16000000 in
theorem sp_fns3 (s : ByteArray) : PSpec Tryd.prog 67 [.d (.str s)] (fun _ => fnsAV (parseP false s).1) none := by
  have hP := sp_Parse s
  generalize parseP false s = o at hP ⊢
  obtain ⟨L, E⟩ := o
  dsimp only at hP ⊢
  refine PSpec.of Tryd.func67 rfl rfl rfl (Nat.le_of_ble_eq_true rfl) ?_
  show AWp _ _ (endQ _ Tryd.f67 _ _ _) (startAS 11 _)
  refine AWp.rg [] [] ?_
  refine AWp.rg [] [.p (fun _ => .tuple [.d (.sl (L.map Fn.row)), .d (.int E)]) none] ?_
  refine AWp.rg [] [] ?_
  refine AWp.ret ?_
  try dsimp only [thenQ, blockQ]
  apply endQ.ret
  · rfl
  · conv => lhs; simp [resAV, Tryd.results67]
  rfl
set_option maxRecDepth 20000 in
set_option maxHeartbeats 16000000 in
theorem sp_alive3 : PSpec Tryd.prog 29 [] (fun _ => .d (.bool true)) none := by
  have hP := sp_fns3 txE
  rw [show (parseP false txE).1 = prE from rfl] at hP
  unfold txE at hP
  have hr : ∀ x ∈ prE, x.Fit (arOf prE) := fun x hx => ((check_zero prE_check).2.2.2 x hx).fit
  have hR := sp_evRun prE ⟨#[102]⟩ [5] 9 prE_fns.len (fun x hx => (prE_fns.all x hx).body) hr (by simp)
  rw [prE_run] at hR
  have hpr := sp_evPrim 4 1 2
  rw [show primV 4 1 2 = (.mk true 1 [], 0) from rfl] at hpr
  have hO : (Vl.mk false 7 []).Ok := ⟨⟨by omega, by omega⟩, by simp, trivial⟩
  have hw := sp_evOwn (.mk false 7 []) hO
  have hs := sp_evSame (.mk false 7 []) (.mk false 7 []) hO
  rw [eqB_self] at hs
  have hf := sp_Few (.mk false 7 []) hO
  rw [show decide (0 ≤ (Vl.mk false 7 []).left 1000) = true from rfl] at hf
  generalize prE = L at *
  simp only [intsAV, List.map_cons, List.map_nil, intR, vlAV, vlP, Vl.con, Vl.n, Vl.kids] at *
  refine PSpec.of Tryd.func29 rfl rfl rfl (Nat.le_of_ble_eq_true rfl) ?_
  show AWp _ _ (endQ _ Tryd.f29 _ _ _) (startAS 50 _)
  refine AWp.rg [] [] ?_ (hr := by conv => lhs; simp [Vl.row, Vl.rows_eq, intR, Tryd.underlying4])
  refine AWp.rg [1] [.p (fun _ => .d (.sl (L.map Fn.row))) none, .p (fun _ => .tuple [.agg [.d (.bool false), .d (.int 7), .d (.sl [])], .d (.int 0)]) none] ?_ (hr := by conv => lhs; simp [Vl.row, Vl.rows_eq, intR, Tryd.underlying4])
  refine AWp.rg [] [.p (fun _ => .tuple [.agg [.d (.bool true), .d (.int 1), .d (.sl [])], .d (.int 0)]) none] ?_ (hr := by conv => lhs; simp [Vl.row, Vl.rows_eq, intR, Tryd.underlying4])
  refine AWp.dw [] [.p (fun _ => .agg [.d (.bool false), .d (.int 7), .d (.sl [])]) none, .p (fun _ => .d (.bool true)) none, .p (fun _ => .d (.bool true)) none] mixed ?_ (hr := by conv => lhs; simp [Vl.row, Vl.rows_eq, intR, Tryd.underlying4])
  refine AWp.ret ?_
  try dsimp only [thenQ, blockQ]
  apply endQ.ret
  · rfl
  · conv => lhs; simp [resAV, Tryd.results29]
  rfl
theorem runE_ok (l : List Fn) (hr : ∀ x ∈ l, x.Fit (arOf l)) (name : ByteArray) (args : List Int) (fuel : Int) : (runE true l name args fuel).1.Ok := by
  unfold runE
  split
  · exact zeroV_fine.ok
  rename_i hf
  split
  · exact zeroV_fine.ok
  split
  · exact (evCall_fine true hr 40 name (args.map argV) fuel (fun v hv => by obtain ⟨n, _, rfl⟩ := List.mem_map.1 hv; exact argV_fine n) (by omega) (by omega)).1.ok
  · exact zeroV_fine.ok
set_option maxRecDepth 20000 in
set_option maxHeartbeats 16000000 in
theorem sp_EvalUnused (l : List Fn) (x : Fn) (name : ByteArray) (args : List Int) (fuel : Int) (hl : FnsOk l) (hll : l.length < 879609302220) (hx : x.Ok) (ha : args.length ≤ 1048576) : PSpec Tryd.prog 7 [fnsAV l, fnAVe x, .d (.str name), intsAV args, .d (.int fuel)] (fun _ => .d (.bool true)) none := by
  have hal := sp_alive3
  have hkl := sp_refCheck l hl
  obtain ⟨cl, hcl⟩ : ∃ c, c = checkE l := ⟨_, rfl⟩
  rw [← hcl] at hkl
  obtain ⟨m, hm⟩ : ∃ m, m = l ++ [x] := ⟨_, rfl⟩
  have hmO : FnsOk m := by
    rw [hm]
    exact ⟨by rw [List.length_append, List.length_singleton]; omega, fun f hf => (List.mem_append.1 hf).elim (hl.all f) fun h => by rw [List.mem_singleton.1 h]; exact hx⟩
  have hkm := sp_refCheck m hmO
  obtain ⟨cm, hcm⟩ : ∃ c, c = checkE m := ⟨_, rfl⟩
  rw [← hcm] at hkm
  obtain ⟨mg, mps, ⟨mk, mn, ma, mb, mvs, mxs, mcs⟩⟩ := x
  have hmm : l.map Fn.row ++ [[.str mg, strsD mps, .int mk, .int mn, .str ma, .str mb, strsD mvs, .sl (mxs.map Tm.row), .sl (mcs.map Cs.row)]] = m.map Fn.row := by rw [hm]; simp [Fn.row, Tm.row, Tm.rows_eq, Cs.rows_eq]
  have hmt : List.take (l.length + 1) (m.map Fn.row) = m.map Fn.row := List.take_of_length_le (by rw [hm]; simp)
  have hl7 : ∀ (i : Nat) (a : Fn), l[i]? = some a → a.body.row.length = 7 := fun _ a _ => by obtain ⟨_, _, b⟩ := a; cases b; simp [Tm.row]
  refine PSpec.of Tryd.func7 rfl rfl rfl (Nat.le_of_ble_eq_true rfl) ?_
  show AWp _ _ (endQ _ Tryd.f7 _ _ _) (startAS 62 _)
  refine AWp.rg [] [] ?_ (hr := by conv => lhs; simp [Fn.row, Tm.row, Tm.rows_eq, Cs.rows_eq, Tryd.underlying4])
  refine AWp.rg [] [.p (fun _ => .d (.bool true)) none] ?_ (hr := by conv => lhs; simp [Fn.row, Tm.row, Tm.rows_eq, Cs.rows_eq, Tryd.underlying4])
  refine AWp.cn ?_
  refine AWp.skip ?_
  refine AWp.dw [5] [] mixed ?_ (hr := by conv => lhs; simp [Fn.row, Tm.row, Tm.rows_eq, Cs.rows_eq, Tryd.underlying4])
  rw [hmm, hmt]
  by_cases q1 : cl = 0
  · have q1t := eq_true q1
    by_cases q2 : cm = 0
    · have q2t := eq_true q2
      by_cases q3 : mg = name
      · have q3t := eq_true q3
        refine AWp.rg [] [.p (fun _ => .d (.int cl)) none, .p (fun _ => .d (.int cm)) none] ?_ (hr := by conv => lhs; simp [Fn.row, Tm.row, Tm.rows_eq, Cs.rows_eq, Tryd.underlying4, q1t, q2t, q3t])
        refine AWp.cy ?_
        refine AWp.rg [] [] ?_ (hr := by conv => lhs; simp [Fn.row, Tm.row, Tm.rows_eq, Cs.rows_eq, Tryd.underlying4, q1t, q2t, q3t])
        refine AWp.ret ?_
        try dsimp only [thenQ, blockQ]
        apply endQ.ret
        · rfl
        · conv => lhs; simp [resAV, Tryd.results7]
        first | rfl | simp [resVal]
      refine AWp.rg [] [.p (fun _ => .d (.int cl)) none, .p (fun _ => .d (.int cm)) none] ?_ (hr := by conv => lhs; simp [Fn.row, Tm.row, Tm.rows_eq, Cs.rows_eq, Tryd.underlying4, q1t, q2t, q3])
      refine AWp.cn ?_
      refine AWp.skip ?_
      have hc0 : checkE l = 0 := hcl.symm.trans q1
      have hc1 : checkE m = 0 := hcm.symm.trans q2
      have hr : ∀ x ∈ l, x.Fit (arOf l) := fun x hx => ((check_zero hc0).2.2.2 x hx).fit
      have hr1 : ∀ x ∈ m, x.Fit (arOf m) := fun x hx => ((check_zero hc1).2.2.2 x hx).fit
      have hR1 := sp_evRun l name args fuel hl.len (fun x hx => (hl.all x hx).body) hr ha
      have hR2 := sp_evRun m name args fuel hmO.len (fun x hx => (hmO.all x hx).body) hr1 ha
      have hsame : runE true m name args fuel = runE true l name args fuel := by
        rw [hm] at hc1 ⊢
        exact runE_more true hc0 hc1 (fun e => q3 e) args fuel
      rw [hsame] at hR2
      have hok := runE_ok l hr name args fuel
      generalize runE true l name args fuel = R1 at hR1 hR2 hok
      obtain ⟨⟨rc, rn, rks⟩, e1⟩ := R1
      dsimp only at hok hR1 hR2
      have hS := sp_refSameValue (.mk rc rn rks) (.mk rc rn rks) hok
      rw [eqB_self] at hS
      dsimp only [vlAV] at hS
      refine AWp.rg [] [.p (fun _ => .tuple [.agg [.d (.bool rc), .d (.int rn), .d (.sl (rks.map Vl.row))], .d (.int e1)]) none] ?_ (hr := by conv => lhs; simp [Fn.row, Tm.row, Tm.rows_eq, Cs.rows_eq, Tryd.underlying4, q1t, q2t, q3])
      refine AWp.rg [] [.p (fun _ => .tuple [.agg [.d (.bool rc), .d (.int rn), .d (.sl (rks.map Vl.row))], .d (.int e1)]) none] ?_ (hr := by conv => lhs; simp [Fn.row, Tm.row, Tm.rows_eq, Cs.rows_eq, Tryd.underlying4, q1t, q2t, q3])
      refine AWp.rg [] [.p (fun _ => .d (.bool true)) none] ?_ (hr := by conv => lhs; simp [Fn.row, Tm.row, Tm.rows_eq, Cs.rows_eq, Tryd.underlying4, q1t, q2t, q3])
      refine AWp.ret ?_
      try dsimp only [thenQ, blockQ]
      apply endQ.ret
      · rfl
      · conv => lhs; simp [resAV, Tryd.results7]
      first | rfl | simp [resVal]
    refine AWp.rg [] [.p (fun _ => .d (.int cl)) none, .p (fun _ => .d (.int cm)) none] ?_ (hr := by conv => lhs; simp [Fn.row, Tm.row, Tm.rows_eq, Cs.rows_eq, Tryd.underlying4, q1t, q2])
    refine AWp.cy ?_
    refine AWp.rg [] [] ?_ (hr := by conv => lhs; simp [Fn.row, Tm.row, Tm.rows_eq, Cs.rows_eq, Tryd.underlying4, q1t, q2])
    refine AWp.ret ?_
    try dsimp only [thenQ, blockQ]
    apply endQ.ret
    · rfl
    · conv => lhs; simp [resAV, Tryd.results7]
    first | rfl | simp [resVal]
  refine AWp.rg [] [.p (fun _ => .d (.int cl)) none] ?_ (hr := by conv => lhs; simp [Fn.row, Tm.row, Tm.rows_eq, Cs.rows_eq, Tryd.underlying4, q1])
  refine AWp.cy ?_
  refine AWp.rg [] [] ?_ (hr := by conv => lhs; simp [Fn.row, Tm.row, Tm.rows_eq, Cs.rows_eq, Tryd.underlying4, q1])
  refine AWp.ret ?_
  try dsimp only [thenQ, blockQ]
  apply endQ.ret
  · rfl
  · conv => lhs; simp [resAV, Tryd.results7]
  first | rfl | simp [resVal]
end Go.Proofs.YtapiiklnnkkdlaaDoor
