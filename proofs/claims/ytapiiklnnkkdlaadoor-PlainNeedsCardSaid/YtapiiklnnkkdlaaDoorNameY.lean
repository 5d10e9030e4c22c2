import Derived.Test.YtapiiklnnkkdlaaDoorClosP
import Derived.Test.YtapiiklnnkkdlaaDoorNumA
import Derived.Test.YtapiiklnnkkdlaaDoorPlainP
import Derived.Test.YtapiiklnnkkdlaaDoorEvalR
/- xcref1.Show, Print. Printed by a small program. -/
namespace Go.Proofs.YtapiiklnnkkdlaaDoor
open Go.RowKit
attribute [local simp] runD mkRc ldOf stOf stOk ldArg noAny dstOk guardOk opEff opEff0 effOp pureOp callOp zEff evA constAV scalAV Value.oneCell' frGet memGet startAS frOf isGoCall idIn AS.after nextR opnIds objIds AV.ids idsL AObj.ids frNo memNo opnAny isAny mkVal rdCells wrCells fldAddr idxAddr srcRows litRows toD1 toDs setAt sliceAV optI partAV bldAV fillAV binAV binI AV.cells callEff calleeOf frKill memKill AV.kill AObj.kill AV.has AV.hasL Op.operands Call.operands keepF keepM viewIds cChk renOf moGet moWs moQ cEff moLike moHave AV.ren renL AObj.ren AObj.like kept startC moMem AV.frz frz1 frzL frSub memSub frzs AS.frz frFrz memFrz AObj.frz takeMap takeLen bleF Nat.ble_eq memAny objAny mapOp D.keyOk rowAV valRow extOp wrapOp phO
set_option linter.unusedVariables false
set_option linter.unusedSimpArgs false
def ShN (N : Nat) : Prop := ∀ t : Tm, t.sz ≤ N → t.In → t.wt ≤ 4611686018427387904 → PSpec Tryd.prog 47 [tmAV t] (fun _ => .d (.str t.sh)) none
set_option maxRecDepth 20000 in
set_option maxHeartbeats 16000000 in
theorem sh_step (N : Nat) (ih : ShN N) : ShN (N + 1) := by
  intro t hsz hI hW
  obtain ⟨R, hR⟩ : ∃ R, R = t.sh := ⟨_, rfl⟩
  rw [← hR]
  obtain ⟨tk, tn, ta, tb, tvs, txs, tcs⟩ := t
  obtain ⟨hn, hxI, hcI⟩ := hI
  rw [Tm.InL_iff] at hxI
  rw [Cs.InL_iff] at hcI
  rw [Tm.sz] at hsz
  rw [Tm.wt] at hW
  have hA := Tm.shL_size txs ⟨#[]⟩ (Tm.InL_iff.2 hxI)
  have hV := joinB_size tvs 0 ⟨#[]⟩
  have e0 : (⟨#[]⟩ : ByteArray).size = 0 := rfl
  rw [e0, Nat.zero_add] at hA hV
  have hxl := Tm.wtL_len txs
  have hcl := Cs.wtL_len tcs
  have hvl := strW_len tvs
  have hit0 := sp_Itoa tn hn
  have hT := itoaB_size hn
  obtain ⟨T, hT0⟩ : ∃ T, T = itoaB tn := ⟨_, rfl⟩
  rw [← hT0] at hit0 hT
  rw [Tm.sh] at hR
  have hx7 : (7 : Int) = 7 := rfl
  refine PSpec.of Tryd.func47 rfl rfl rfl (Nat.le_of_ble_eq_true rfl) ?_
  show AWp _ _ (endQ _ Tryd.f47 _ _ _) (startAS 209 _)
  refine AWp.rg [] [] ?_ (hr := by conv => lhs; simp [Tm.row, Tm.rows_eq, Cs.rows_eq])
  refine AWp.rg [] [] ?_ (hr := by conv => lhs; simp [Tm.row, Tm.rows_eq, Cs.rows_eq])
  refine AWp.rg [] [] ?_ (hr := by conv => lhs; simp [Tm.row, Tm.rows_eq, Cs.rows_eq])
  repeat (first | refine AWp.seq ?_ | refine AWp.block ?_)
  refine AWp.loop (σ := fun u : {u : Nat × ByteArray // u.1 ≤ txs.length ∧ (Tm.shL txs ⟨#[]⟩ = Tm.shL (txs.drop u.1) u.2 ∧ u.2.size + Tm.wtL (txs.drop u.1) ≤ Tm.wtL txs)} => ⟨209, [(1, .ptr 1 0), (3, .d (.str u.1.2)), (16, .d (.sl (txs.map Tm.row))), (17, .d (.int (txs.length : Int))), (18, .d (.int (u.1.1 : Int)))], [(1, some (.blk 34 [.d (.int tk), .d (.int tn), .d (.str ta), .d (.str tb), .d (strsD tvs), .d (.sl (txs.map Tm.row)), .d (.sl (tcs.map Cs.row))]))]⟩)
    (μ := fun u => txs.length - u.1.1) ⟨(0, ⟨#[]⟩), ⟨Nat.zero_le _, ⟨by rw [List.drop_zero], by rw [List.drop_zero]; exact Nat.le_of_eq (Nat.zero_add _)⟩⟩⟩ (Le.sub (by simp) (by simp)) (fun ⟨(i, o), ⟨hi3, hw⟩⟩ => ?_)
  dsimp only at hi3 hw ⊢
  refine AWp.rg [] [] ?_ (hr := by conv => lhs; simp [Tm.row, Tm.rows_eq, Cs.rows_eq])
  repeat (first | refine AWp.seq ?_ | refine AWp.block ?_)
  refine AWp.cond rfl (fun hc => ?_) (fun hc => ?_)
  · have hi1 : i < txs.length := by have := of_decide_eq_true hc; omega
    clear hc
    have h1y : txs[i]? = some txs[i] := List.getElem?_eq_getElem hi1
    have hmy : txs[i] ∈ txs := List.getElem_mem hi1
    have hdy : txs.drop i = txs[i] :: txs.drop (i + 1) := List.drop_eq_getElem_cons hi1
    generalize txs[i] = y at h1y hmy hdy
    obtain ⟨ho1, ho2⟩ := hw
    have hyw := Tm.wtL_mem hmy
    rw [hdy, Tm.shL] at ho1
    rw [hdy, Tm.wtL] at ho2
    have hx := ih y (by have := Tm.szs_mem hmy; omega) (hxI y hmy) (by omega)
    have hz := Tm.sh_size y (hxI y hmy)
    generalize y.sh = z at hx hz ho1
    generalize y.wt = yw at hz ho2 hyw
    obtain ⟨yk, yn, ya, yb, yvs, yxs, ycs⟩ := y
    refine AWp.skip ?_
    refine AWp.rg [] [] ?_ (hr := by conv => lhs; simp [Tm.row, Tm.rows_eq, Cs.rows_eq, h1y])
    refine AWp.rg [] [.p (fun _ => .d (.str z)) none] ?_ (hr := by conv => lhs; simp [Tm.row, Tm.rows_eq, Cs.rows_eq, h1y])
    refine AWp.rg [] [] ?_ (hr := by conv => lhs; simp [Tm.row, Tm.rows_eq, Cs.rows_eq, h1y])
    refine ⟨⟨(i + 1, (o ++ ⟨#[32]⟩) ++ z), hi1, ⟨ho1, by dsimp only; try simp only [ByteArray.size_append, zl0, zl1, zl2, zl3, zl4, zl5, zl6, zl7, zl8, zl9, zl10, zl11, zl12, zl13, zl14, zl15, zl16, zl17, zl18]; omega⟩⟩, by simp; omega, ?_⟩
    dsimp only
    exact Le.sub (by simp) (by simp)
  have hi1 : i = txs.length := by have := of_decide_eq_false hc; omega
  subst hi1
  clear hc
  obtain ⟨ho1, ho2⟩ := hw
  rw [List.drop_length, Tm.shL] at ho1
  rw [ho1] at hR hA
  clear ho1 ho2
  obtain ⟨A, hAA⟩ : ∃ A, A = o := ⟨_, rfl⟩
  rw [← hAA] at hR hA
  refine AWp.exit ?_
  rw [← hAA]
  clear hAA
  refine AWp.rg [] [] ?_ (hr := by conv => lhs; simp [Tm.row, Tm.rows_eq, Cs.rows_eq])
  refine AWp.rg [] [] ?_ (hr := by conv => lhs; simp [Tm.row, Tm.rows_eq, Cs.rows_eq])
  repeat (first | refine AWp.seq ?_ | refine AWp.block ?_)
  refine AWp.loop (σ := fun u : {u : Nat × ByteArray // u.1 ≤ tvs.length ∧ (joinB 0 tvs ⟨#[]⟩ = joinB u.1 (tvs.drop u.1) u.2 ∧ u.2.size + strW (tvs.drop u.1) ≤ (⟨#[]⟩ : ByteArray).size + strW tvs)} => ⟨209, [(1, .ptr 1 0), (3, .d (.str A)), (6, .d (.str u.1.2)), (29, .d (strsD tvs)), (30, .d (.int (tvs.length : Int))), (31, .d (.int (u.1.1 : Int)))], [(1, some (.blk 34 [.d (.int tk), .d (.int tn), .d (.str ta), .d (.str tb), .d (strsD tvs), .d (.sl (txs.map Tm.row)), .d (.sl (tcs.map Cs.row))]))]⟩)
    (μ := fun u => tvs.length - u.1.1) ⟨(0, ⟨#[]⟩), ⟨Nat.zero_le _, ⟨by rw [List.drop_zero], by rw [List.drop_zero]; exact Nat.le_refl _⟩⟩⟩ (Le.sub (by simp) (by simp)) (fun ⟨(i, v), ⟨hi9, hw⟩⟩ => ?_)
  dsimp only at hi9 hw ⊢
  refine AWp.rg [] [] ?_ (hr := by conv => lhs; simp [Tm.row, Tm.rows_eq, Cs.rows_eq])
  repeat (first | refine AWp.seq ?_ | refine AWp.block ?_)
  refine AWp.cond rfl (fun hc => ?_) (fun hc => ?_)
  · have hi1 : i < tvs.length := by have := of_decide_eq_true hc; omega
    clear hc
    have h1s : tvs[i]? = some tvs[i] := List.getElem?_eq_getElem hi1
    have hms : tvs[i] ∈ tvs := List.getElem_mem hi1
    have hds : tvs.drop i = tvs[i] :: tvs.drop (i + 1) := List.drop_eq_getElem_cons hi1
    generalize tvs[i] = s at h1s hms hds
    obtain ⟨hj1, hj2⟩ := hw
    rw [hds, joinB] at hj1
    rw [hds, strW] at hj2
    refine AWp.skip ?_
    refine AWp.rg [] [] ?_ (hr := by conv => lhs; simp [Tm.row, Tm.rows_eq, Cs.rows_eq, h1s])
    by_cases hp : 0 < i
    · refine AWp.rg [] [] ?_ (hr := by conv => lhs; simp [Tm.row, Tm.rows_eq, Cs.rows_eq, h1s, hp])
      refine AWp.cy ?_
      refine AWp.rg [] [] ?_ (hr := by conv => lhs; simp [Tm.row, Tm.rows_eq, Cs.rows_eq, h1s, hp])
      refine AWp.rg [] [] ?_ (hr := by conv => lhs; simp [Tm.row, Tm.rows_eq, Cs.rows_eq, h1s, hp])
      refine AWp.rg [] [] ?_ (hr := by conv => lhs; simp [Tm.row, Tm.rows_eq, Cs.rows_eq, h1s, hp])
      refine ⟨⟨(i + 1, (v ++ ⟨#[32]⟩) ++ s), hi1, ⟨by rw [hj1, if_pos (by omega)], by dsimp only; try simp only [ByteArray.size_append, zl0, zl1, zl2, zl3, zl4, zl5, zl6, zl7, zl8, zl9, zl10, zl11, zl12, zl13, zl14, zl15, zl16, zl17, zl18]; omega⟩⟩, by simp; omega, ?_⟩
      dsimp only
      exact Le.sub (by simp) (by simp)
    refine AWp.rg [] [] ?_ (hr := by conv => lhs; simp [Tm.row, Tm.rows_eq, Cs.rows_eq, h1s, hp])
    refine AWp.cn ?_
    refine AWp.skip ?_
    refine AWp.rg [] [] ?_ (hr := by conv => lhs; simp [Tm.row, Tm.rows_eq, Cs.rows_eq, h1s, hp])
    refine AWp.rg [] [] ?_ (hr := by conv => lhs; simp [Tm.row, Tm.rows_eq, Cs.rows_eq, h1s, hp])
    refine ⟨⟨(i + 1, v ++ s), hi1, ⟨by rw [hj1, if_neg (by omega)], by dsimp only; try simp only [ByteArray.size_append, zl0, zl1, zl2, zl3, zl4, zl5, zl6, zl7, zl8, zl9, zl10, zl11, zl12, zl13, zl14, zl15, zl16, zl17, zl18]; omega⟩⟩, by simp; omega, ?_⟩
    dsimp only
    exact Le.sub (by simp) (by simp)
  have hi1 : i = tvs.length := by have := of_decide_eq_false hc; omega
  subst hi1
  clear hc
  obtain ⟨hj1, hj2⟩ := hw
  rw [List.drop_length, joinB] at hj1
  rw [hj1] at hR hV
  clear hj1 hj2
  refine AWp.exit ?_
  refine AWp.rg [] [.p (fun _ => .d (.str T)) none] ?_ (hr := by conv => lhs; simp [Tm.row, Tm.rows_eq, Cs.rows_eq])
  refine AWp.rg [] [] ?_ (hr := by conv => lhs; simp [Tm.row, Tm.rows_eq, Cs.rows_eq])
  by_cases q1 : tk = 1
  · have q1t := eq_true q1
    refine AWp.rg [] [] ?_ (hr := by conv => lhs; simp [Tm.row, Tm.rows_eq, Cs.rows_eq, q1t])
    refine AWp.cy ?_
    rw [shK, if_pos (by omega)] at hR
    rw [hR]
    refine AWp.rg [] [] ?_ (hr := by conv => lhs; simp [Tm.row, Tm.rows_eq, Cs.rows_eq, q1t])
    refine AWp.ret ?_
    try dsimp only [thenQ, blockQ]
    apply endQ.ret
    · rfl
    · conv => lhs; simp [resAV, Tryd.results47]
    first | rfl | simp [resVal]
  refine AWp.rg [] [] ?_ (hr := by conv => lhs; simp [Tm.row, Tm.rows_eq, Cs.rows_eq, q1])
  refine AWp.cn ?_
  by_cases q2 : tk = 2
  · have q2t := eq_true q2
    refine AWp.rg [] [] ?_ (hr := by conv => lhs; simp [Tm.row, Tm.rows_eq, Cs.rows_eq, q1, q2t])
    refine AWp.cy ?_
    rw [shK, if_neg (by omega), if_pos (by omega)] at hR
    rw [← hT0] at hR
    rw [hR]
    refine AWp.rg [] [.p (fun _ => .d (.str T)) none] ?_ (hr := by conv => lhs; simp [Tm.row, Tm.rows_eq, Cs.rows_eq, q1, q2t])
    refine AWp.ret ?_
    try dsimp only [thenQ, blockQ]
    apply endQ.ret
    · rfl
    · conv => lhs; simp [resAV, Tryd.results47]
    first | rfl | simp [resVal]
  refine AWp.rg [] [] ?_ (hr := by conv => lhs; simp [Tm.row, Tm.rows_eq, Cs.rows_eq, q1, q2])
  refine AWp.cn ?_
  by_cases q3 : tk = 3
  · have q3t := eq_true q3
    refine AWp.rg [] [] ?_ (hr := by conv => lhs; simp [Tm.row, Tm.rows_eq, Cs.rows_eq, q1, q2, q3t])
    refine AWp.cy ?_
    rw [shK, if_neg (by omega), if_neg (by omega), if_pos (by omega)] at hR
    rw [← hT0] at hR
    rw [hR]
    refine AWp.rg [] [] ?_ (hr := by conv => lhs; simp [Tm.row, Tm.rows_eq, Cs.rows_eq, q1, q2, q3t])
    refine AWp.ret ?_
    try dsimp only [thenQ, blockQ]
    apply endQ.ret
    · rfl
    · conv => lhs; simp [resAV, Tryd.results47]
    first | rfl | simp [resVal]
  refine AWp.rg [] [] ?_ (hr := by conv => lhs; simp [Tm.row, Tm.rows_eq, Cs.rows_eq, q1, q2, q3])
  refine AWp.cn ?_
  by_cases q4 : tk = 4
  · have q4t := eq_true q4
    refine AWp.rg [] [] ?_ (hr := by conv => lhs; simp [Tm.row, Tm.rows_eq, Cs.rows_eq, q1, q2, q3, q4t])
    refine AWp.cy ?_
    rw [shK, if_neg (by omega), if_neg (by omega), if_neg (by omega), if_pos (by omega)] at hR
    rw [hR]
    refine AWp.rg [] [] ?_ (hr := by conv => lhs; simp [Tm.row, Tm.rows_eq, Cs.rows_eq, q1, q2, q3, q4t])
    refine AWp.ret ?_
    try dsimp only [thenQ, blockQ]
    apply endQ.ret
    · rfl
    · conv => lhs; simp [resAV, Tryd.results47]
    first | rfl | simp [resVal]
  refine AWp.rg [] [] ?_ (hr := by conv => lhs; simp [Tm.row, Tm.rows_eq, Cs.rows_eq, q1, q2, q3, q4])
  refine AWp.cn ?_
  by_cases q5 : tk = 5
  · have q5t := eq_true q5
    refine AWp.rg [] [] ?_ (hr := by conv => lhs; simp [Tm.row, Tm.rows_eq, Cs.rows_eq, q1, q2, q3, q4, q5t])
    refine AWp.cy ?_
    by_cases q6 : 0 < tn
    · by_cases q7 : tn < 6
      · refine AWp.rg [] [] ?_ (hr := by conv => lhs; simp [Tm.row, Tm.rows_eq, Cs.rows_eq, q1, q2, q3, q4, q5t, q6, q7])
        refine AWp.cy ?_
        rw [shK, if_neg (by omega), if_neg (by omega), if_neg (by omega), if_neg (by omega), if_pos (by omega), if_pos (by omega)] at hR
        rw [hR]
        refine AWp.rg [] [] ?_ (hr := by conv => lhs; simp [Tm.row, Tm.rows_eq, Cs.rows_eq, q1, q2, q3, q4, q5t, q6, q7])
        refine AWp.ret ?_
        try dsimp only [thenQ, blockQ]
        apply endQ.ret
        · rfl
        · conv => lhs; simp [resAV, Tryd.results47]
        first | rfl | simp [resVal]
      refine AWp.rg [] [] ?_ (hr := by conv => lhs; simp [Tm.row, Tm.rows_eq, Cs.rows_eq, q1, q2, q3, q4, q5t, q6, q7])
      refine AWp.cn ?_
      refine AWp.skip ?_
      rw [shK, if_neg (by omega), if_neg (by omega), if_neg (by omega), if_neg (by omega), if_pos (by omega), if_neg (by omega)] at hR
      rw [hR]
      refine AWp.rg [] [] ?_ (hr := by conv => lhs; simp [Tm.row, Tm.rows_eq, Cs.rows_eq, q1, q2, q3, q4, q5t, q6, q7])
      refine AWp.ret ?_
      try dsimp only [thenQ, blockQ]
      apply endQ.ret
      · rfl
      · conv => lhs; simp [resAV, Tryd.results47]
      first | rfl | simp [resVal]
    refine AWp.rg [] [] ?_ (hr := by conv => lhs; simp [Tm.row, Tm.rows_eq, Cs.rows_eq, q1, q2, q3, q4, q5t, q6])
    refine AWp.cn ?_
    refine AWp.skip ?_
    rw [shK, if_neg (by omega), if_neg (by omega), if_neg (by omega), if_neg (by omega), if_pos (by omega), if_neg (by omega)] at hR
    rw [hR]
    refine AWp.rg [] [] ?_ (hr := by conv => lhs; simp [Tm.row, Tm.rows_eq, Cs.rows_eq, q1, q2, q3, q4, q5t, q6])
    refine AWp.ret ?_
    try dsimp only [thenQ, blockQ]
    apply endQ.ret
    · rfl
    · conv => lhs; simp [resAV, Tryd.results47]
    first | rfl | simp [resVal]
  refine AWp.rg [] [] ?_ (hr := by conv => lhs; simp [Tm.row, Tm.rows_eq, Cs.rows_eq, q1, q2, q3, q4, q5])
  refine AWp.cn ?_
  by_cases q8 : tk = 6
  · have q8t := eq_true q8
    refine AWp.rg [] [] ?_ (hr := by conv => lhs; simp [Tm.row, Tm.rows_eq, Cs.rows_eq, q1, q2, q3, q4, q5, q8t])
    refine AWp.cy ?_
    rw [shK, if_neg (by omega), if_neg (by omega), if_neg (by omega), if_neg (by omega), if_neg (by omega), if_pos (by omega)] at hR
    rw [hR]
    refine AWp.rg [] [] ?_ (hr := by conv => lhs; simp [Tm.row, Tm.rows_eq, Cs.rows_eq, q1, q2, q3, q4, q5, q8t])
    refine AWp.ret ?_
    try dsimp only [thenQ, blockQ]
    apply endQ.ret
    · rfl
    · conv => lhs; simp [resAV, Tryd.results47]
    first | rfl | simp [resVal]
  refine AWp.rg [] [] ?_ (hr := by conv => lhs; simp [Tm.row, Tm.rows_eq, Cs.rows_eq, q1, q2, q3, q4, q5, q8])
  refine AWp.cn ?_
  by_cases q9 : tk = 7
  · have q9t := eq_true q9
    refine AWp.rg [] [] ?_ (hr := by conv => lhs; simp [Tm.row, Tm.rows_eq, Cs.rows_eq, q1, q2, q3, q4, q5, q8, q9t])
    refine AWp.cy ?_
    rw [shK, if_neg (by omega), if_neg (by omega), if_neg (by omega), if_neg (by omega), if_neg (by omega), if_neg (by omega), if_pos (by omega)] at hR
    obtain ⟨M0, hM0⟩ : ∃ M, M = ⟨#[40, 109, 97, 116, 99, 104]⟩ ++ A := ⟨_, rfl⟩
    have hM0s : M0.size = 6 + A.size := by rw [hM0, ByteArray.size_append]; rfl
    rw [← hM0] at hR
    refine AWp.rg [] [] ?_ (hr := by conv => lhs; simp [Tm.row, Tm.rows_eq, Cs.rows_eq, q1, q2, q3, q4, q5, q8, q9t])
    rw [← hM0]
    clear hM0
    refine AWp.rg [] [] ?_ (hr := by conv => lhs; simp [Tm.row, Tm.rows_eq, Cs.rows_eq, q1, q2, q3, q4, q5, q8, q9t])
    repeat (first | refine AWp.seq ?_ | refine AWp.block ?_)
    refine AWp.loop (σ := fun u : {u : Nat × ByteArray // u.1 ≤ tcs.length ∧ (Cs.shL tcs M0 = Cs.shL (tcs.drop u.1) u.2 ∧ u.2.size + Cs.wtL (tcs.drop u.1) ≤ M0.size + Cs.wtL tcs)} => ⟨209, [(10, .d (.str u.1.2)), (107, .d (.sl (tcs.map Cs.row))), (108, .d (.int (tcs.length : Int))), (109, .d (.int (u.1.1 : Int)))], []⟩)
      (μ := fun u => tcs.length - u.1.1) ⟨(0, M0), ⟨Nat.zero_le _, ⟨by rw [List.drop_zero], by rw [List.drop_zero]; exact Nat.le_refl _⟩⟩⟩ (Le.sub (by simp) (by simp)) (fun ⟨(i, m), ⟨hi34, hw⟩⟩ => ?_)
    dsimp only at hi34 hw ⊢
    refine AWp.rg [] [] ?_ (hr := by conv => lhs; simp [Tm.row, Tm.rows_eq, Cs.rows_eq, q1, q2, q3, q4, q5, q8, q9t])
    repeat (first | refine AWp.seq ?_ | refine AWp.block ?_)
    refine AWp.cond rfl (fun hc => ?_) (fun hc => ?_)
    · have hi1 : i < tcs.length := by have := of_decide_eq_true hc; omega
      clear hc
      have h1y : tcs[i]? = some tcs[i] := List.getElem?_eq_getElem hi1
      have hmy : tcs[i] ∈ tcs := List.getElem_mem hi1
      have hdy : tcs.drop i = tcs[i] :: tcs.drop (i + 1) := List.drop_eq_getElem_cons hi1
      generalize tcs[i] = y at h1y hmy hdy
      obtain ⟨hm1, hm2⟩ := hw
      have hyw := Cs.wtL_mem hmy
      rw [hdy, Cs.shL] at hm1
      rw [hdy, Cs.wtL] at hm2
      have hyI := hcI y hmy
      have hysz := Cs.szs_mem hmy
      obtain ⟨dt, dws, y⟩ := y
      rw [Cs.wt] at hm2 hyw
      rw [Cs.sz] at hysz
      have hit := sp_Itoa dt hyI.1
      have hT2 := itoaB_size hyI.1
      have hwl := strW_len dws
      have hx := ih y (by omega) hyI.2 (by omega)
      have hz := Tm.sh_size y hyI.2
      rw [Cs.shC] at hm1
      generalize itoaB dt = T2 at hit hT2 hm1
      generalize y.sh = z at hx hz hm1
      generalize y.wt = yw at hz hm2 hyw
      obtain ⟨yk, yn, ya, yb, yvs, yxs, ycs⟩ := y
      obtain ⟨m1, hm1d⟩ : ∃ x, x = ((m ++ ⟨#[32, 40, 35]⟩) ++ T2) ++ ⟨#[32, 40]⟩ := ⟨_, rfl⟩
      have hm1s : m1.size = m.size + T2.size + 5 := by rw [hm1d]; try simp only [ByteArray.size_append, zl0, zl1, zl2, zl3, zl4, zl5, zl6, zl7, zl8, zl9, zl10, zl11, zl12, zl13, zl14, zl15, zl16, zl17, zl18]; omega
      rw [← hm1d] at hm1
      refine AWp.skip ?_
      refine AWp.rg [] [] ?_ (hr := by conv => lhs; simp [Tm.row, Tm.rows_eq, Cs.rows_eq, h1y, Cs.row, q1, q2, q3, q4, q5, q8, q9t])
      refine AWp.rg [] [.p (fun _ => .d (.str T2)) none] ?_ (hr := by conv => lhs; simp [Tm.row, Tm.rows_eq, Cs.rows_eq, h1y, Cs.row, q1, q2, q3, q4, q5, q8, q9t])
      rw [← hm1d]
      refine AWp.rg [] [] ?_ (hr := by conv => lhs; simp [Tm.row, Tm.rows_eq, Cs.rows_eq, h1y, Cs.row, q1, q2, q3, q4, q5, q8, q9t])
      repeat (first | refine AWp.seq ?_ | refine AWp.block ?_)
      refine AWp.loop (σ := fun u : {u : Nat × ByteArray // u.1 ≤ dws.length ∧ (joinB 0 dws m1 = joinB u.1 (dws.drop u.1) u.2 ∧ u.2.size + strW (dws.drop u.1) ≤ (m1 : ByteArray).size + strW dws)} => ⟨209, [(10, .d (.str u.1.2)), (12, .ptr 12 0), (107, .d (.sl (tcs.map Cs.row))), (108, .d (.int (tcs.length : Int))), (109, .d (.int (i : Int))), (121, .d (strsD dws)), (122, .d (.int (dws.length : Int))), (123, .d (.int (u.1.1 : Int)))], [(12, some (.blk 40 [.d (.int dt), .d (strsD dws), .d (.int yk), .d (.int yn), .d (.str ya), .d (.str yb), .d (strsD yvs), .d (.sl (yxs.map Tm.row)), .d (.sl (ycs.map Cs.row))]))]⟩)
        (μ := fun u => dws.length - u.1.1) ⟨(0, m1), ⟨Nat.zero_le _, ⟨by rw [List.drop_zero], by rw [List.drop_zero]; exact Nat.le_refl _⟩⟩⟩ (Le.sub (by simp) (by simp)) (fun ⟨(j, v), ⟨hi38, hw⟩⟩ => ?_)
      dsimp only at hi38 hw ⊢
      refine AWp.rg [] [] ?_ (hr := by conv => lhs; simp [Tm.row, Tm.rows_eq, Cs.rows_eq, h1y, Cs.row, q1, q2, q3, q4, q5, q8, q9t])
      repeat (first | refine AWp.seq ?_ | refine AWp.block ?_)
      refine AWp.cond rfl (fun hc => ?_) (fun hc => ?_)
      · have hi1 : j < dws.length := by have := of_decide_eq_true hc; omega
        clear hc
        have h1s : dws[j]? = some dws[j] := List.getElem?_eq_getElem hi1
        have hms : dws[j] ∈ dws := List.getElem_mem hi1
        have hds : dws.drop j = dws[j] :: dws.drop (j + 1) := List.drop_eq_getElem_cons hi1
        generalize dws[j] = s at h1s hms hds
        obtain ⟨hj1, hj2⟩ := hw
        rw [hds, joinB] at hj1
        rw [hds, strW] at hj2
        refine AWp.skip ?_
        refine AWp.rg [] [] ?_ (hr := by conv => lhs; simp [Tm.row, Tm.rows_eq, Cs.rows_eq, h1y, Cs.row, h1s, q1, q2, q3, q4, q5, q8, q9t])
        by_cases hp : 0 < j
        · refine AWp.rg [] [] ?_ (hr := by conv => lhs; simp [Tm.row, Tm.rows_eq, Cs.rows_eq, h1y, Cs.row, h1s, q1, q2, q3, q4, q5, q8, q9t, hp])
          refine AWp.cy ?_
          refine AWp.rg [] [] ?_ (hr := by conv => lhs; simp [Tm.row, Tm.rows_eq, Cs.rows_eq, h1y, Cs.row, h1s, q1, q2, q3, q4, q5, q8, q9t, hp])
          refine AWp.rg [] [] ?_ (hr := by conv => lhs; simp [Tm.row, Tm.rows_eq, Cs.rows_eq, h1y, Cs.row, h1s, q1, q2, q3, q4, q5, q8, q9t, hp])
          refine AWp.rg [] [] ?_ (hr := by conv => lhs; simp [Tm.row, Tm.rows_eq, Cs.rows_eq, h1y, Cs.row, h1s, q1, q2, q3, q4, q5, q8, q9t, hp])
          refine ⟨⟨(j + 1, (v ++ ⟨#[32]⟩) ++ s), hi1, ⟨by rw [hj1, if_pos (by omega)], by dsimp only; try simp only [ByteArray.size_append, zl0, zl1, zl2, zl3, zl4, zl5, zl6, zl7, zl8, zl9, zl10, zl11, zl12, zl13, zl14, zl15, zl16, zl17, zl18]; omega⟩⟩, by simp; omega, ?_⟩
          dsimp only
          exact Le.sub (by simp) (by simp)
        refine AWp.rg [] [] ?_ (hr := by conv => lhs; simp [Tm.row, Tm.rows_eq, Cs.rows_eq, h1y, Cs.row, h1s, q1, q2, q3, q4, q5, q8, q9t, hp])
        refine AWp.cn ?_
        refine AWp.skip ?_
        refine AWp.rg [] [] ?_ (hr := by conv => lhs; simp [Tm.row, Tm.rows_eq, Cs.rows_eq, h1y, Cs.row, h1s, q1, q2, q3, q4, q5, q8, q9t, hp])
        refine AWp.rg [] [] ?_ (hr := by conv => lhs; simp [Tm.row, Tm.rows_eq, Cs.rows_eq, h1y, Cs.row, h1s, q1, q2, q3, q4, q5, q8, q9t, hp])
        refine ⟨⟨(j + 1, v ++ s), hi1, ⟨by rw [hj1, if_neg (by omega)], by dsimp only; try simp only [ByteArray.size_append, zl0, zl1, zl2, zl3, zl4, zl5, zl6, zl7, zl8, zl9, zl10, zl11, zl12, zl13, zl14, zl15, zl16, zl17, zl18]; omega⟩⟩, by simp; omega, ?_⟩
        dsimp only
        exact Le.sub (by simp) (by simp)
      have hi1 : j = dws.length := by have := of_decide_eq_false hc; omega
      subst hi1
      clear hc
      obtain ⟨hj1, hj2⟩ := hw
      rw [List.drop_length, joinB] at hj1
      rw [List.drop_length, strW] at hj2
      rw [hj1] at hm1
      refine AWp.exit ?_
      refine AWp.rg [] [.p (fun _ => .d (.str z)) none] ?_ (hr := by conv => lhs; simp [Tm.row, Tm.rows_eq, Cs.rows_eq, h1y, Cs.row, q1, q2, q3, q4, q5, q8, q9t])
      refine AWp.rg [] [] ?_ (hr := by conv => lhs; simp [Tm.row, Tm.rows_eq, Cs.rows_eq, h1y, Cs.row, q1, q2, q3, q4, q5, q8, q9t])
      refine ⟨⟨(i + 1, ((v ++ ⟨#[41, 32]⟩) ++ z) ++ ⟨#[41]⟩), hi1, ⟨hm1, by dsimp only; try simp only [ByteArray.size_append, zl0, zl1, zl2, zl3, zl4, zl5, zl6, zl7, zl8, zl9, zl10, zl11, zl12, zl13, zl14, zl15, zl16, zl17, zl18]; omega⟩⟩, by simp; omega, ?_⟩
      dsimp only
      exact Le.sub (by simp) (by simp)
    have hi1 : i = tcs.length := by have := of_decide_eq_false hc; omega
    subst hi1
    clear hc
    obtain ⟨hm1, hm2⟩ := hw
    rw [List.drop_length, Cs.shL] at hm1
    rw [hm1] at hR
    rw [List.drop_length, Cs.wtL] at hm2
    refine AWp.exit ?_
    rw [hR]
    refine AWp.rg [] [] ?_ (hr := by conv => lhs; simp [Tm.row, Tm.rows_eq, Cs.rows_eq, q1, q2, q3, q4, q5, q8, q9t])
    refine AWp.ret ?_
    try dsimp only [thenQ, blockQ]
    apply endQ.ret
    · rfl
    · conv => lhs; simp [resAV, Tryd.results47]
    first | rfl | simp [resVal]
  refine AWp.rg [] [] ?_ (hr := by conv => lhs; simp [Tm.row, Tm.rows_eq, Cs.rows_eq, q1, q2, q3, q4, q5, q8, q9])
  refine AWp.cn ?_
  by_cases q10 : tk = 8
  · have q10t := eq_true q10
    refine AWp.rg [] [] ?_ (hr := by conv => lhs; simp [Tm.row, Tm.rows_eq, Cs.rows_eq, q1, q2, q3, q4, q5, q8, q9, q10t])
    refine AWp.cy ?_
    rw [shK, if_neg (by omega), if_neg (by omega), if_neg (by omega), if_neg (by omega), if_neg (by omega), if_neg (by omega), if_neg (by omega), if_pos (by omega)] at hR
    rw [hR]
    refine AWp.rg [] [] ?_ (hr := by conv => lhs; simp [Tm.row, Tm.rows_eq, Cs.rows_eq, q1, q2, q3, q4, q5, q8, q9, q10t])
    refine AWp.ret ?_
    try dsimp only [thenQ, blockQ]
    apply endQ.ret
    · rfl
    · conv => lhs; simp [resAV, Tryd.results47]
    first | rfl | simp [resVal]
  refine AWp.rg [] [] ?_ (hr := by conv => lhs; simp [Tm.row, Tm.rows_eq, Cs.rows_eq, q1, q2, q3, q4, q5, q8, q9, q10])
  refine AWp.cn ?_
  by_cases q11 : tk = 9
  · have q11t := eq_true q11
    refine AWp.rg [] [] ?_ (hr := by conv => lhs; simp [Tm.row, Tm.rows_eq, Cs.rows_eq, q1, q2, q3, q4, q5, q8, q9, q10, q11t])
    refine AWp.cy ?_
    rw [shK, if_neg (by omega), if_neg (by omega), if_neg (by omega), if_neg (by omega), if_neg (by omega), if_neg (by omega), if_neg (by omega), if_neg (by omega), if_pos (by omega)] at hR
    rw [hR]
    refine AWp.rg [] [] ?_ (hr := by conv => lhs; simp [Tm.row, Tm.rows_eq, Cs.rows_eq, q1, q2, q3, q4, q5, q8, q9, q10, q11t])
    refine AWp.ret ?_
    try dsimp only [thenQ, blockQ]
    apply endQ.ret
    · rfl
    · conv => lhs; simp [resAV, Tryd.results47]
    first | rfl | simp [resVal]
  refine AWp.rg [] [] ?_ (hr := by conv => lhs; simp [Tm.row, Tm.rows_eq, Cs.rows_eq, q1, q2, q3, q4, q5, q8, q9, q10, q11])
  refine AWp.cn ?_
  by_cases q12 : tk = 10
  · have q12t := eq_true q12
    refine AWp.rg [] [] ?_ (hr := by conv => lhs; simp [Tm.row, Tm.rows_eq, Cs.rows_eq, q1, q2, q3, q4, q5, q8, q9, q10, q11, q12t])
    refine AWp.cy ?_
    rw [shK, if_neg (by omega), if_neg (by omega), if_neg (by omega), if_neg (by omega), if_neg (by omega), if_neg (by omega), if_neg (by omega), if_neg (by omega), if_neg (by omega), if_pos (by omega)] at hR
    rw [hR]
    refine AWp.rg [] [] ?_ (hr := by conv => lhs; simp [Tm.row, Tm.rows_eq, Cs.rows_eq, q1, q2, q3, q4, q5, q8, q9, q10, q11, q12t])
    refine AWp.ret ?_
    try dsimp only [thenQ, blockQ]
    apply endQ.ret
    · rfl
    · conv => lhs; simp [resAV, Tryd.results47]
    first | rfl | simp [resVal]
  refine AWp.rg [] [] ?_ (hr := by conv => lhs; simp [Tm.row, Tm.rows_eq, Cs.rows_eq, q1, q2, q3, q4, q5, q8, q9, q10, q11, q12])
  refine AWp.cn ?_
  by_cases q13 : tk = 11
  · have q13t := eq_true q13
    refine AWp.rg [] [] ?_ (hr := by conv => lhs; simp [Tm.row, Tm.rows_eq, Cs.rows_eq, q1, q2, q3, q4, q5, q8, q9, q10, q11, q12, q13t])
    refine AWp.cy ?_
    rw [shK, if_neg (by omega), if_neg (by omega), if_neg (by omega), if_neg (by omega), if_neg (by omega), if_neg (by omega), if_neg (by omega), if_neg (by omega), if_neg (by omega), if_neg (by omega), if_pos (by omega)] at hR
    rw [hR]
    refine AWp.rg [] [] ?_ (hr := by conv => lhs; simp [Tm.row, Tm.rows_eq, Cs.rows_eq, q1, q2, q3, q4, q5, q8, q9, q10, q11, q12, q13t])
    refine AWp.ret ?_
    try dsimp only [thenQ, blockQ]
    apply endQ.ret
    · rfl
    · conv => lhs; simp [resAV, Tryd.results47]
    first | rfl | simp [resVal]
  refine AWp.rg [] [] ?_ (hr := by conv => lhs; simp [Tm.row, Tm.rows_eq, Cs.rows_eq, q1, q2, q3, q4, q5, q8, q9, q10, q11, q12, q13])
  refine AWp.cn ?_
  by_cases q14 : tk = 12
  · have q14t := eq_true q14
    refine AWp.rg [] [] ?_ (hr := by conv => lhs; simp [Tm.row, Tm.rows_eq, Cs.rows_eq, q1, q2, q3, q4, q5, q8, q9, q10, q11, q12, q13, q14t])
    refine AWp.cy ?_
    rw [shK, if_neg (by omega), if_neg (by omega), if_neg (by omega), if_neg (by omega), if_neg (by omega), if_neg (by omega), if_neg (by omega), if_neg (by omega), if_neg (by omega), if_neg (by omega), if_neg (by omega), if_pos (by omega)] at hR
    rw [← hT0] at hR
    rw [hR]
    refine AWp.rg [] [] ?_ (hr := by conv => lhs; simp [Tm.row, Tm.rows_eq, Cs.rows_eq, q1, q2, q3, q4, q5, q8, q9, q10, q11, q12, q13, q14t])
    refine AWp.ret ?_
    try dsimp only [thenQ, blockQ]
    apply endQ.ret
    · rfl
    · conv => lhs; simp [resAV, Tryd.results47]
    first | rfl | simp [resVal]
  refine AWp.rg [] [] ?_ (hr := by conv => lhs; simp [Tm.row, Tm.rows_eq, Cs.rows_eq, q1, q2, q3, q4, q5, q8, q9, q10, q11, q12, q13, q14])
  refine AWp.cn ?_
  by_cases q15 : tk = 13
  · have q15t := eq_true q15
    refine AWp.rg [] [] ?_ (hr := by conv => lhs; simp [Tm.row, Tm.rows_eq, Cs.rows_eq, q1, q2, q3, q4, q5, q8, q9, q10, q11, q12, q13, q14, q15t])
    refine AWp.cy ?_
    rw [shK, if_neg (by omega), if_neg (by omega), if_neg (by omega), if_neg (by omega), if_neg (by omega), if_neg (by omega), if_neg (by omega), if_neg (by omega), if_neg (by omega), if_neg (by omega), if_neg (by omega), if_neg (by omega), if_pos (by omega)] at hR
    rw [hR]
    refine AWp.rg [] [] ?_ (hr := by conv => lhs; simp [Tm.row, Tm.rows_eq, Cs.rows_eq, q1, q2, q3, q4, q5, q8, q9, q10, q11, q12, q13, q14, q15t])
    refine AWp.ret ?_
    try dsimp only [thenQ, blockQ]
    apply endQ.ret
    · rfl
    · conv => lhs; simp [resAV, Tryd.results47]
    first | rfl | simp [resVal]
  refine AWp.rg [] [] ?_ (hr := by conv => lhs; simp [Tm.row, Tm.rows_eq, Cs.rows_eq, q1, q2, q3, q4, q5, q8, q9, q10, q11, q12, q13, q14, q15])
  refine AWp.cn ?_
  refine AWp.skip ?_
  rw [shK, if_neg (by omega), if_neg (by omega), if_neg (by omega), if_neg (by omega), if_neg (by omega), if_neg (by omega), if_neg (by omega), if_neg (by omega), if_neg (by omega), if_neg (by omega), if_neg (by omega), if_neg (by omega), if_neg (by omega)] at hR
  rw [hR]
  refine AWp.rg [] [] ?_ (hr := by conv => lhs; simp [Tm.row, Tm.rows_eq, Cs.rows_eq, q1, q2, q3, q4, q5, q8, q9, q10, q11, q12, q13, q14, q15])
  refine AWp.ret ?_
  try dsimp only [thenQ, blockQ]
  apply endQ.ret
  · rfl
  · conv => lhs; simp [resAV, Tryd.results47]
  first | rfl | simp [resVal]
theorem sh_all : ∀ N, ShN N
  | 0 => fun t h => by have := t.sz_ge; omega
  | N + 1 => sh_step N (sh_all N)
theorem sp_Show (t : Tm) (hI : t.In) (hW : t.wt ≤ 4611686018427387904) : PSpec Tryd.prog 47 [tmAV t] (fun _ => .d (.str t.sh)) none := sh_all t.sz t (Nat.le_refl _) hI hW
set_option maxRecDepth 20000 in
set_option maxHeartbeats 16000000 in
theorem sp_Print (l : List Fn) (hI : ∀ f ∈ l, f.body.In) (hW : Fn.wtL l ≤ 4611686018427387904) : PSpec Tryd.prog 45 [fnsAV l] (fun _ => .d (.str (Fn.shL l ⟨#[]⟩))) none := by
  obtain ⟨R, hR⟩ : ∃ R, R = Fn.shL l ⟨#[]⟩ := ⟨_, rfl⟩
  rw [← hR]
  have hll := Fn.wtL_len l
  refine PSpec.of Tryd.func45 rfl rfl rfl (Nat.le_of_ble_eq_true rfl) ?_
  show AWp _ _ (endQ _ Tryd.f45 _ _ _) (startAS 45 _)
  refine AWp.rg [] [] ?_ (hr := by conv => lhs; simp [Fn.row, Tm.row, Tm.rows_eq, Cs.rows_eq])
  refine AWp.rg [] [] ?_ (hr := by conv => lhs; simp [Fn.row, Tm.row, Tm.rows_eq, Cs.rows_eq])
  refine AWp.rg [] [] ?_ (hr := by conv => lhs; simp [Fn.row, Tm.row, Tm.rows_eq, Cs.rows_eq])
  repeat (first | refine AWp.seq ?_ | refine AWp.block ?_)
  refine AWp.loop (σ := fun u : {u : Nat × ByteArray // u.1 ≤ l.length ∧ (Fn.shL l ⟨#[]⟩ = Fn.shL (l.drop u.1) u.2 ∧ u.2.size + Fn.wtL (l.drop u.1) ≤ Fn.wtL l)} => ⟨45, [(3, .d (.str u.1.2)), (8, .d (.sl (l.map Fn.row))), (9, .d (.int (l.length : Int))), (10, .d (.int (u.1.1 : Int)))], []⟩)
    (μ := fun u => l.length - u.1.1) ⟨(0, ⟨#[]⟩), ⟨Nat.zero_le _, ⟨by rw [List.drop_zero], by rw [List.drop_zero]; exact Nat.le_of_eq (Nat.zero_add _)⟩⟩⟩ (Le.sub (by simp) (by simp)) (fun ⟨(i, m), ⟨hi3, hw⟩⟩ => ?_)
  dsimp only at hi3 hw ⊢
  refine AWp.rg [] [] ?_ (hr := by conv => lhs; simp [Fn.row, Tm.row, Tm.rows_eq, Cs.rows_eq])
  repeat (first | refine AWp.seq ?_ | refine AWp.block ?_)
  refine AWp.cond rfl (fun hc => ?_) (fun hc => ?_)
  · have hi1 : i < l.length := by have := of_decide_eq_true hc; omega
    clear hc
    have h1y : l[i]? = some l[i] := List.getElem?_eq_getElem hi1
    have hmy : l[i] ∈ l := List.getElem_mem hi1
    have hdy : l.drop i = l[i] :: l.drop (i + 1) := List.drop_eq_getElem_cons hi1
    generalize l[i] = y at h1y hmy hdy
    obtain ⟨hm1, hm2⟩ := hw
    have hyw := Fn.wtL_mem hmy
    rw [hdy, Fn.shL] at hm1
    rw [hdy, Fn.wtL] at hm2
    have hyI := hI y hmy
    obtain ⟨fg, dws, y⟩ := y
    dsimp only at hm1 hm2 hyw hyI
    have hwl := strW_len dws
    have hx := sp_Show y hyI (by omega)
    have hz := Tm.sh_size y hyI
    generalize y.sh = z at hx hz hm1
    generalize y.wt = yw at hz hm2 hyw
    obtain ⟨yk, yn, ya, yb, yvs, yxs, ycs⟩ := y
    obtain ⟨m1, hm1d⟩ : ∃ x, x = ((m ++ ⟨#[40, 102, 110, 32]⟩) ++ fg) ++ ⟨#[32, 40]⟩ := ⟨_, rfl⟩
    have hm1s : m1.size = m.size + fg.size + 6 := by rw [hm1d]; try simp only [ByteArray.size_append, zl0, zl1, zl2, zl3, zl4, zl5, zl6, zl7, zl8, zl9, zl10, zl11, zl12, zl13, zl14, zl15, zl16, zl17, zl18]; omega
    rw [← hm1d] at hm1
    refine AWp.skip ?_
    refine AWp.rg [] [] ?_ (hr := by conv => lhs; simp [Fn.row, Tm.row, Tm.rows_eq, Cs.rows_eq, h1y])
    refine AWp.rg [] [] ?_ (hr := by conv => lhs; simp [Fn.row, Tm.row, Tm.rows_eq, Cs.rows_eq, h1y])
    rw [← hm1d]
    clear hm1d
    refine AWp.rg [] [] ?_ (hr := by conv => lhs; simp [Fn.row, Tm.row, Tm.rows_eq, Cs.rows_eq, h1y])
    repeat (first | refine AWp.seq ?_ | refine AWp.block ?_)
    refine AWp.loop (σ := fun u : {u : Nat × ByteArray // u.1 ≤ dws.length ∧ (joinB 0 dws m1 = joinB u.1 (dws.drop u.1) u.2 ∧ u.2.size + strW (dws.drop u.1) ≤ (m1 : ByteArray).size + strW dws)} => ⟨45, [(3, .d (.str u.1.2)), (5, .ptr 5 0), (8, .d (.sl (l.map Fn.row))), (9, .d (.int (l.length : Int))), (10, .d (.int (i : Int))), (21, .d (strsD dws)), (22, .d (.int (dws.length : Int))), (23, .d (.int (u.1.1 : Int)))], [(5, some (.blk 36 [.d (.str fg), .d (strsD dws), .d (.int yk), .d (.int yn), .d (.str ya), .d (.str yb), .d (strsD yvs), .d (.sl (yxs.map Tm.row)), .d (.sl (ycs.map Cs.row))]))]⟩)
      (μ := fun u => dws.length - u.1.1) ⟨(0, m1), ⟨Nat.zero_le _, ⟨by rw [List.drop_zero], by rw [List.drop_zero]; exact Nat.le_refl _⟩⟩⟩ (Le.sub (by simp) (by simp)) (fun ⟨(j, v), ⟨hi7, hw⟩⟩ => ?_)
    dsimp only at hi7 hw ⊢
    refine AWp.rg [] [] ?_ (hr := by conv => lhs; simp [Fn.row, Tm.row, Tm.rows_eq, Cs.rows_eq, h1y])
    repeat (first | refine AWp.seq ?_ | refine AWp.block ?_)
    refine AWp.cond rfl (fun hc => ?_) (fun hc => ?_)
    · have hi1 : j < dws.length := by have := of_decide_eq_true hc; omega
      clear hc
      have h1s : dws[j]? = some dws[j] := List.getElem?_eq_getElem hi1
      have hms : dws[j] ∈ dws := List.getElem_mem hi1
      have hds : dws.drop j = dws[j] :: dws.drop (j + 1) := List.drop_eq_getElem_cons hi1
      generalize dws[j] = s at h1s hms hds
      obtain ⟨hj1, hj2⟩ := hw
      rw [hds, joinB] at hj1
      rw [hds, strW] at hj2
      refine AWp.skip ?_
      refine AWp.rg [] [] ?_ (hr := by conv => lhs; simp [Fn.row, Tm.row, Tm.rows_eq, Cs.rows_eq, h1y, h1s])
      by_cases hp : 0 < j
      · refine AWp.rg [] [] ?_ (hr := by conv => lhs; simp [Fn.row, Tm.row, Tm.rows_eq, Cs.rows_eq, h1y, h1s, hp])
        refine AWp.cy ?_
        refine AWp.rg [] [] ?_ (hr := by conv => lhs; simp [Fn.row, Tm.row, Tm.rows_eq, Cs.rows_eq, h1y, h1s, hp])
        refine AWp.rg [] [] ?_ (hr := by conv => lhs; simp [Fn.row, Tm.row, Tm.rows_eq, Cs.rows_eq, h1y, h1s, hp])
        refine AWp.rg [] [] ?_ (hr := by conv => lhs; simp [Fn.row, Tm.row, Tm.rows_eq, Cs.rows_eq, h1y, h1s, hp])
        refine ⟨⟨(j + 1, (v ++ ⟨#[32]⟩) ++ s), hi1, ⟨by rw [hj1, if_pos (by omega)], by dsimp only; try simp only [ByteArray.size_append, zl0, zl1, zl2, zl3, zl4, zl5, zl6, zl7, zl8, zl9, zl10, zl11, zl12, zl13, zl14, zl15, zl16, zl17, zl18]; omega⟩⟩, by simp; omega, ?_⟩
        dsimp only
        exact Le.sub (by simp) (by simp)
      refine AWp.rg [] [] ?_ (hr := by conv => lhs; simp [Fn.row, Tm.row, Tm.rows_eq, Cs.rows_eq, h1y, h1s, hp])
      refine AWp.cn ?_
      refine AWp.skip ?_
      refine AWp.rg [] [] ?_ (hr := by conv => lhs; simp [Fn.row, Tm.row, Tm.rows_eq, Cs.rows_eq, h1y, h1s, hp])
      refine AWp.rg [] [] ?_ (hr := by conv => lhs; simp [Fn.row, Tm.row, Tm.rows_eq, Cs.rows_eq, h1y, h1s, hp])
      refine ⟨⟨(j + 1, v ++ s), hi1, ⟨by rw [hj1, if_neg (by omega)], by dsimp only; try simp only [ByteArray.size_append, zl0, zl1, zl2, zl3, zl4, zl5, zl6, zl7, zl8, zl9, zl10, zl11, zl12, zl13, zl14, zl15, zl16, zl17, zl18]; omega⟩⟩, by simp; omega, ?_⟩
      dsimp only
      exact Le.sub (by simp) (by simp)
    have hi1 : j = dws.length := by have := of_decide_eq_false hc; omega
    subst hi1
    clear hc
    obtain ⟨hj1, hj2⟩ := hw
    rw [List.drop_length, joinB] at hj1
    rw [List.drop_length, strW] at hj2
    rw [hj1] at hm1
    refine AWp.exit ?_
    refine AWp.rg [] [.p (fun _ => .d (.str z)) none] ?_ (hr := by conv => lhs; simp [Fn.row, Tm.row, Tm.rows_eq, Cs.rows_eq, h1y])
    refine AWp.rg [] [] ?_ (hr := by conv => lhs; simp [Fn.row, Tm.row, Tm.rows_eq, Cs.rows_eq, h1y])
    refine ⟨⟨(i + 1, ((v ++ ⟨#[41, 32]⟩) ++ z) ++ ⟨#[41, 10]⟩), hi1, ⟨hm1, by dsimp only; try simp only [ByteArray.size_append, zl0, zl1, zl2, zl3, zl4, zl5, zl6, zl7, zl8, zl9, zl10, zl11, zl12, zl13, zl14, zl15, zl16, zl17, zl18]; omega⟩⟩, by simp; omega, ?_⟩
    dsimp only
    exact Le.sub (by simp) (by simp)
  have hi1 : i = l.length := by have := of_decide_eq_false hc; omega
  subst hi1
  clear hc
  obtain ⟨hm1, hm2⟩ := hw
  rw [List.drop_length, Fn.shL] at hm1
  rw [hm1] at hR
  refine AWp.exit ?_
  rw [hR]
  refine AWp.rg [] [] ?_ (hr := by conv => lhs; simp [Fn.row, Tm.row, Tm.rows_eq, Cs.rows_eq])
  refine AWp.ret ?_
  try dsimp only [thenQ, blockQ]
  apply endQ.ret
  · rfl
  · conv => lhs; simp [resAV, Tryd.results45]
  first | rfl | simp [resVal]

@[simp] theorem le_maxLen30y : 30 ≤ maxLen := by decide
@[simp] theorem le_maxLen37y : 37 ≤ maxLen := by decide
def fnHq : List Fn → Fn
  | f :: _ => f
  | [] => ⟨.empty, [], .mk 0 0 .empty .empty [] [] []⟩
theorem one_pt {l : List Fn} {f : Fn} (he : l = [f]) (hF : FnsOk l) (h : checkE l = 0) : f.body.Ok ∧ f.body.Rt 25 ∧ f.params.length ≤ 6 := by
  subst he
  exact right_all hF h f (List.mem_singleton.2 rfl)
def txA : ByteArray := ⟨#[40, 102, 110, 32, 102, 32, 40, 120, 32, 121, 41, 32, 40, 108, 101, 116, 32, 120, 32, 40, 43, 32, 120, 32, 121, 41, 32, 120, 41, 41]⟩
def fA : Fn := fnHq (parseP false txA).1
theorem fA_eq : (parseP false txA).1 = [fA] := by kernel_rfl
theorem fA_pt : fA.body.Ok ∧ fA.body.Rt 25 ∧ fA.params.length ≤ 6 := one_pt fA_eq (fnsOk_of (by kernel_rfl)) (by kernel_rfl)
def txB : ByteArray := ⟨#[40, 102, 110, 32, 102, 32, 40, 97, 32, 98, 41, 32, 40, 108, 101, 116, 32, 99, 32, 40, 43, 32, 97, 32, 98, 41, 32, 99, 41, 41]⟩
def fB : Fn := fnHq (parseP false txB).1
theorem fB_eq : (parseP false txB).1 = [fB] := by kernel_rfl
theorem fB_pt : fB.body.Ok ∧ fB.body.Rt 25 ∧ fB.params.length ≤ 6 := one_pt fB_eq (fnsOk_of (by kernel_rfl)) (by kernel_rfl)
def txC : ByteArray := ⟨#[40, 102, 110, 32, 102, 32, 40, 97, 32, 98, 41, 32, 40, 108, 101, 116, 32, 99, 32, 40, 43, 32, 97, 32, 98, 41, 32, 97, 41, 41]⟩
def fC : Fn := fnHq (parseP false txC).1
theorem fC_eq : (parseP false txC).1 = [fC] := by kernel_rfl
theorem fC_pt : fC.body.Ok ∧ fC.body.Rt 25 ∧ fC.params.length ≤ 6 := one_pt fC_eq (fnsOk_of (by kernel_rfl)) (by kernel_rfl)
theorem fAB : eqB fA.rn.rn fB.rn = true := by
  rw [show fA.rn.rn = fB.rn from by kernel_rfl, eqB_self]
theorem fAC : eqB fA.rn.rn fC.rn = false := eqB_ne fun h => by
  have h0 : Fn.shL [fA.rn.rn] ⟨#[]⟩ = Fn.shL [fC.rn] ⟨#[]⟩ := by rw [h]
  rw [show Fn.shL [fA.rn.rn] ⟨#[]⟩ = ⟨#[40, 102, 110, 32, 102, 32, 40, 118, 49, 32, 118, 50, 41, 32, 40, 108, 101, 116, 32, 118, 51, 32, 40, 43, 32, 118, 49, 32, 118, 50, 41, 32, 118, 51, 41, 41, 10]⟩ from by kernel_rfl, show Fn.shL [fC.rn] ⟨#[]⟩ = ⟨#[40, 102, 110, 32, 102, 32, 40, 118, 49, 32, 118, 50, 41, 32, 40, 108, 101, 116, 32, 118, 51, 32, 40, 43, 32, 118, 49, 32, 118, 50, 41, 32, 118, 49, 41, 41, 10]⟩ from by kernel_rfl] at h0
  exact absurd h0 (by decide)
theorem fA_ok : fA.rn.okB = true := by kernel_rfl
theorem fA_wt : Nat.ble (Fn.wtL [fA.rn]) 1000000 = true := by kernel_rfl
theorem fA_sh : Fn.shL [fA.rn] ⟨#[]⟩ = ⟨#[40, 102, 110, 32, 102, 32, 40, 118, 49, 32, 118, 50, 41, 32, 40, 108, 101, 116, 32, 118, 51, 32, 40, 43, 32, 118, 49, 32, 118, 50, 41, 32, 118, 51, 41, 41, 10]⟩ := by kernel_rfl
set_option maxRecDepth 20000 in
set_option maxHeartbeats 16000000 in
theorem sp_fn4 (s : ByteArray) (f : Fn) (h : (parseP false s).1 = [f]) : PSpec Tryd.prog 61 [.d (.str s)] (fun _ => fnAV f) none := by
  have hP := sp_Parse s
  generalize parseP false s = o at hP h
  obtain ⟨L, E⟩ := o
  dsimp only at hP h
  subst h
  obtain ⟨fg, fps, ⟨fk, fn, fa, fb, fvs, fxs, fcs⟩⟩ := f
  simp only [fnsAV, List.map_cons, List.map_nil, Fn.row, Tm.row, Tm.rows_eq, Cs.rows_eq, strR] at hP
  refine PSpec.of Tryd.func61 rfl rfl rfl (Nat.le_of_ble_eq_true rfl) ?_
  show AWp _ _ (endQ _ Tryd.f61 _ _ _) (startAS 13 _)
  refine AWp.rg [] [] ?_ (hr := by conv => lhs; simp [Fn.row, Tm.row, Tm.rows_eq, Cs.rows_eq])
  refine AWp.rg [] [.p (fun _ => .tuple [.d (.sl [[.str fg, strsD fps, .int fk, .int fn, .str fa, .str fb, strsD fvs, .sl (fxs.map Tm.row), .sl (fcs.map Cs.row)]]), .d (.int E)]) none] ?_ (hr := by conv => lhs; simp [Fn.row, Tm.row, Tm.rows_eq, Cs.rows_eq])
  refine AWp.rg [] [] ?_ (hr := by conv => lhs; simp [Fn.row, Tm.row, Tm.rows_eq, Cs.rows_eq])
  refine AWp.ret ?_
  try dsimp only [thenQ, blockQ]
  apply endQ.ret
  · rfl
  · conv => lhs; simp [resAV, Tryd.results61]
  first | rfl | simp [resVal]
set_option maxRecDepth 20000 in
set_option maxHeartbeats 16000000 in
theorem sp_alive4 : PSpec Tryd.prog 20 [] (fun _ => .d (.bool true)) none := by
  have ha := sp_fn4 txA fA fA_eq
  have hb := sp_fn4 txB fB fB_eq
  have hc := sp_fn4 txC fC fC_eq
  unfold txA at ha
  unfold txB at hb
  unfold txC at hc
  have pA := fA_pt
  have pB := fB_pt
  have pC := fC_pt
  have eAB := fAB
  have eAC := fAC
  have hok := fA_ok
  have hwt := Nat.le_of_ble_eq_true fA_wt
  have hsh := fA_sh
  generalize fA = a at *
  generalize fB = b at *
  generalize fC = c at *
  have h1 := sp_NFn a pA.1 pA.2.1 pA.2.2
  have pG : a.rn.body.Ok ∧ a.rn.body.Rt 25 ∧ a.rn.params.length ≤ 6 := ⟨a.rn_ok pA.1 pA.2.1, a.rn_rt pA.2.1, by rw [a.rn_plen]; exact pA.2.2⟩
  have hpr := sp_Print [a.rn] (fun f hf => by rw [List.mem_singleton.1 hf]; exact (Fn.okB_ok hok).2) (by omega)
  rw [hsh] at hpr
  have hl1 := sp_Alike a.rn b pG pB (a.rn.rn_ok pG.1 pG.2.1)
  rw [eAB] at hl1
  have hl2 := sp_Alike a.rn c pG pC (a.rn.rn_ok pG.1 pG.2.1)
  rw [eAC] at hl2
  have hall := sp_All [a.rn] (by simp) (fun f hf => by rw [List.mem_singleton.1 hf]; exact pG)
  rw [List.map_cons, List.map_nil] at hall
  clear pA pB pC eAB eAC hok hwt hsh pG
  generalize a.rn.rn = k at hall
  generalize a.rn = g at *
  obtain ⟨ag, aps, ⟨ak, an, aa, ab, avs, axs, acs⟩⟩ := a
  obtain ⟨bg, bps, ⟨bk, bn, ba, bb, bvs, bxs, bcs⟩⟩ := b
  obtain ⟨cg, cps, ⟨ck, cn, ca, cb, cvs, cxs, ccs⟩⟩ := c
  obtain ⟨gg, gps, ⟨gk, gn, ga, gb, gvs, gxs, gcs⟩⟩ := g
  obtain ⟨kg, kps, ⟨kk, kn, ka, kb, kvs, kxs, kcs⟩⟩ := k
  simp only [fnsAV, List.map_cons, List.map_nil, Fn.row, Tm.row, Tm.rows_eq, Cs.rows_eq, strR] at hpr hall
  try dsimp only [fnAV, tmAV] at ha
  try dsimp only [fnAV, tmAV] at hb
  try dsimp only [fnAV, tmAV] at hc
  try dsimp only [fnAV, tmAV] at h1
  try dsimp only [fnAV, tmAV] at hpr
  try dsimp only [fnAV, tmAV] at hl1
  try dsimp only [fnAV, tmAV] at hl2
  try dsimp only [fnAV, tmAV] at hall
  refine PSpec.of Tryd.func20 rfl rfl rfl (Nat.le_of_ble_eq_true rfl) ?_
  show AWp _ _ (endQ _ Tryd.f20 _ _ _) (startAS 26 _)
  refine AWp.rg [] [] ?_ (hr := by conv => lhs; simp [Fn.row, Tm.row, Tm.rows_eq, Cs.rows_eq])
  refine AWp.rg [] [.p (fun _ => .agg [.d (.str ag), .d (strsD aps), .d (.int ak), .d (.int an), .d (.str aa), .d (.str ab), .d (strsD avs), .d (.sl (axs.map Tm.row)), .d (.sl (acs.map Cs.row))]) none, .p (fun _ => .agg [.d (.str gg), .d (strsD gps), .d (.int gk), .d (.int gn), .d (.str ga), .d (.str gb), .d (strsD gvs), .d (.sl (gxs.map Tm.row)), .d (.sl (gcs.map Cs.row))]) none] ?_ (hr := by conv => lhs; simp [Fn.row, Tm.row, Tm.rows_eq, Cs.rows_eq])
  refine AWp.dw [1, 17] [.p (fun _ => .d (.str (⟨#[40, 102, 110, 32, 102, 32, 40, 118, 49, 32, 118, 50, 41, 32, 40, 108, 101, 116, 32, 118, 51, 32, 40, 43, 32, 118, 49, 32, 118, 50, 41, 32, 118, 51, 41, 41, 10]⟩))) none, .p (fun _ => .agg [.d (.str bg), .d (strsD bps), .d (.int bk), .d (.int bn), .d (.str ba), .d (.str bb), .d (strsD bvs), .d (.sl (bxs.map Tm.row)), .d (.sl (bcs.map Cs.row))]) none, .p (fun _ => .d (.bool true)) none, .p (fun _ => .agg [.d (.str cg), .d (strsD cps), .d (.int ck), .d (.int cn), .d (.str ca), .d (.str cb), .d (strsD cvs), .d (.sl (cxs.map Tm.row)), .d (.sl (ccs.map Cs.row))]) none, .p (fun _ => .d (.bool false)) none, .p (fun _ => .d (.sl [[.str kg, strsD kps, .int kk, .int kn, .str ka, .str kb, strsD kvs, .sl (kxs.map Tm.row), .sl (kcs.map Cs.row)]])) none] mixed ?_ (hr := by conv => lhs; simp [Fn.row, Tm.row, Tm.rows_eq, Cs.rows_eq])
  refine AWp.ret ?_
  try dsimp only [thenQ, blockQ]
  apply endQ.ret
  · rfl
  · conv => lhs; simp [resAV, Tryd.results20]
  rfl
end Go.Proofs.YtapiiklnnkkdlaaDoor
