import Derived.Test.YtapiiklnnkkdlaaDoorNumA
/- xcref1's P: blank, bad, Peek, Next, want, name, tag. Printed by a small program. -/
namespace Go.Proofs.YtapiiklnnkkdlaaDoor
open Go.RowKit
attribute [local simp] runD mkRc ldOf stOf stOk ldArg noAny dstOk guardOk opEff opEff0 effOp pureOp callOp zEff evA constAV scalAV Value.oneCell' frGet memGet startAS frOf isGoCall idIn AS.after nextR opnIds objIds AV.ids idsL AObj.ids frNo memNo opnAny isAny mkVal rdCells wrCells fldAddr idxAddr srcRows litRows toD1 toDs setAt sliceAV optI partAV bldAV fillAV binAV binI AV.cells callEff calleeOf frKill memKill AV.kill AObj.kill AV.has AV.hasL Op.operands Call.operands keepF keepM viewIds cChk renOf moGet moWs moQ cEff moLike moHave AV.ren renL AObj.ren AObj.like kept startC moMem AV.frz frz1 frzL frSub memSub frzs AS.frz frFrz memFrz AObj.frz takeMap takeLen bleF Nat.ble_eq memAny objAny mapOp D.keyOk rowAV valRow extOp wrapOp phO
set_option linter.unusedVariables false
set_option linter.unusedSimpArgs false
@[simp] theorem tyE_str : tyElem Tryd.prog 9 = none := by kernel_rfl
theorem drop_of {s : ByteArray} {a : Nat} {c : UInt8} (h : s[a]? = some c) : s.data.toList.drop a = c :: s.data.toList.drop (a + 1) := by
  have h1 : s.data.toList[a]? = some c := by
    rw [Array.getElem?_toList]
    exact h
  obtain ⟨h2, h3⟩ := List.getElem?_eq_some_iff.1 h1
  rw [List.drop_eq_getElem_cons h2, h3]
theorem drop_end {s : ByteArray} {a : Nat} (h : s.size ≤ a) : s.data.toList.drop a = [] := List.drop_of_length_le (by rw [toList_size]; exact h)
theorem pkA_on {s : ByteArray} {a : Nat} {c : UInt8} (h : s[a]? = some c) (hb : isBl c = true) : pkA s (a + 1) = pkA s a := by
  unfold pkA
  rw [drop_of h, nBl, if_pos hb]; omega
theorem pkA_stop {s : ByteArray} {a : Nat} {c : UInt8} (h : s[a]? = some c) (hb : isBl c = false) : pkA s a = a := by
  unfold pkA
  rw [drop_of h, nBl, if_neg (by rw [hb]; decide)]; omega
theorem pkA_end {s : ByteArray} {a : Nat} (h : s.size ≤ a) : pkA s a = a := by
  unfold pkA
  rw [drop_end h, nBl]; omega
def pkV (s : ByteArray) (a : Nat) : Nat := a + nWd (s.data.toList.drop a)
theorem pkE_end {s : ByteArray} {a : Nat} (h : s.size ≤ a) : pkE s a = a := by
  unfold pkE
  rw [drop_end h, nPk]; omega
theorem pkE_br {s : ByteArray} {a : Nat} {c : UInt8} (h : s[a]? = some c) (hb : isBr c = true) : pkE s a = a + 1 := by
  unfold pkE
  rw [drop_of h, nPk, if_pos hb]
theorem pkE_wd {s : ByteArray} {a : Nat} {c : UInt8} (h : s[a]? = some c) (hb : isBr c = false) : pkE s a = pkV s a := by
  unfold pkE pkV
  rw [drop_of h, nPk, if_neg (by rw [hb]; decide)]
theorem pkV_end {s : ByteArray} {a : Nat} (h : s.size ≤ a) : pkV s a = a := by
  unfold pkV
  rw [drop_end h, nWd]; omega
theorem pkV_on {s : ByteArray} {a : Nat} {c : UInt8} (h : s[a]? = some c) (h1 : isBl c = false) (hb : isBr c = false) : pkV s (a + 1) = pkV s a := by
  unfold pkV
  rw [drop_of h, nWd, if_neg (by rw [h1, hb]; decide)]; omega
theorem pkV_stop {s : ByteArray} {a : Nat} {c : UInt8} (h : s[a]? = some c) (hb : (isBl c || isBr c) = true) : pkV s a = a := by
  unfold pkV
  rw [drop_of h, nWd, if_pos hb]; omega
theorem isBr_of {c : UInt8} : isBr c = (decide ((c.toNat : Int) = 40) || decide ((c.toNat : Int) = 41)) := by
  unfold isBr
  rw [Bool.eq_iff_iff]
  simp only [Bool.or_eq_true, beq_iff_eq, decide_eq_true_eq]
  omega
set_option maxRecDepth 20000 in
set_option maxHeartbeats 4000000 in
theorem sp_blank (c : UInt8) : PSpec Tryd.prog 134 [.d (.num .u8 c.toNat)] (fun _ => .d (.bool (isBl c))) none := by
  have hc : isBl c = (decide ((c.toNat : Int) = 32) || (decide ((c.toNat : Int) = 9) || decide ((c.toNat : Int) = 10))) := by
    unfold isBl
    rw [Bool.eq_iff_iff]
    simp only [Bool.or_eq_true, beq_iff_eq, decide_eq_true_eq]
    omega
  have h0 : 0 ≤ (c.toNat : Int) := by omega
  have h1 : (c.toNat : Int) ≤ 255 := by have := c.toNat_lt; omega
  rw [hc]
  clear hc
  generalize (c.toNat : Int) = n at *
  by_cases q1 : n = 32
  · subst q1
    refine PSpec.of Tryd.func134 rfl rfl rfl (Nat.le_of_ble_eq_true rfl) ?_
    show AWp _ _ (endQ _ Tryd.f134 _ _ _) (startAS 13 _)
    repeat (first | refine AWp.seq ?_ | refine AWp.block ?_)
    apply AWp.reg [] []
    · conv => lhs; simp
    · trivial
    refine AWp.rg [] [] ?_
    refine AWp.ret ?_
    try dsimp only [thenQ, blockQ]
    apply endQ.ret
    · rfl
    · conv => lhs; simp [resAV, Tryd.results134]
    rfl
  by_cases q2 : n = 9
  · subst q2
    refine PSpec.of Tryd.func134 rfl rfl rfl (Nat.le_of_ble_eq_true rfl) ?_
    show AWp _ _ (endQ _ Tryd.f134 _ _ _) (startAS 13 _)
    repeat (first | refine AWp.seq ?_ | refine AWp.block ?_)
    apply AWp.reg [] []
    · conv => lhs; simp
    · trivial
    refine AWp.rg [] [] ?_
    refine AWp.ret ?_
    try dsimp only [thenQ, blockQ]
    apply endQ.ret
    · rfl
    · conv => lhs; simp [resAV, Tryd.results134]
    rfl
  by_cases q3 : n = 10
  · subst q3
    refine PSpec.of Tryd.func134 rfl rfl rfl (Nat.le_of_ble_eq_true rfl) ?_
    show AWp _ _ (endQ _ Tryd.f134 _ _ _) (startAS 13 _)
    repeat (first | refine AWp.seq ?_ | refine AWp.block ?_)
    apply AWp.reg [] []
    · conv => lhs; simp
    · trivial
    refine AWp.rg [] [] ?_
    refine AWp.ret ?_
    try dsimp only [thenQ, blockQ]
    apply endQ.ret
    · rfl
    · conv => lhs; simp [resAV, Tryd.results134]
    rfl
  rw [show (decide (n = 32) || (decide (n = 9) || decide (n = 10))) = false from by simp [q1, q2, q3]]
  refine PSpec.of Tryd.func134 rfl rfl rfl (Nat.le_of_ble_eq_true rfl) ?_
  show AWp _ _ (endQ _ Tryd.f134 _ _ _) (startAS 13 _)
  repeat (first | refine AWp.seq ?_ | refine AWp.block ?_)
  apply AWp.reg [] []
  · conv => lhs; simp
  · trivial
  refine AWp.rg [] [] ?_ (hr := by conv => lhs; simp [q1, q2, q3])
  refine AWp.ret ?_
  try dsimp only [thenQ, blockQ]
  apply endQ.ret
  · rfl
  · conv => lhs; simp [resAV, Tryd.results134]
  rfl
abbrev pO (s : ByteArray) (a e : Int) : AObj := .blk 102 [.d (.str s), .d (.int a), .d (.int e)]
set_option maxRecDepth 20000 in
set_option maxHeartbeats 16000000 in
theorem cs_bad (s : ByteArray) (a e x : Int) : CSpec Tryd.prog 136 [.ptr 1000 0, .d (.int x)] [(1000, pO s a e)] (.tuple []) [(1000, pO s a (badE e x))] := by
  unfold pO
  by_cases he : e = 0
  · subst he
    rw [show badE 0 x = x from rfl]
    refine CSpec.of Tryd.func136 rfl rfl (Nat.le_of_ble_eq_true rfl) ?_
    show AWp _ _ (endC _ Tryd.f136 _ _) (startC 13 _ _)
    refine AWp.rg [] [] ?_
    refine AWp.cy ?_
    refine AWp.rg [] [] ?_
    try dsimp only [thenQ, blockQ]
    apply endC.normal
    · rfl
    · conv => lhs; simp [resAV, Tryd.results136]
    · rfl
    · simp [moEnd, memGet]
  rw [show badE e x = e from if_neg he]
  refine CSpec.of Tryd.func136 rfl rfl (Nat.le_of_ble_eq_true rfl) ?_
  show AWp _ _ (endC _ Tryd.f136 _ _) (startC 13 _ _)
  refine AWp.rg [] [] ?_ (hr := by conv => lhs; simp [he])
  refine AWp.cn ?_
  refine AWp.skip ?_
  try dsimp only [thenQ, blockQ]
  apply endC.normal
  · rfl
  · conv => lhs; simp [resAV, Tryd.results136]
  · rfl
  · simp [moEnd, memGet]
set_option maxRecDepth 20000 in
set_option maxHeartbeats 16000000 in
theorem cs_Peek (s : ByteArray) (a : Nat) (e : Int) (ha : a ≤ s.size) (hs : s.size ≤ 1500) : CSpec Tryd.prog 90 [.ptr 1000 0] [(1000, pO s a e)] (.d (.str (pkW s a))) [(1000, pO s (pkA s a) e)] := by
  unfold pO
  obtain ⟨N, hN⟩ : ∃ N : Int, (s.size : Int) = N := ⟨_, rfl⟩
  obtain ⟨W, hW⟩ : ∃ W, W = pkW s a := ⟨_, rfl⟩
  rw [← hW]
  unfold pkW at hW
  obtain ⟨A, hA⟩ : ∃ A, A = pkA s a := ⟨_, rfl⟩
  rw [← hA] at hW ⊢
  refine CSpec.of Tryd.func90 rfl rfl (Nat.le_of_ble_eq_true rfl) ?_
  show AWp _ _ (endC _ Tryd.f90 _ _) (startC 117 _ _)
  refine AWp.rg [] [] ?_ (hr := by conv => lhs; simp [hN])
  repeat (first | refine AWp.seq ?_ | refine AWp.block ?_)
  refine AWp.loop (σ := fun u : {u : Nat // (pkA s u = pkA s a ∧ u ≤ s.size)} => ⟨117, [(0, .ptr 1000 0)], [(1000, some (.blk 102 [.d (.str s), .d (.int (u.1 : Int)), .d (.int e)]))]⟩)
    (μ := fun u => s.size - u.1) ⟨a, ⟨rfl, ha⟩⟩ (Le.sub (by simp) (by simp)) (fun ⟨j, hw⟩ => ?_)
  dsimp only
  obtain ⟨hpk, hjl⟩ := hw
  by_cases hj : (j : Int) < N
  · have hj1 : j < s.size := by omega
    have h1c : s[j]? = some s[j] := by rw [getElem?_pos]
    generalize s[j] = c at h1c
    obtain ⟨cn, hcn⟩ : ∃ n : Int, (c.toNat : Int) = n := ⟨_, rfl⟩
    have hbl := sp_blank c
    obtain ⟨q, hq⟩ : ∃ q, isBl c = q := ⟨_, rfl⟩
    rw [hq, hcn] at hbl
    cases q with
    | true =>
      refine AWp.dw [] [.p (fun _ => .d (.bool true)) none] mixed ?_ (hr := by conv => lhs; simp [hN, h1c, hcn, hj])
      refine AWp.cy ?_
      refine AWp.skip ?_
      refine AWp.rg [] [] ?_ (hr := by conv => lhs; simp [hN, h1c, hcn, hj])
      refine ⟨⟨j + 1, ⟨by rw [pkA_on h1c hq]; exact hpk, by omega⟩⟩, by dsimp only; omega, ?_⟩
      dsimp only
      exact Le.sub (by simp [hN]) (by simp [hN])
    | false =>
      refine AWp.dw [] [.p (fun _ => .d (.bool false)) none] mixed ?_ (hr := by conv => lhs; simp [hN, h1c, hcn, hj])
      refine AWp.cn ?_
      refine AWp.exit ?_
      rw [pkA_stop h1c hq] at hpk
      clear hq hbl h1c hcn hj hj1
      obtain rfl : A = j := hA.trans hpk.symm
      clear hpk
      refine AWp.rg [] [] ?_ (hr := by conv => lhs; simp [hN])
      by_cases hj : (A : Int) < N
      · have hj1 : A < s.size := by omega
        have h1d : s[A]? = some s[A] := by rw [getElem?_pos]
        generalize s[A] = d at h1d
        obtain ⟨dn, hdn⟩ : ∃ n : Int, (d.toNat : Int) = n := ⟨_, rfl⟩
        by_cases q1 : dn = 40
        · refine AWp.rg [] [] ?_ (hr := by conv => lhs; simp [hN, h1d, hdn, hj, q1])
          refine AWp.cy ?_
          have hbr : isBr d = true := by rw [isBr_of, Bool.or_eq_true, decide_eq_true_eq, decide_eq_true_eq]; omega
          rw [pkE_br h1d hbr] at hW
          rw [hW]
          refine AWp.rg [] [] ?_ (hr := by conv => lhs; simp [hN, h1d, hdn, hj, q1])
          refine AWp.ret ?_
          try dsimp only [thenQ, blockQ]
          apply endC.ret
          · rfl
          · conv => lhs; simp [resAV, Tryd.results90]
          · first | rfl | simp
          · simp [moEnd, memGet]
        by_cases q2 : dn = 41
        · refine AWp.rg [] [] ?_ (hr := by conv => lhs; simp [hN, h1d, hdn, hj, q1, q2])
          refine AWp.cy ?_
          have hbr : isBr d = true := by rw [isBr_of, Bool.or_eq_true, decide_eq_true_eq, decide_eq_true_eq]; omega
          rw [pkE_br h1d hbr] at hW
          rw [hW]
          refine AWp.rg [] [] ?_ (hr := by conv => lhs; simp [hN, h1d, hdn, hj, q1, q2])
          refine AWp.ret ?_
          try dsimp only [thenQ, blockQ]
          apply endC.ret
          · rfl
          · conv => lhs; simp [resAV, Tryd.results90]
          · first | rfl | simp
          · simp [moEnd, memGet]
        refine AWp.rg [] [] ?_ (hr := by conv => lhs; simp [hN, h1d, hdn, hj, q1, q2])
        refine AWp.cn ?_
        refine AWp.skip ?_
        repeat (first | refine AWp.seq ?_ | refine AWp.block ?_)
        refine AWp.loop (σ := fun u : {u : Nat // (pkV s u = pkV s A ∧ A ≤ u ∧ u ≤ s.size)} => ⟨117, [(0, .ptr 1000 0), (3, .d (.int (u.1 : Int)))], [(1000, some (.blk 102 [.d (.str s), .d (.int (A : Int)), .d (.int e)]))]⟩)
          (μ := fun u => s.size - u.1) ⟨A, ⟨rfl, Nat.le_refl _, hjl⟩⟩ (Le.sub (by simp) (by simp)) (fun ⟨k, hw⟩ => ?_)
        dsimp only
        obtain ⟨hpk, hk0, hkl⟩ := hw
        by_cases hj : (k : Int) < N
        · have hj1 : k < s.size := by omega
          have h1c : s[k]? = some s[k] := by rw [getElem?_pos]
          generalize s[k] = c at h1c
          obtain ⟨cn, hcn⟩ : ∃ n : Int, (c.toNat : Int) = n := ⟨_, rfl⟩
          have hbl := sp_blank c
          obtain ⟨q, hq⟩ : ∃ q, isBl c = q := ⟨_, rfl⟩
          rw [hq, hcn] at hbl
          cases q with
          | true =>
            refine AWp.rg [] [.p (fun _ => .d (.bool true)) none] ?_ (hr := by conv => lhs; simp [hN, h1d, hdn, h1c, hcn, hj, q1, q2])
            refine AWp.cn ?_
            refine AWp.exit ?_
            have hst := pkV_stop h1c (by rw [hq]; rfl)
            have hbr : isBr d = false := by rw [isBr_of, Bool.or_eq_false_iff, decide_eq_false_iff_not, decide_eq_false_iff_not]; omega
            rw [pkE_wd h1d hbr] at hW
            rw [hst] at hpk
            rw [← hpk] at hW
            rw [hW]
            refine AWp.dw [] [] mixed ?_ (hr := by conv => lhs; simp [hN, h1d, hdn, h1c, hcn, hj, q1, q2])
            refine AWp.ret ?_
            try dsimp only [thenQ, blockQ]
            apply endC.ret
            · rfl
            · conv => lhs; simp [resAV, Tryd.results90]
            · first | rfl | simp
            · simp [moEnd, memGet]
          | false =>
            by_cases q3 : cn = 40
            · have q3t := eq_true q3
              refine AWp.rg [] [.p (fun _ => .d (.bool false)) none] ?_ (hr := by conv => lhs; simp [hN, h1d, hdn, h1c, hcn, hj, q1, q2, q3t])
              refine AWp.cn ?_
              refine AWp.exit ?_
              have hst := pkV_stop h1c (by rw [Bool.or_eq_true, isBr_of, Bool.or_eq_true, decide_eq_true_eq, decide_eq_true_eq]; omega)
              have hbr : isBr d = false := by rw [isBr_of, Bool.or_eq_false_iff, decide_eq_false_iff_not, decide_eq_false_iff_not]; omega
              rw [pkE_wd h1d hbr] at hW
              rw [hst] at hpk
              rw [← hpk] at hW
              rw [hW]
              refine AWp.dw [] [] mixed ?_ (hr := by conv => lhs; simp [hN, h1d, hdn, h1c, hcn, hj, q1, q2, q3t])
              refine AWp.ret ?_
              try dsimp only [thenQ, blockQ]
              apply endC.ret
              · rfl
              · conv => lhs; simp [resAV, Tryd.results90]
              · first | rfl | simp
              · simp [moEnd, memGet]
            by_cases q4 : cn = 41
            · have q4t := eq_true q4
              refine AWp.rg [] [.p (fun _ => .d (.bool false)) none] ?_ (hr := by conv => lhs; simp [hN, h1d, hdn, h1c, hcn, hj, q1, q2, q3, q4t])
              refine AWp.cn ?_
              refine AWp.exit ?_
              have hst := pkV_stop h1c (by rw [Bool.or_eq_true, isBr_of, Bool.or_eq_true, decide_eq_true_eq, decide_eq_true_eq]; omega)
              have hbr : isBr d = false := by rw [isBr_of, Bool.or_eq_false_iff, decide_eq_false_iff_not, decide_eq_false_iff_not]; omega
              rw [pkE_wd h1d hbr] at hW
              rw [hst] at hpk
              rw [← hpk] at hW
              rw [hW]
              refine AWp.dw [] [] mixed ?_ (hr := by conv => lhs; simp [hN, h1d, hdn, h1c, hcn, hj, q1, q2, q3, q4t])
              refine AWp.ret ?_
              try dsimp only [thenQ, blockQ]
              apply endC.ret
              · rfl
              · conv => lhs; simp [resAV, Tryd.results90]
              · first | rfl | simp
              · simp [moEnd, memGet]
            refine AWp.rg [] [.p (fun _ => .d (.bool false)) none] ?_ (hr := by conv => lhs; simp [hN, h1d, hdn, h1c, hcn, hj, q1, q2, q3, q4])
            refine AWp.cy ?_
            refine AWp.skip ?_
            refine AWp.rg [] [] ?_ (hr := by conv => lhs; simp [hN, h1d, hdn, h1c, hcn, hj, q1, q2, q3, q4])
            refine ⟨⟨k + 1, ⟨by rw [pkV_on h1c hq (by rw [isBr_of, Bool.or_eq_false_iff, decide_eq_false_iff_not, decide_eq_false_iff_not]; omega)]; exact hpk, by omega, by omega⟩⟩, by dsimp only; omega, ?_⟩
            dsimp only
            exact Le.sub (by simp [hN]) (by simp [hN])
        have hj1 : s.size ≤ k := by omega
        refine AWp.rg [] [] ?_ (hr := by conv => lhs; simp [hN, h1d, hdn, hj, q1, q2])
        refine AWp.cn ?_
        refine AWp.exit ?_
        have hst := pkV_end hj1
        have hbr : isBr d = false := by rw [isBr_of, Bool.or_eq_false_iff, decide_eq_false_iff_not, decide_eq_false_iff_not]; omega
        rw [pkE_wd h1d hbr] at hW
        rw [hst] at hpk
        rw [← hpk] at hW
        rw [hW]
        refine AWp.dw [] [] mixed ?_ (hr := by conv => lhs; simp [hN, h1d, hdn, hj, q1, q2])
        refine AWp.ret ?_
        try dsimp only [thenQ, blockQ]
        apply endC.ret
        · rfl
        · conv => lhs; simp [resAV, Tryd.results90]
        · first | rfl | simp
        · simp [moEnd, memGet]
      have hj1 : s.size ≤ A := by omega
      have hA1 := hj1
      refine AWp.rg [] [] ?_ (hr := by conv => lhs; simp [hN, hj])
      refine AWp.cn ?_
      refine AWp.skip ?_
      repeat (first | refine AWp.seq ?_ | refine AWp.block ?_)
      refine AWp.loop (σ := fun u : {u : Nat // (pkV s u = pkV s A ∧ A ≤ u ∧ u ≤ s.size)} => ⟨117, [(0, .ptr 1000 0), (3, .d (.int (u.1 : Int)))], [(1000, some (.blk 102 [.d (.str s), .d (.int (A : Int)), .d (.int e)]))]⟩)
        (μ := fun u => s.size - u.1) ⟨A, ⟨rfl, Nat.le_refl _, hjl⟩⟩ (Le.sub (by simp) (by simp)) (fun ⟨k, hw⟩ => ?_)
      dsimp only
      obtain ⟨hpk, hk0, hkl⟩ := hw
      by_cases hj : (k : Int) < N
      · have hj1 : k < s.size := by omega
        have h1c : s[k]? = some s[k] := by rw [getElem?_pos]
        generalize s[k] = c at h1c
        obtain ⟨cn, hcn⟩ : ∃ n : Int, (c.toNat : Int) = n := ⟨_, rfl⟩
        have hbl := sp_blank c
        obtain ⟨q, hq⟩ : ∃ q, isBl c = q := ⟨_, rfl⟩
        rw [hq, hcn] at hbl
        cases q with
        | true =>
          refine AWp.rg [] [.p (fun _ => .d (.bool true)) none] ?_ (hr := by conv => lhs; simp [hN, h1c, hcn, hj])
          refine AWp.cn ?_
          refine AWp.exit ?_
          have hst := pkV_stop h1c (by rw [hq]; rfl)
          rw [show pkE s A = pkV s A from by rw [pkE_end hA1, pkV_end hA1]] at hW
          rw [hst] at hpk
          rw [← hpk] at hW
          rw [hW]
          refine AWp.dw [] [] mixed ?_ (hr := by conv => lhs; simp [hN, h1c, hcn, hj])
          refine AWp.ret ?_
          try dsimp only [thenQ, blockQ]
          apply endC.ret
          · rfl
          · conv => lhs; simp [resAV, Tryd.results90]
          · first | rfl | simp
          · simp [moEnd, memGet]
        | false =>
          by_cases q5 : cn = 40
          · have q5t := eq_true q5
            refine AWp.rg [] [.p (fun _ => .d (.bool false)) none] ?_ (hr := by conv => lhs; simp [hN, h1c, hcn, hj, q5t])
            refine AWp.cn ?_
            refine AWp.exit ?_
            have hst := pkV_stop h1c (by rw [Bool.or_eq_true, isBr_of, Bool.or_eq_true, decide_eq_true_eq, decide_eq_true_eq]; omega)
            rw [show pkE s A = pkV s A from by rw [pkE_end hA1, pkV_end hA1]] at hW
            rw [hst] at hpk
            rw [← hpk] at hW
            rw [hW]
            refine AWp.dw [] [] mixed ?_ (hr := by conv => lhs; simp [hN, h1c, hcn, hj, q5t])
            refine AWp.ret ?_
            try dsimp only [thenQ, blockQ]
            apply endC.ret
            · rfl
            · conv => lhs; simp [resAV, Tryd.results90]
            · first | rfl | simp
            · simp [moEnd, memGet]
          by_cases q6 : cn = 41
          · have q6t := eq_true q6
            refine AWp.rg [] [.p (fun _ => .d (.bool false)) none] ?_ (hr := by conv => lhs; simp [hN, h1c, hcn, hj, q5, q6t])
            refine AWp.cn ?_
            refine AWp.exit ?_
            have hst := pkV_stop h1c (by rw [Bool.or_eq_true, isBr_of, Bool.or_eq_true, decide_eq_true_eq, decide_eq_true_eq]; omega)
            rw [show pkE s A = pkV s A from by rw [pkE_end hA1, pkV_end hA1]] at hW
            rw [hst] at hpk
            rw [← hpk] at hW
            rw [hW]
            refine AWp.dw [] [] mixed ?_ (hr := by conv => lhs; simp [hN, h1c, hcn, hj, q5, q6t])
            refine AWp.ret ?_
            try dsimp only [thenQ, blockQ]
            apply endC.ret
            · rfl
            · conv => lhs; simp [resAV, Tryd.results90]
            · first | rfl | simp
            · simp [moEnd, memGet]
          refine AWp.rg [] [.p (fun _ => .d (.bool false)) none] ?_ (hr := by conv => lhs; simp [hN, h1c, hcn, hj, q5, q6])
          refine AWp.cy ?_
          refine AWp.skip ?_
          refine AWp.rg [] [] ?_ (hr := by conv => lhs; simp [hN, h1c, hcn, hj, q5, q6])
          refine ⟨⟨k + 1, ⟨by rw [pkV_on h1c hq (by rw [isBr_of, Bool.or_eq_false_iff, decide_eq_false_iff_not, decide_eq_false_iff_not]; omega)]; exact hpk, by omega, by omega⟩⟩, by dsimp only; omega, ?_⟩
          dsimp only
          exact Le.sub (by simp [hN]) (by simp [hN])
      have hj1 : s.size ≤ k := by omega
      refine AWp.rg [] [] ?_ (hr := by conv => lhs; simp [hN, hj])
      refine AWp.cn ?_
      refine AWp.exit ?_
      have hst := pkV_end hj1
      rw [show pkE s A = pkV s A from by rw [pkE_end hA1, pkV_end hA1]] at hW
      rw [hst] at hpk
      rw [← hpk] at hW
      rw [hW]
      refine AWp.dw [] [] mixed ?_ (hr := by conv => lhs; simp [hN, hj])
      refine AWp.ret ?_
      try dsimp only [thenQ, blockQ]
      apply endC.ret
      · rfl
      · conv => lhs; simp [resAV, Tryd.results90]
      · first | rfl | simp
      · simp [moEnd, memGet]
  have hj1 : s.size ≤ j := by omega
  refine AWp.dw [] [] mixed ?_ (hr := by conv => lhs; simp [hN, hj])
  refine AWp.cn ?_
  refine AWp.exit ?_
  rw [pkA_end hj1] at hpk
  clear hj hj1
  obtain rfl : A = j := hA.trans hpk.symm
  clear hpk
  refine AWp.rg [] [] ?_ (hr := by conv => lhs; simp [hN])
  by_cases hj : (A : Int) < N
  · have hj1 : A < s.size := by omega
    have h1d : s[A]? = some s[A] := by rw [getElem?_pos]
    generalize s[A] = d at h1d
    obtain ⟨dn, hdn⟩ : ∃ n : Int, (d.toNat : Int) = n := ⟨_, rfl⟩
    by_cases q7 : dn = 40
    · refine AWp.rg [] [] ?_ (hr := by conv => lhs; simp [hN, h1d, hdn, hj, q7])
      refine AWp.cy ?_
      have hbr : isBr d = true := by rw [isBr_of, Bool.or_eq_true, decide_eq_true_eq, decide_eq_true_eq]; omega
      rw [pkE_br h1d hbr] at hW
      rw [hW]
      refine AWp.rg [] [] ?_ (hr := by conv => lhs; simp [hN, h1d, hdn, hj, q7])
      refine AWp.ret ?_
      try dsimp only [thenQ, blockQ]
      apply endC.ret
      · rfl
      · conv => lhs; simp [resAV, Tryd.results90]
      · first | rfl | simp
      · simp [moEnd, memGet]
    by_cases q8 : dn = 41
    · refine AWp.rg [] [] ?_ (hr := by conv => lhs; simp [hN, h1d, hdn, hj, q7, q8])
      refine AWp.cy ?_
      have hbr : isBr d = true := by rw [isBr_of, Bool.or_eq_true, decide_eq_true_eq, decide_eq_true_eq]; omega
      rw [pkE_br h1d hbr] at hW
      rw [hW]
      refine AWp.rg [] [] ?_ (hr := by conv => lhs; simp [hN, h1d, hdn, hj, q7, q8])
      refine AWp.ret ?_
      try dsimp only [thenQ, blockQ]
      apply endC.ret
      · rfl
      · conv => lhs; simp [resAV, Tryd.results90]
      · first | rfl | simp
      · simp [moEnd, memGet]
    refine AWp.rg [] [] ?_ (hr := by conv => lhs; simp [hN, h1d, hdn, hj, q7, q8])
    refine AWp.cn ?_
    refine AWp.skip ?_
    repeat (first | refine AWp.seq ?_ | refine AWp.block ?_)
    refine AWp.loop (σ := fun u : {u : Nat // (pkV s u = pkV s A ∧ A ≤ u ∧ u ≤ s.size)} => ⟨117, [(0, .ptr 1000 0), (3, .d (.int (u.1 : Int)))], [(1000, some (.blk 102 [.d (.str s), .d (.int (A : Int)), .d (.int e)]))]⟩)
      (μ := fun u => s.size - u.1) ⟨A, ⟨rfl, Nat.le_refl _, hjl⟩⟩ (Le.sub (by simp) (by simp)) (fun ⟨k, hw⟩ => ?_)
    dsimp only
    obtain ⟨hpk, hk0, hkl⟩ := hw
    by_cases hj : (k : Int) < N
    · have hj1 : k < s.size := by omega
      have h1c : s[k]? = some s[k] := by rw [getElem?_pos]
      generalize s[k] = c at h1c
      obtain ⟨cn, hcn⟩ : ∃ n : Int, (c.toNat : Int) = n := ⟨_, rfl⟩
      have hbl := sp_blank c
      obtain ⟨q, hq⟩ : ∃ q, isBl c = q := ⟨_, rfl⟩
      rw [hq, hcn] at hbl
      cases q with
      | true =>
        refine AWp.rg [] [.p (fun _ => .d (.bool true)) none] ?_ (hr := by conv => lhs; simp [hN, h1d, hdn, h1c, hcn, hj, q7, q8])
        refine AWp.cn ?_
        refine AWp.exit ?_
        have hst := pkV_stop h1c (by rw [hq]; rfl)
        have hbr : isBr d = false := by rw [isBr_of, Bool.or_eq_false_iff, decide_eq_false_iff_not, decide_eq_false_iff_not]; omega
        rw [pkE_wd h1d hbr] at hW
        rw [hst] at hpk
        rw [← hpk] at hW
        rw [hW]
        refine AWp.dw [] [] mixed ?_ (hr := by conv => lhs; simp [hN, h1d, hdn, h1c, hcn, hj, q7, q8])
        refine AWp.ret ?_
        try dsimp only [thenQ, blockQ]
        apply endC.ret
        · rfl
        · conv => lhs; simp [resAV, Tryd.results90]
        · first | rfl | simp
        · simp [moEnd, memGet]
      | false =>
        by_cases q9 : cn = 40
        · have q9t := eq_true q9
          refine AWp.rg [] [.p (fun _ => .d (.bool false)) none] ?_ (hr := by conv => lhs; simp [hN, h1d, hdn, h1c, hcn, hj, q7, q8, q9t])
          refine AWp.cn ?_
          refine AWp.exit ?_
          have hst := pkV_stop h1c (by rw [Bool.or_eq_true, isBr_of, Bool.or_eq_true, decide_eq_true_eq, decide_eq_true_eq]; omega)
          have hbr : isBr d = false := by rw [isBr_of, Bool.or_eq_false_iff, decide_eq_false_iff_not, decide_eq_false_iff_not]; omega
          rw [pkE_wd h1d hbr] at hW
          rw [hst] at hpk
          rw [← hpk] at hW
          rw [hW]
          refine AWp.dw [] [] mixed ?_ (hr := by conv => lhs; simp [hN, h1d, hdn, h1c, hcn, hj, q7, q8, q9t])
          refine AWp.ret ?_
          try dsimp only [thenQ, blockQ]
          apply endC.ret
          · rfl
          · conv => lhs; simp [resAV, Tryd.results90]
          · first | rfl | simp
          · simp [moEnd, memGet]
        by_cases q10 : cn = 41
        · have q10t := eq_true q10
          refine AWp.rg [] [.p (fun _ => .d (.bool false)) none] ?_ (hr := by conv => lhs; simp [hN, h1d, hdn, h1c, hcn, hj, q7, q8, q9, q10t])
          refine AWp.cn ?_
          refine AWp.exit ?_
          have hst := pkV_stop h1c (by rw [Bool.or_eq_true, isBr_of, Bool.or_eq_true, decide_eq_true_eq, decide_eq_true_eq]; omega)
          have hbr : isBr d = false := by rw [isBr_of, Bool.or_eq_false_iff, decide_eq_false_iff_not, decide_eq_false_iff_not]; omega
          rw [pkE_wd h1d hbr] at hW
          rw [hst] at hpk
          rw [← hpk] at hW
          rw [hW]
          refine AWp.dw [] [] mixed ?_ (hr := by conv => lhs; simp [hN, h1d, hdn, h1c, hcn, hj, q7, q8, q9, q10t])
          refine AWp.ret ?_
          try dsimp only [thenQ, blockQ]
          apply endC.ret
          · rfl
          · conv => lhs; simp [resAV, Tryd.results90]
          · first | rfl | simp
          · simp [moEnd, memGet]
        refine AWp.rg [] [.p (fun _ => .d (.bool false)) none] ?_ (hr := by conv => lhs; simp [hN, h1d, hdn, h1c, hcn, hj, q7, q8, q9, q10])
        refine AWp.cy ?_
        refine AWp.skip ?_
        refine AWp.rg [] [] ?_ (hr := by conv => lhs; simp [hN, h1d, hdn, h1c, hcn, hj, q7, q8, q9, q10])
        refine ⟨⟨k + 1, ⟨by rw [pkV_on h1c hq (by rw [isBr_of, Bool.or_eq_false_iff, decide_eq_false_iff_not, decide_eq_false_iff_not]; omega)]; exact hpk, by omega, by omega⟩⟩, by dsimp only; omega, ?_⟩
        dsimp only
        exact Le.sub (by simp [hN]) (by simp [hN])
    have hj1 : s.size ≤ k := by omega
    refine AWp.rg [] [] ?_ (hr := by conv => lhs; simp [hN, h1d, hdn, hj, q7, q8])
    refine AWp.cn ?_
    refine AWp.exit ?_
    have hst := pkV_end hj1
    have hbr : isBr d = false := by rw [isBr_of, Bool.or_eq_false_iff, decide_eq_false_iff_not, decide_eq_false_iff_not]; omega
    rw [pkE_wd h1d hbr] at hW
    rw [hst] at hpk
    rw [← hpk] at hW
    rw [hW]
    refine AWp.dw [] [] mixed ?_ (hr := by conv => lhs; simp [hN, h1d, hdn, hj, q7, q8])
    refine AWp.ret ?_
    try dsimp only [thenQ, blockQ]
    apply endC.ret
    · rfl
    · conv => lhs; simp [resAV, Tryd.results90]
    · first | rfl | simp
    · simp [moEnd, memGet]
  have hj1 : s.size ≤ A := by omega
  have hA1 := hj1
  refine AWp.rg [] [] ?_ (hr := by conv => lhs; simp [hN, hj])
  refine AWp.cn ?_
  refine AWp.skip ?_
  repeat (first | refine AWp.seq ?_ | refine AWp.block ?_)
  refine AWp.loop (σ := fun u : {u : Nat // (pkV s u = pkV s A ∧ A ≤ u ∧ u ≤ s.size)} => ⟨117, [(0, .ptr 1000 0), (3, .d (.int (u.1 : Int)))], [(1000, some (.blk 102 [.d (.str s), .d (.int (A : Int)), .d (.int e)]))]⟩)
    (μ := fun u => s.size - u.1) ⟨A, ⟨rfl, Nat.le_refl _, hjl⟩⟩ (Le.sub (by simp) (by simp)) (fun ⟨k, hw⟩ => ?_)
  dsimp only
  obtain ⟨hpk, hk0, hkl⟩ := hw
  by_cases hj : (k : Int) < N
  · have hj1 : k < s.size := by omega
    have h1c : s[k]? = some s[k] := by rw [getElem?_pos]
    generalize s[k] = c at h1c
    obtain ⟨cn, hcn⟩ : ∃ n : Int, (c.toNat : Int) = n := ⟨_, rfl⟩
    have hbl := sp_blank c
    obtain ⟨q, hq⟩ : ∃ q, isBl c = q := ⟨_, rfl⟩
    rw [hq, hcn] at hbl
    cases q with
    | true =>
      refine AWp.rg [] [.p (fun _ => .d (.bool true)) none] ?_ (hr := by conv => lhs; simp [hN, h1c, hcn, hj])
      refine AWp.cn ?_
      refine AWp.exit ?_
      have hst := pkV_stop h1c (by rw [hq]; rfl)
      rw [show pkE s A = pkV s A from by rw [pkE_end hA1, pkV_end hA1]] at hW
      rw [hst] at hpk
      rw [← hpk] at hW
      rw [hW]
      refine AWp.dw [] [] mixed ?_ (hr := by conv => lhs; simp [hN, h1c, hcn, hj])
      refine AWp.ret ?_
      try dsimp only [thenQ, blockQ]
      apply endC.ret
      · rfl
      · conv => lhs; simp [resAV, Tryd.results90]
      · first | rfl | simp
      · simp [moEnd, memGet]
    | false =>
      by_cases q11 : cn = 40
      · have q11t := eq_true q11
        refine AWp.rg [] [.p (fun _ => .d (.bool false)) none] ?_ (hr := by conv => lhs; simp [hN, h1c, hcn, hj, q11t])
        refine AWp.cn ?_
        refine AWp.exit ?_
        have hst := pkV_stop h1c (by rw [Bool.or_eq_true, isBr_of, Bool.or_eq_true, decide_eq_true_eq, decide_eq_true_eq]; omega)
        rw [show pkE s A = pkV s A from by rw [pkE_end hA1, pkV_end hA1]] at hW
        rw [hst] at hpk
        rw [← hpk] at hW
        rw [hW]
        refine AWp.dw [] [] mixed ?_ (hr := by conv => lhs; simp [hN, h1c, hcn, hj, q11t])
        refine AWp.ret ?_
        try dsimp only [thenQ, blockQ]
        apply endC.ret
        · rfl
        · conv => lhs; simp [resAV, Tryd.results90]
        · first | rfl | simp
        · simp [moEnd, memGet]
      by_cases q12 : cn = 41
      · have q12t := eq_true q12
        refine AWp.rg [] [.p (fun _ => .d (.bool false)) none] ?_ (hr := by conv => lhs; simp [hN, h1c, hcn, hj, q11, q12t])
        refine AWp.cn ?_
        refine AWp.exit ?_
        have hst := pkV_stop h1c (by rw [Bool.or_eq_true, isBr_of, Bool.or_eq_true, decide_eq_true_eq, decide_eq_true_eq]; omega)
        rw [show pkE s A = pkV s A from by rw [pkE_end hA1, pkV_end hA1]] at hW
        rw [hst] at hpk
        rw [← hpk] at hW
        rw [hW]
        refine AWp.dw [] [] mixed ?_ (hr := by conv => lhs; simp [hN, h1c, hcn, hj, q11, q12t])
        refine AWp.ret ?_
        try dsimp only [thenQ, blockQ]
        apply endC.ret
        · rfl
        · conv => lhs; simp [resAV, Tryd.results90]
        · first | rfl | simp
        · simp [moEnd, memGet]
      refine AWp.rg [] [.p (fun _ => .d (.bool false)) none] ?_ (hr := by conv => lhs; simp [hN, h1c, hcn, hj, q11, q12])
      refine AWp.cy ?_
      refine AWp.skip ?_
      refine AWp.rg [] [] ?_ (hr := by conv => lhs; simp [hN, h1c, hcn, hj, q11, q12])
      refine ⟨⟨k + 1, ⟨by rw [pkV_on h1c hq (by rw [isBr_of, Bool.or_eq_false_iff, decide_eq_false_iff_not, decide_eq_false_iff_not]; omega)]; exact hpk, by omega, by omega⟩⟩, by dsimp only; omega, ?_⟩
      dsimp only
      exact Le.sub (by simp [hN]) (by simp [hN])
  have hj1 : s.size ≤ k := by omega
  refine AWp.rg [] [] ?_ (hr := by conv => lhs; simp [hN, hj])
  refine AWp.cn ?_
  refine AWp.exit ?_
  have hst := pkV_end hj1
  rw [show pkE s A = pkV s A from by rw [pkE_end hA1, pkV_end hA1]] at hW
  rw [hst] at hpk
  rw [← hpk] at hW
  rw [hW]
  refine AWp.dw [] [] mixed ?_ (hr := by conv => lhs; simp [hN, hj])
  refine AWp.ret ?_
  try dsimp only [thenQ, blockQ]
  apply endC.ret
  · rfl
  · conv => lhs; simp [resAV, Tryd.results90]
  · first | rfl | simp
  · simp [moEnd, memGet]

theorem size_zero {b : ByteArray} (h : b.size = 0) : b = ByteArray.empty := by
  obtain ⟨⟨l⟩⟩ := b
  rcases l with _ | ⟨x, l⟩
  · rfl
  · simp [ByteArray.size] at h
@[simp] theorem mk_size (a : Array UInt8) : (ByteArray.mk a).size = a.size := rfl
@[simp] theorem le_maxLen1 : 1 ≤ maxLen := by decide
@[simp] theorem le_maxLen2 : 2 ≤ maxLen := by decide
@[simp] theorem le_maxLen3 : 3 ≤ maxLen := by decide
@[simp] theorem le_maxLen5 : 5 ≤ maxLen := by decide
theorem sharp_of {w : ByteArray} {c : UInt8} (h : w[0]? = some c) : sharp w = decide ((c.toNat : Int) = 35) := by
  unfold sharp
  have h1 := drop_of h
  rw [List.drop_zero] at h1
  rw [h1, Bool.eq_iff_iff, beq_iff_eq, decide_eq_true_eq]
  omega
set_option maxRecDepth 20000 in
set_option maxHeartbeats 16000000 in
theorem cs_Next (s : ByteArray) (a : Nat) (e : Int) (ha : a ≤ s.size) (hs : s.size ≤ 1500) : CSpec Tryd.prog 135 [.ptr 1000 0] [(1000, pO s a e)] (.d (.str (pkW s a))) [(1000, pO s (nxS s (a, e)).1 (nxS s (a, e)).2)] := by
  have hpk := cs_Peek s a e ha hs
  have hsz := pkW_size ha
  have h1 := pkA_le ha
  have h2 := pkE_le h1.2
  unfold nxS
  dsimp only
  generalize pkW s a = W at *
  generalize pkA s a = A at *
  generalize pkE s A = E2 at *
  have hE3 : (A : Int) + (W.size : Int) = (E2 : Int) := by omega
  unfold pO at *
  refine CSpec.of Tryd.func135 rfl rfl (Nat.le_of_ble_eq_true rfl) ?_
  show AWp _ _ (endC _ Tryd.f135 _ _) (startC 21 _ _)
  refine AWp.rg [] [] ?_
  refine AWp.rg [] [.c [] [.ptr 1000 0] [(1000, .blk 102 [.d (.str s), .d (.int (a : Int)), .d (.int e)])] (.d (.str W)) [(1000, .blk 102 [.d (.str s), .d (.int (A : Int)), .d (.int e)])]] ?_
  by_cases q1 : W = ⟨#[]⟩
  · have q1t := eq_true q1
    refine AWp.rg [] [] ?_ (hr := by conv => lhs; simp [q1t])
    refine AWp.cy ?_
    have hz : W.size = 0 := by rw [q1]; rfl
    have hbd := cs_bad s A e 8
    rw [if_pos hz]
    refine AWp.rg [] [.c [] [.ptr 1000 0, .d (.int 8)] [(1000, .blk 102 [.d (.str s), .d (.int (A : Int)), .d (.int e)])] (.tuple []) [(1000, .blk 102 [.d (.str s), .d (.int (A : Int)), .d (.int (badE e 8))])]] ?_ (hr := by conv => lhs; simp [q1t])
    refine AWp.rg [] [] ?_ (hr := by conv => lhs; simp [hE3, q1t])
    refine AWp.rg [] [] ?_ (hr := by conv => lhs; simp [hE3, q1t])
    refine AWp.ret ?_
    try dsimp only [thenQ, blockQ]
    apply endC.ret
    · rfl
    · conv => lhs; simp [resAV, Tryd.results135]
    · first | rfl | simp
    · simp [moEnd, memGet]
  refine AWp.rg [] [] ?_ (hr := by conv => lhs; simp [q1])
  refine AWp.cn ?_
  refine AWp.skip ?_
  have hz : W.size ≠ 0 := fun h => q1 (size_zero h)
  rw [if_neg hz]
  refine AWp.rg [] [] ?_ (hr := by conv => lhs; simp [hE3, q1])
  refine AWp.rg [] [] ?_ (hr := by conv => lhs; simp [hE3, q1])
  refine AWp.ret ?_
  try dsimp only [thenQ, blockQ]
  apply endC.ret
  · rfl
  · conv => lhs; simp [resAV, Tryd.results135]
  · first | rfl | simp
  · simp [moEnd, memGet]
set_option maxRecDepth 20000 in
set_option maxHeartbeats 16000000 in
theorem cs_want (s w : ByteArray) (a : Nat) (e : Int) (ha : a ≤ s.size) (hs : s.size ≤ 1500) : CSpec Tryd.prog 91 [.ptr 1000 0, .d (.str w)] [(1000, pO s a e)] (.tuple []) [(1000, pO s (wantS s w (a, e)).1 (wantS s w (a, e)).2)] := by
  have hnx := cs_Next s a e ha hs
  have hadv := nxS_adv (s := s) (p := (a, e)) ha
  have hA2 := hadv.sz
  unfold wantS
  dsimp only
  generalize pkW s a = W at *
  generalize nxS s (a, e) = p2 at *
  obtain ⟨A2, e2⟩ := p2
  dsimp only at *
  unfold pO at *
  refine CSpec.of Tryd.func91 rfl rfl (Nat.le_of_ble_eq_true rfl) ?_
  show AWp _ _ (endC _ Tryd.f91 _ _) (startC 10 _ _)
  by_cases q1 : W = w
  · have q1t := eq_true q1
    refine AWp.rg [] [.c [] [.ptr 1000 0] [(1000, .blk 102 [.d (.str s), .d (.int (a : Int)), .d (.int e)])] (.d (.str W)) [(1000, .blk 102 [.d (.str s), .d (.int (A2 : Int)), .d (.int e2)])]] ?_ (hr := by conv => lhs; simp [q1t])
    refine AWp.cn ?_
    refine AWp.skip ?_
    rw [if_pos q1]
    try dsimp only [thenQ, blockQ]
    apply endC.normal
    · rfl
    · conv => lhs; simp [resAV, Tryd.results91]
    · rfl
    · simp [moEnd, memGet]
  refine AWp.rg [] [.c [] [.ptr 1000 0] [(1000, .blk 102 [.d (.str s), .d (.int (a : Int)), .d (.int e)])] (.d (.str W)) [(1000, .blk 102 [.d (.str s), .d (.int (A2 : Int)), .d (.int e2)])]] ?_ (hr := by conv => lhs; simp [q1])
  refine AWp.cy ?_
  have hbd := cs_bad s A2 e2 2
  rw [if_neg q1]
  refine AWp.rg [] [.c [] [.ptr 1000 0, .d (.int 2)] [(1000, .blk 102 [.d (.str s), .d (.int (A2 : Int)), .d (.int e2)])] (.tuple []) [(1000, .blk 102 [.d (.str s), .d (.int (A2 : Int)), .d (.int (badE e2 2))])]] ?_ (hr := by conv => lhs; simp [q1])
  try dsimp only [thenQ, blockQ]
  apply endC.normal
  · rfl
  · conv => lhs; simp [resAV, Tryd.results91]
  · rfl
  · simp [moEnd, memGet]
set_option maxRecDepth 20000 in
set_option maxHeartbeats 16000000 in
theorem cs_pname (s : ByteArray) (a : Nat) (e : Int) (ha : a ≤ s.size) (hs : s.size ≤ 1500) : CSpec Tryd.prog 92 [.ptr 1000 0] [(1000, pO s a e)] (.d (.str (namP s (a, e)).1)) [(1000, pO s (namP s (a, e)).2.1 (namP s (a, e)).2.2)] := by
  have hnx := cs_Next s a e ha hs
  have hadv := nxS_adv (s := s) (p := (a, e)) ha
  have hA2 := hadv.sz
  have hWs := pkW_size ha
  have h1 := pkA_le ha
  have h2 := pkE_le h1.2
  have hWs2 : (pkW s a).size ≤ 1500 := by omega
  clear hWs h1 h2
  unfold namP
  dsimp only
  generalize pkW s a = W at *
  generalize nxS s (a, e) = p2 at *
  obtain ⟨A2, e2⟩ := p2
  dsimp only at *
  unfold pO at *
  refine CSpec.of Tryd.func92 rfl rfl (Nat.le_of_ble_eq_true rfl) ?_
  show AWp _ _ (endC _ Tryd.f92 _ _) (startC 12 _ _)
  refine AWp.rg [] [] ?_
  refine AWp.rg [] [.c [] [.ptr 1000 0] [(1000, .blk 102 [.d (.str s), .d (.int (a : Int)), .d (.int e)])] (.d (.str W)) [(1000, .blk 102 [.d (.str s), .d (.int (A2 : Int)), .d (.int e2)])]] ?_
  have hna := sp_Name W (by omega)
  generalize nameB W = q at *
  cases q with
  | true =>
    refine AWp.rg [] [.p (fun _ => .d (.bool true)) none] ?_
    refine AWp.cn ?_
    refine AWp.skip ?_
    refine AWp.rg [] [] ?_
    refine AWp.ret ?_
    try simp only [if_true, Bool.false_eq_true, if_false]
    try dsimp only [thenQ, blockQ]
    apply endC.ret
    · rfl
    · conv => lhs; simp [resAV, Tryd.results92]
    · first | rfl | simp
    · simp [moEnd, memGet]
  | false =>
    refine AWp.rg [] [.p (fun _ => .d (.bool false)) none] ?_
    refine AWp.cy ?_
    have hbd := cs_bad s A2 e2 7
    refine AWp.rg [] [.c [] [.ptr 1000 0, .d (.int 7)] [(1000, .blk 102 [.d (.str s), .d (.int (A2 : Int)), .d (.int e2)])] (.tuple []) [(1000, .blk 102 [.d (.str s), .d (.int (A2 : Int)), .d (.int (badE e2 7))])]] ?_
    refine AWp.rg [] [] ?_
    refine AWp.ret ?_
    try simp only [if_true, Bool.false_eq_true, if_false]
    try dsimp only [thenQ, blockQ]
    apply endC.ret
    · rfl
    · conv => lhs; simp [resAV, Tryd.results92]
    · first | rfl | simp
    · simp [moEnd, memGet]
set_option maxRecDepth 20000 in
set_option maxHeartbeats 16000000 in
theorem cs_tag (s : ByteArray) (a : Nat) (e : Int) (ha : a ≤ s.size) (hs : s.size ≤ 1500) : CSpec Tryd.prog 139 [.ptr 1000 0] [(1000, pO s a e)] (.d (.int (tagP false s (a, e)).1)) [(1000, pO s (tagP false s (a, e)).2.1 (tagP false s (a, e)).2.2)] := by
  have hnx := cs_Next s a e ha hs
  have hadv := nxS_adv (s := s) (p := (a, e)) ha
  have hA2 := hadv.sz
  have hWs := pkW_size ha
  have h1 := pkA_le ha
  have h2 := pkE_le h1.2
  have hWs2 : (pkW s a).size ≤ 1500 := by omega
  clear hWs h1 h2
  rw [tagP_ref]
  dsimp only
  generalize pkW s a = W at *
  generalize nxS s (a, e) = p2 at *
  obtain ⟨A2, e2⟩ := p2
  dsimp only at *
  unfold pO at *
  refine CSpec.of Tryd.func139 rfl rfl (Nat.le_of_ble_eq_true rfl) ?_
  show AWp _ _ (endC _ Tryd.f139 _ _) (startC 26 _ _)
  refine AWp.rg [] [] ?_
  refine AWp.rg [] [.c [] [.ptr 1000 0] [(1000, .blk 102 [.d (.str s), .d (.int (a : Int)), .d (.int e)])] (.d (.str W)) [(1000, .blk 102 [.d (.str s), .d (.int (A2 : Int)), .d (.int e2)])]] ?_
  obtain ⟨M, hM⟩ : ∃ M : Int, (W.size : Int) = M := ⟨_, rfl⟩
  by_cases hl : 1 < M
  · have h1c : W[0]? = some W[0] := by rw [getElem?_pos]
    generalize W[0] = c at h1c
    rw [sharp_of h1c, show decide (1 < W.size) = true from decide_eq_true (by omega), Bool.true_and]
    obtain ⟨cn, hcn⟩ : ∃ n : Int, (c.toNat : Int) = n := ⟨_, rfl⟩
    rw [hcn]
    by_cases q1 : cn = 35
    · have q1t := eq_true q1
      refine AWp.rg [] [] ?_ (hr := by conv => lhs; simp [hM, h1c, hcn, hl, q1t])
      refine AWp.cy ?_
      rw [show decide (cn = 35) = true from decide_eq_true q1, Bool.true_and]
      have hX0 : (W.extract 1 W.size).size ≤ 1500 := by rw [ByteArray.size_extract]; omega
      have hnu := sp_Number (W.extract 1 W.size) (by omega)
      have hX : W.extract 1 M.toNat = W.extract 1 W.size := by rw [← hM, Int.toNat_natCast]
      generalize W.extract 1 W.size = X at *
      generalize numP X = nq at *
      obtain ⟨n, q⟩ := nq
      dsimp only at hnu ⊢
      refine AWp.rg [] [.p (fun _ => .tuple [.d (.int n), .d (.bool q)]) none] ?_ (hr := by conv => lhs; simp [hM, h1c, hcn, hX, hl, q1t])
      cases q with
      | true =>
        refine AWp.rg [] [] ?_ (hr := by conv => lhs; simp [hM, h1c, hcn, hX, hl, q1t])
        refine AWp.cy ?_
        refine AWp.rg [] [] ?_ (hr := by conv => lhs; simp [hM, h1c, hcn, hX, hl, q1t])
        refine AWp.ret ?_
        try simp only [if_true, Bool.false_eq_true, if_false]
        try dsimp only [thenQ, blockQ]
        apply endC.ret
        · rfl
        · conv => lhs; simp [resAV, Tryd.results139]
        · first | rfl | simp
        · simp [moEnd, memGet]
      | false =>
        refine AWp.rg [] [] ?_ (hr := by conv => lhs; simp [hM, h1c, hcn, hX, hl, q1t])
        refine AWp.cn ?_
        refine AWp.skip ?_
        have hbd := cs_bad s A2 e2 2
        refine AWp.rg [] [.c [] [.ptr 1000 0, .d (.int 2)] [(1000, .blk 102 [.d (.str s), .d (.int (A2 : Int)), .d (.int e2)])] (.tuple []) [(1000, .blk 102 [.d (.str s), .d (.int (A2 : Int)), .d (.int (badE e2 2))])]] ?_ (hr := by conv => lhs; simp [hM, h1c, hcn, hX, hl, q1t])
        refine AWp.rg [] [] ?_ (hr := by conv => lhs; simp [hM, h1c, hcn, hX, hl, q1t])
        refine AWp.ret ?_
        try simp only [if_true, Bool.false_eq_true, if_false]
        try dsimp only [thenQ, blockQ]
        apply endC.ret
        · rfl
        · conv => lhs; simp [resAV, Tryd.results139]
        · first | rfl | simp
        · simp [moEnd, memGet]
    refine AWp.rg [] [] ?_ (hr := by conv => lhs; simp [hM, h1c, hcn, hl, q1])
    refine AWp.cn ?_
    refine AWp.skip ?_
    rw [show decide (cn = 35) = false from decide_eq_false q1, Bool.false_and]
    have hbd := cs_bad s A2 e2 2
    refine AWp.rg [] [.c [] [.ptr 1000 0, .d (.int 2)] [(1000, .blk 102 [.d (.str s), .d (.int (A2 : Int)), .d (.int e2)])] (.tuple []) [(1000, .blk 102 [.d (.str s), .d (.int (A2 : Int)), .d (.int (badE e2 2))])]] ?_ (hr := by conv => lhs; simp [hM, h1c, hcn, hl, q1])
    refine AWp.rg [] [] ?_ (hr := by conv => lhs; simp [hM, h1c, hcn, hl, q1])
    refine AWp.ret ?_
    try simp only [if_true, Bool.false_eq_true, if_false]
    try dsimp only [thenQ, blockQ]
    apply endC.ret
    · rfl
    · conv => lhs; simp [resAV, Tryd.results139]
    · first | rfl | simp
    · simp [moEnd, memGet]
  rw [show decide (1 < W.size) = false from decide_eq_false (by omega), Bool.false_and, Bool.false_and]
  refine AWp.rg [] [] ?_ (hr := by conv => lhs; simp [hM, hl])
  refine AWp.cn ?_
  refine AWp.skip ?_
  have hbd := cs_bad s A2 e2 2
  refine AWp.rg [] [.c [] [.ptr 1000 0, .d (.int 2)] [(1000, .blk 102 [.d (.str s), .d (.int (A2 : Int)), .d (.int e2)])] (.tuple []) [(1000, .blk 102 [.d (.str s), .d (.int (A2 : Int)), .d (.int (badE e2 2))])]] ?_ (hr := by conv => lhs; simp [hM, hl])
  refine AWp.rg [] [] ?_ (hr := by conv => lhs; simp [hM, hl])
  refine AWp.ret ?_
  try simp only [if_true, Bool.false_eq_true, if_false]
  try dsimp only [thenQ, blockQ]
  apply endC.ret
  · rfl
  · conv => lhs; simp [resAV, Tryd.results139]
  · first | rfl | simp
  · simp [moEnd, memGet]
end Go.Proofs.YtapiiklnnkkdlaaDoor
