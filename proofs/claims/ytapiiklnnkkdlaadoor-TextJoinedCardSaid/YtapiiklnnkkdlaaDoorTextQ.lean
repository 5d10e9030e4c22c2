import Derived.Test.YtapiiklnnkkdlaaDoorNumA
/- xcref1's P: blank, bad, Peek, Next, want, name, tag. Printed by a small program. -/
namespace Go.Proofs.YtapiiklnnkkdlaaDoor
open Go.RowKit
attribute [local simp] runD mkRc ldOf stOf stOk ldArg noAny dstOk guardOk opEff opEff0 effOp pureOp callOp zEff evA constAV scalAV Value.oneCell' frGet memGet startAS frOf isGoCall idIn AS.after nextR opnIds objIds AV.ids idsL AObj.ids frNo memNo opnAny isAny mkVal rdCells wrCells fldAddr idxAddr srcRows litRows toD1 toDs setAt sliceAV optI partAV bldAV fillAV binAV binI AV.cells callEff calleeOf frKill memKill AV.kill AObj.kill AV.has AV.hasL Op.operands Call.operands keepF keepM viewIds cChk renOf moGet moWs moQ cEff moLike moHave AV.ren renL AObj.ren AObj.like kept startC moMem AV.frz frz1 frzL frSub memSub frzs AS.frz frFrz memFrz AObj.frz takeMap takeLen bleF Nat.ble_eq memAny objAny mapOp D.keyOk rowAV valRow extOp wrapOp phO
set_option linter.unusedVariables false
set_option linter.unusedSimpArgs false
@[simp] theorem tyE_str : tyElem Tryd.prog 9 = none := by kernel_rfl
theorem drop_of {s : ByteArray} {a : Nat} {c : UInt8} (h : s[a]? = some c) : s.data.toList.drop a = c :: s.data.toList.drop (a + 1) := by
  have h1 : s.data.toList[a]? = some c := by
    rw [Array.getElem?_toList]
    exact h
  obtain ⟨h2, h3⟩ := List.getElem?_eq_some_iff.1 h1
  rw [List.drop_eq_getElem_cons h2, h3]
theorem drop_end {s : ByteArray} {a : Nat} (h : s.size ≤ a) : s.data.toList.drop a = [] := List.drop_of_length_le (by rw [toList_size]; exact h)
theorem pkA_on {s : ByteArray} {a : Nat} {c : UInt8} (h : s[a]? = some c) (hb : isBl c = true) : pkA s (a + 1) = pkA s a := by
  unfold pkA
  rw [drop_of h, nBl, if_pos hb]; omega
theorem pkA_stop {s : ByteArray} {a : Nat} {c : UInt8} (h : s[a]? = some c) (hb : isBl c = false) : pkA s a = a := by
  unfold pkA
  rw [drop_of h, nBl, if_neg (by rw [hb]; decide)]; omega
theorem pkA_end {s : ByteArray} {a : Nat} (h : s.size ≤ a) : pkA s a = a := by
  unfold pkA
  rw [drop_end h, nBl]; omega
def pkV (s : ByteArray) (a : Nat) : Nat := a + nWd (s.data.toList.drop a)
theorem pkE_end {s : ByteArray} {a : Nat} (h : s.size ≤ a) : pkE s a = a := by
  unfold pkE
  rw [drop_end h, nPk]; omega
theorem pkE_br {s : ByteArray} {a : Nat} {c : UInt8} (h : s[a]? = some c) (hb : isBr c = true) : pkE s a = a + 1 := by
  unfold pkE
  rw [drop_of h, nPk, if_pos hb]
theorem pkE_wd {s : ByteArray} {a : Nat} {c : UInt8} (h : s[a]? = some c) (hb : isBr c = false) : pkE s a = pkV s a := by
  unfold pkE pkV
  rw [drop_of h, nPk, if_neg (by rw [hb]; decide)]
theorem pkV_end {s : ByteArray} {a : Nat} (h : s.size ≤ a) : pkV s a = a := by
  unfold pkV
  rw [drop_end h, nWd]; omega
theorem pkV_on {s : ByteArray} {a : Nat} {c : UInt8} (h : s[a]? = some c) (h1 : isBl c = false) (hb : isBr c = false) : pkV s (a + 1) = pkV s a := by
  unfold pkV
  rw [drop_of h, nWd, if_neg (by rw [h1, hb]; decide)]; omega
theorem pkV_stop {s : ByteArray} {a : Nat} {c : UInt8} (h : s[a]? = some c) (hb : (isBl c || isBr c) = true) : pkV s a = a := by
  unfold pkV
  rw [drop_of h, nWd, if_pos hb]; omega
theorem isBr_of {c : UInt8} : isBr c = (decide ((c.toNat : Int) = 40) || decide ((c.toNat : Int) = 41)) := by
  unfold isBr
  rw [Bool.eq_iff_iff]
  simp only [Bool.or_eq_true, beq_iff_eq, decide_eq_true_eq]
  omega
set_option maxRecDepth 20000 in
set_option maxHeartbeats 4000000 in
theorem sp_blank (c : UInt8) : PSpec Tryd.prog 134 [.d (.num .u8 c.toNat)] (fun _ => .d (.bool (isBl c))) none := by
  have hc : isBl c = (decide ((c.toNat : Int) = 32) || (decide ((c.toNat : Int) = 9) || decide ((c.toNat : Int) = 10))) := by
    unfold isBl
    rw [Bool.eq_iff_iff]
    simp only [Bool.or_eq_true, beq_iff_eq, decide_eq_true_eq]
    omega
  have h0 : 0 ≤ (c.toNat : Int) := by omega
  have h1 : (c.toNat : Int) ≤ 255 := by have := c.toNat_lt; omega
  rw [hc]
  clear hc
  generalize (c.toNat : Int) = n at *
  by_cases q1 : n = 32
  · subst q1
    refine PSpec.of Tryd.func134 rfl rfl rfl (Nat.le_of_ble_eq_true rfl) ?_
    show AWp _ _ (endQ _ Tryd.f134 _ _ _) (startAS 13 _)
    repeat (first | refine AWp.seq ?_ | refine AWp.block ?_)
    apply AWp.reg [] []
    · conv => lhs; simp
    · trivial
    refine AWp.rg [] [] ?_
    refine AWp.ret ?_
    try dsimp only [thenQ, blockQ]
    apply endQ.ret
    · rfl
    · conv => lhs; simp [resAV, Tryd.results134]
    rfl
  by_cases q2 : n = 9
  · subst q2
    refine PSpec.of Tryd.func134 rfl rfl rfl (Nat.le_of_ble_eq_true rfl) ?_
    show AWp _ _ (endQ _ Tryd.f134 _ _ _) (startAS 13 _)
    repeat (first | refine AWp.seq ?_ | refine AWp.block ?_)
    apply AWp.reg [] []
    · conv => lhs; simp
    · trivial
    refine AWp.rg [] [] ?_
    refine AWp.ret ?_
    try dsimp only [thenQ, blockQ]
    apply endQ.ret
    · rfl
    · conv => lhs; simp [resAV, Tryd.results134]
    rfl
  by_cases q3 : n = 10
  · subst q3
    refine PSpec.of Tryd.func134 rfl rfl rfl (Nat.le_of_ble_eq_true rfl) ?_
    show AWp _ _ (endQ _ Tryd.f134 _ _ _) (startAS 13 _)
    repeat (first | refine AWp.seq ?_ | refine AWp.block ?_)
    apply AWp.reg [] []
    · conv => lhs; simp
    · trivial
    refine AWp.rg [] [] ?_
    refine AWp.ret ?_
    try dsimp only [thenQ, blockQ]
    apply endQ.ret
    · rfl
    · conv => lhs; simp [resAV, Tryd.results134]
    rfl
  rw [show (decide (n = 32) || (decide (n = 9) || decide (n = 10))) = false from by simp [q1, q2, q3]]
  refine PSpec.of Tryd.func134 rfl rfl rfl (Nat.le_of_ble_eq_true rfl) ?_
  show AWp _ _ (endQ _ Tryd.f134 _ _ _) (startAS 13 _)
  repeat (first | refine AWp.seq ?_ | refine AWp.block ?_)
  apply AWp.reg [] []
  · conv => lhs; simp
  · trivial
  refine AWp.rg [] [] ?_ (hr := by conv => lhs; simp [q1, q2, q3])
  refine AWp.ret ?_
  try dsimp only [thenQ, blockQ]
  apply endQ.ret
  · rfl
  · conv => lhs; simp [resAV, Tryd.results134]
  rfl
abbrev pO (s : ByteArray) (a e : Int) : AObj := .blk 102 [.d (.str s), .d (.int a), .d (.int e)]
set_option maxRecDepth 20000 in
set_option maxHeartbeats 16000000 in
theorem cs_bad (s : ByteArray) (a e x : Int) : CSpec Tryd.prog 136 [.ptr 1000 0, .d (.int x)] [(1000, pO s a e)] (.tuple []) [(1000, pO s a (badE e x))] := by
  unfold pO
  by_cases he : e = 0
  · subst he
    rw [show badE 0 x = x from rfl]
    refine CSpec.of Tryd.func136 rfl rfl (Nat.le_of_ble_eq_true rfl) ?_
    show AWp _ _ (endC _ Tryd.f136 _ _) (startC 13 _ _)
    refine AWp.rg [] [] ?_
    refine AWp.cy ?_
    refine AWp.rg [] [] ?_
    try dsimp only [thenQ, blockQ]
    apply endC.normal
    · rfl
    · conv => lhs; simp [resAV, Tryd.results136]
    · rfl
    · simp [moEnd, memGet]
  rw [show badE e x = e from if_neg he]
  refine CSpec.of Tryd.func136 rfl rfl (Nat.le_of_ble_eq_true rfl) ?_
  show AWp _ _ (endC _ Tryd.f136 _ _) (startC 13 _ _)
  refine AWp.rg [] [] ?_ (hr := by conv => lhs; simp [he])
  refine AWp.cn ?_
  refine AWp.skip ?_
  try dsimp only [thenQ, blockQ]
  apply endC.normal
  · rfl
  · conv => lhs; simp [resAV, Tryd.results136]
  · rfl
  · simp [moEnd, memGet]
set_option maxRecDepth 20000 in
set_option maxHeartbeats 16000000 in
theorem cs_Peek (s : ByteArray) (a : Nat) (e : Int) (ha : a ≤ s.size) (hs : s.size ≤ 1500) : CSpec Tryd.prog 90 [.ptr 1000 0] [(1000, pO s a e)] (.d (.str (pkW s a))) [(1000, pO s (pkA s a) e)] := by
  unfold pO
  obtain ⟨N, hN⟩ : ∃ N : Int, (s.size : Int) = N := ⟨_, rfl⟩
  obtain ⟨W, hW⟩ : ∃ W, W = pkW s a := ⟨_, rfl⟩
  rw [← hW]
  unfold pkW at hW
  obtain ⟨A, hA⟩ : ∃ A, A = pkA s a := ⟨_, rfl⟩
  rw [← hA] at hW ⊢
  refine CSpec.of Tryd.func90 rfl rfl (Nat.le_of_ble_eq_true rfl) ?_
  show AWp _ _ (endC _ Tryd.f90 _ _) (startC 117 _ _)
  refine AWp.rg [] [] ?_ (hr := by conv => lhs; simp [hN])
  repeat (first | refine AWp.seq ?_ | refine AWp.block ?_)
  refine AWp.loop (σ := fun u : {u : Nat // (pkA s u = pkA s a ∧ u ≤ s.size)} => ⟨117, [(0, .ptr 1000 0)], [(1000, some (.blk 102 [.d (.str s), .d (.int (u.1 : Int)), .d (.int e)]))]⟩)
    (μ := fun u => s.size - u.1) ⟨a, ⟨rfl, ha⟩⟩ (Le.sub (by simp) (by simp)) (fun ⟨j, hw⟩ => ?_)
  dsimp only
  obtain ⟨hpk, hjl⟩ := hw
  by_cases hj : (j : Int) < N
  · have hj1 : j < s.size := by omega
    have h1c : s[j]? = some s[j] := by rw [getElem?_pos]
    generalize s[j] = c at h1c
    obtain ⟨cn, hcn⟩ : ∃ n : Int, (c.toNat : Int) = n := ⟨_, rfl⟩
    have hbl := sp_blank c
    obtain ⟨q, hq⟩ : ∃ q, isBl c = q := ⟨_, rfl⟩
    rw [hq, hcn] at hbl
    cases q with
    | true =>
      refine AWp.dw [] [.p (fun _ => .d (.bool true)) none] mixed ?_ (hr := by conv => lhs; simp [hN, h1c, hcn, hj])
      refine AWp.cy ?_
      refine AWp.skip ?_
      refine AWp.rg [] [] ?_ (hr := by conv => lhs; simp [hN, h1c, hcn, hj])
      refine ⟨⟨j + 1, ⟨by rw [pkA_on h1c hq]; exact hpk, by omega⟩⟩, by dsimp only; omega, ?_⟩
      dsimp only
      exact Le.sub (by simp [hN]) (by simp [hN])
    | false =>
      refine AWp.dw [] [.p (fun _ => .d (.bool false)) none] mixed ?_ (hr := by conv => lhs; simp [hN, h1c, hcn, hj])
      refine AWp.cn ?_
      refine AWp.exit ?_
      rw [pkA_stop h1c hq] at hpk
      clear hq hbl h1c hcn hj hj1
      obtain rfl : A = j := hA.trans hpk.symm
      clear hpk
      refine AWp.rg [] [] ?_ (hr := by conv => lhs; simp [hN])
      by_cases hj : (A : Int) < N
      · have hj1 : A < s.size := by omega
        have h1d : s[A]? = some s[A] := by rw [getElem?_pos]
        generalize s[A] = d at h1d
        obtain ⟨dn, hdn⟩ : ∃ n : Int, (d.toNat : Int) = n := ⟨_, rfl⟩
        by_cases q1 : dn = 40
        · refine AWp.rg [] [] ?_ (hr := by conv => lhs; simp [hN, h1d, hdn, hj, q1])
          refine AWp.cy ?_
          have hbr : isBr d = true := by rw [isBr_of, Bool.or_eq_true, decide_eq_true_eq, decide_eq_true_eq]; omega
          rw [pkE_br h1d hbr] at hW
          rw [hW]
          refine AWp.rg [] [] ?_ (hr := by conv => lhs; simp [hN, h1d, hdn, hj, q1])
          refine AWp.ret ?_
          try dsimp only [thenQ, blockQ]
          apply endC.ret
          · rfl
          · conv => lhs; simp [resAV, Tryd.results90]
          · first | rfl | simp
          · simp [moEnd, memGet]
        by_cases q2 : dn = 41
        · refine AWp.rg [] [] ?_ (hr := by conv => lhs; simp [hN, h1d, hdn, hj, q1, q2])
          refine AWp.cy ?_
          have hbr : isBr d = true := by rw [isBr_of, Bool.or_eq_true, decide_eq_true_eq, decide_eq_true_eq]; omega
          rw [pkE_br h1d hbr] at hW
          rw [hW]
          refine AWp.rg [] [] ?_ (hr := by conv => lhs; simp [hN, h1d, hdn, hj, q1, q2])
          refine AWp.ret ?_
          try dsimp only [thenQ, blockQ]
          apply endC.ret
          · rfl
          · conv => lhs; simp [resAV, Tryd.results90]
          · first | rfl | simp
          · simp [moEnd, memGet]
        refine AWp.rg [] [] ?_ (hr := by conv => lhs; simp [hN, h1d, hdn, hj, q1, q2])
        refine AWp.cn ?_
        refine AWp.skip ?_
        repeat (first | refine AWp.seq ?_ | refine AWp.block ?_)
        refine AWp.loop (σ := fun u : {u : Nat // (pkV s u = pkV s A ∧ A ≤ u ∧ u ≤ s.size)} => ⟨117, [(0, .ptr 1000 0), (3, .d (.int (u.1 : Int)))], [(1000, some (.blk 102 [.d (.str s), .d (.int (A : Int)), .d (.int e)]))]⟩)
          (μ := fun u => s.size - u.1) ⟨A, ⟨rfl, Nat.le_refl _, hjl⟩⟩ (Le.sub (by simp) (by simp)) (fun ⟨k, hw⟩ => ?_)
        dsimp only
        obtain ⟨hpk, hk0, hkl⟩ := hw
        by_cases hj : (k : Int) < N
        · have hj1 : k < s.size := by omega
          have h1c : s[k]? = some s[k] := by rw [getElem?_pos]
          generalize s[k] = c at h1c
          obtain ⟨cn, hcn⟩ : ∃ n : Int, (c.toNat : Int) = n := ⟨_, rfl⟩
          have hbl := sp_blank c
          obtain ⟨q, hq⟩ : ∃ q, isBl c = q := ⟨_, rfl⟩
          rw [hq, hcn] at hbl
          cases q with
          | true =>
            refine AWp.rg [] [.p (fun _ => .d (.bool true)) none] ?_ (hr := by conv => lhs; simp [hN, h1d, hdn, h1c, hcn, hj, q1, q2])
            refine AWp.cn ?_
            refine AWp.exit ?_
            have hst := pkV_stop h1c (by rw [hq]; rfl)
            have hbr : isBr d = false := by rw [isBr_of, Bool.or_eq_false_iff, decide_eq_false_iff_not, decide_eq_false_iff_not]; omega
            rw [pkE_wd h1d hbr] at hW
            rw [hst] at hpk
            rw [← hpk] at hW
            rw [hW]
            refine AWp.dw [] [] mixed ?_ (hr := by conv => lhs; simp [hN, h1d, hdn, h1c, hcn, hj, q1, q2])
            refine AWp.ret ?_
            try dsimp only [thenQ, blockQ]
            apply endC.ret
            · rfl
            · conv => lhs; simp [resAV, Tryd.results90]
            · first | rfl | simp
            · simp [moEnd, memGet]
          | false =>
            by_cases q3 : cn = 40
            · have q3t := eq_true q3
              refine AWp.rg [] [.p (fun _ => .d (.bool false)) none] ?_ (hr := by conv => lhs; simp [hN, h1d, hdn, h1c, hcn, hj, q1, q2, q3t])
              refine AWp.cn ?_
              refine AWp.exit ?_
              have hst := pkV_stop h1c (by rw [Bool.or_eq_true, isBr_of, Bool.or_eq_true, decide_eq_true_eq, decide_eq_true_eq]; omega)
              have hbr : isBr d = false := by rw [isBr_of, Bool.or_eq_false_iff, decide_eq_false_iff_not, decide_eq_false_iff_not]; omega
              rw [pkE_wd h1d hbr] at hW
              rw [hst] at hpk
              rw [← hpk] at hW
              rw [hW]
              refine AWp.dw [] [] mixed ?_ (hr := by conv => lhs; simp [hN, h1d, hdn, h1c, hcn, hj, q1, q2, q3t])
              refine AWp.ret ?_
              try dsimp only [thenQ, blockQ]
              apply endC.ret
              · rfl
              · conv => lhs; simp [resAV, Tryd.results90]
              · first | rfl | simp
              · simp [moEnd, memGet]
            by_cases q4 : cn = 41
            · have q4t := eq_true q4
              refine AWp.rg [] [.p (fun _ => .d (.bool false)) none] ?_ (hr := by conv => lhs; simp [hN, h1d, hdn, h1c, hcn, hj, q1, q2, q3, q4t])
              refine AWp.cn ?_
              refine AWp.exit ?_
              have hst := pkV_stop h1c (by rw [Bool.or_eq_true, isBr_of, Bool.or_eq_true, decide_eq_true_eq, decide_eq_true_eq]; omega)
              have hbr : isBr d = false := by rw [isBr_of, Bool.or_eq_false_iff, decide_eq_false_iff_not, decide_eq_false_iff_not]; omega
              rw [pkE_wd h1d hbr] at hW
              rw [hst] at hpk
              rw [← hpk] at hW
              rw [hW]
              refine AWp.dw [] [] mixed ?_ (hr := by conv => lhs; simp [hN, h1d, hdn, h1c, hcn, hj, q1, q2, q3, q4t])
              refine AWp.ret ?_
              try dsimp only [thenQ, blockQ]
              apply endC.ret
              · rfl
              · conv => lhs; simp [resAV, Tryd.results90]
              · first | rfl | simp
              · simp [moEnd, memGet]
            refine AWp.rg [] [.p (fun _ => .d (.bool false)) none] ?_ (hr := by conv => lhs; simp [hN, h1d, hdn, h1c, hcn, hj, q1, q2, q3, q4])
            refine AWp.cy ?_
            refine AWp.skip ?_
            refine AWp.rg [] [] ?_ (hr := by conv => lhs; simp [hN, h1d, hdn, h1c, hcn, hj, q1, q2, q3, q4])
            refine ⟨⟨k + 1, ⟨by rw [pkV_on h1c hq (by rw [isBr_of, Bool.or_eq_false_iff, decide_eq_false_iff_not, decide_eq_false_iff_not]; omega)]; exact hpk, by omega, by omega⟩⟩, by dsimp only; omega, ?_⟩
            dsimp only
            exact Le.sub (by simp [hN]) (by simp [hN])
        have hj1 : s.size ≤ k := by omega
        refine AWp.rg [] [] ?_ (hr := by conv => lhs; simp [hN, h1d, hdn, hj, q1, q2])
        refine AWp.cn ?_
        refine AWp.exit ?_
        have hst := pkV_end hj1
        have hbr : isBr d = false := by rw [isBr_of, Bool.or_eq_false_iff, decide_eq_false_iff_not, decide_eq_false_iff_not]; omega
        rw [pkE_wd h1d hbr] at hW
        rw [hst] at hpk
        rw [← hpk] at hW
        rw [hW]
        refine AWp.dw [] [] mixed ?_ (hr := by conv => lhs; simp [hN, h1d, hdn, hj, q1, q2])
        refine AWp.ret ?_
        try dsimp only [thenQ, blockQ]
        apply endC.ret
        · rfl
        · conv => lhs; simp [resAV, Tryd.results90]
        · first | rfl | simp
        · simp [moEnd, memGet]
      have hj1 : s.size ≤ A := by omega
      have hA1 := hj1
      refine AWp.rg [] [] ?_ (hr := by conv => lhs; simp [hN, hj])
      refine AWp.cn ?_
      refine AWp.skip ?_
      repeat (first | refine AWp.seq ?_ | refine AWp.block ?_)
      refine AWp.loop (σ := fun u : {u : Nat // (pkV s u = pkV s A ∧ A ≤ u ∧ u ≤ s.size)} => ⟨117, [(0, .ptr 1000 0), (3, .d (.int (u.1 : Int)))], [(1000, some (.blk 102 [.d (.str s), .d (.int (A : Int)), .d (.int e)]))]⟩)
        (μ := fun u => s.size - u.1) ⟨A, ⟨rfl, Nat.le_refl _, hjl⟩⟩ (Le.sub (by simp) (by simp)) (fun ⟨k, hw⟩ => ?_)
      dsimp only
      obtain ⟨hpk, hk0, hkl⟩ := hw
      by_cases hj : (k : Int) < N
      · have hj1 : k < s.size := by omega
        have h1c : s[k]? = some s[k] := by rw [getElem?_pos]
        generalize s[k] = c at h1c
        obtain ⟨cn, hcn⟩ : ∃ n : Int, (c.toNat : Int) = n := ⟨_, rfl⟩
        have hbl := sp_blank c
        obtain ⟨q, hq⟩ : ∃ q, isBl c = q := ⟨_, rfl⟩
        rw [hq, hcn] at hbl
        cases q with
        | true =>
          refine AWp.rg [] [.p (fun _ => .d (.bool true)) none] ?_ (hr := by conv => lhs; simp [hN, h1c, hcn, hj])
          refine AWp.cn ?_
          refine AWp.exit ?_
          have hst := pkV_stop h1c (by rw [hq]; rfl)
          rw [show pkE s A = pkV s A from by rw [pkE_end hA1, pkV_end hA1]] at hW
          rw [hst] at hpk
          rw [← hpk] at hW
          rw [hW]
          refine AWp.dw [] [] mixed ?_ (hr := by conv => lhs; simp [hN, h1c, hcn, hj])
          refine AWp.ret ?_
          try dsimp only [thenQ, blockQ]
          apply endC.ret
          · rfl
          · conv => lhs; simp [resAV, Tryd.results90]
          · first | rfl | simp
          · simp [moEnd, memGet]
        | false =>
          by_cases q5 : cn = 40
          · have q5t := eq_true q5
            refine AWp.rg [] [.p (fun _ => .d (.bool false)) none] ?_ (hr := by conv => lhs; simp [hN, h1c, hcn, hj, q5t])
            refine AWp.cn ?_
            refine AWp.exit ?_
            have hst := pkV_stop h1c (by rw [Bool.or_eq_true, isBr_of, Bool.or_eq_true, decide_eq_true_eq, decide_eq_true_eq]; omega)
            rw [show pkE s A = pkV s A from by rw [pkE_end hA1, pkV_end hA1]] at hW
            rw [hst] at hpk
            rw [← hpk] at hW
            rw [hW]
            refine AWp.dw [] [] mixed ?_ (hr := by conv => lhs; simp [hN, h1c, hcn, hj, q5t])
            refine AWp.ret ?_
            try dsimp only [thenQ, blockQ]
            apply endC.ret
            · rfl
            · conv => lhs; simp [resAV, Tryd.results90]
            · first | rfl | simp
            · simp [moEnd, memGet]
          by_cases q6 : cn = 41
          · have q6t := eq_true q6
            refine AWp.rg [] [.p (fun _ => .d (.bool false)) none] ?_ (hr := by conv => lhs; simp [hN, h1c, hcn, hj, q5, q6t])
            refine AWp.cn ?_
            refine AWp.exit ?_
            have hst := pkV_stop h1c (by rw [Bool.or_eq_true, isBr_of, Bool.or_eq_true, decide_eq_true_eq, decide_eq_true_eq]; omega)
            rw [show pkE s A = pkV s A from by rw [pkE_end hA1, pkV_end hA1]] at hW
            rw [hst] at hpk
            rw [← hpk] at hW
            rw [hW]
            refine AWp.dw [] [] mixed ?_ (hr := by conv => lhs; simp [hN, h1c, hcn, hj, q5, q6t])
            refine AWp.ret ?_
            try dsimp only [thenQ, blockQ]
            apply endC.ret
            · rfl
            · conv => lhs; simp [resAV, Tryd.results90]
            · first | rfl | simp
            · simp [moEnd, memGet]
          refine AWp.rg [] [.p (fun _ => .d (.bool false)) none] ?_ (hr := by conv => lhs; simp [hN, h1c, hcn, hj, q5, q6])
          refine AWp.cy ?_
          refine AWp.skip ?_
          refine AWp.rg [] [] ?_ (hr := by conv => lhs; simp [hN, h1c, hcn, hj, q5, q6])
          refine ⟨⟨k + 1, ⟨by rw [pkV_on h1c hq (by rw [isBr_of, Bool.or_eq_false_iff, decide_eq_false_iff_not, decide_eq_false_iff_not]; omega)]; exact hpk, by omega, by omega⟩⟩, by dsimp only; omega, ?_⟩
          dsimp only
          exact Le.sub (by simp [hN]) (by simp [hN])
      have hj1 : s.size ≤ k := by omega
      refine AWp.rg [] [] ?_ (hr := by conv => lhs; simp [hN, hj])
      refine AWp.cn ?_
      refine AWp.exit ?_
      have hst := pkV_end hj1
      rw [show pkE s A = pkV s A from by rw [pkE_end hA1, pkV_end hA1]] at hW
      rw [hst] at hpk
      rw [← hpk] at hW
      rw [hW]
      refine AWp.dw [] [] mixed ?_ (hr := by conv => lhs; simp [hN, hj])
      refine AWp.ret ?_
      try dsimp only [thenQ, blockQ]
      apply endC.ret
      · rfl
      · conv => lhs; simp [resAV, Tryd.results90]
      · first | rfl | simp
      · simp [moEnd, memGet]
  have hj1 : s.size ≤ j := by omega
  refine AWp.dw [] [] mixed ?_ (hr := by conv => lhs; simp [hN, hj])
  refine AWp.cn ?_
  refine AWp.exit ?_
  rw [pkA_end hj1] at hpk
  clear hj hj1
  obtain rfl : A = j := hA.trans hpk.symm
  clear hpk
  refine AWp.rg [] [] ?_ (hr := by conv => lhs; simp [hN])
  by_cases hj : (A : Int) < N
  · have hj1 : A < s.size := by omega
    have h1d : s[A]? = some s[A] := by rw [getElem?_pos]
    generalize s[A] = d at h1d
    obtain ⟨dn, hdn⟩ : ∃ n : Int, (d.toNat : Int) = n := ⟨_, rfl⟩
    by_cases q7 : dn = 40
    · refine AWp.rg [] [] ?_ (hr := by conv => lhs; simp [hN, h1d, hdn, hj, q7])
      refine AWp.cy ?_
      have hbr : isBr d = true := by rw [isBr_of, Bool.or_eq_true, decide_eq_true_eq, decide_eq_true_eq]; omega
      rw [pkE_br h1d hbr] at hW
      rw [hW]
      refine AWp.rg [] [] ?_ (hr := by conv => lhs; simp [hN, h1d, hdn, hj, q7])
      refine AWp.ret ?_
      try dsimp only [thenQ, blockQ]
      apply endC.ret
      · rfl
      · conv => lhs; simp [resAV, Tryd.results90]
      · first | rfl | simp
      · simp [moEnd, memGet]
    by_cases q8 : dn = 41
    · refine AWp.rg [] [] ?_ (hr := by conv => lhs; simp [hN, h1d, hdn, hj, q7, q8])
      refine AWp.cy ?_
      have hbr : isBr d = true := by rw [isBr_of, Bool.or_eq_true, decide_eq_true_eq, decide_eq_true_eq]; omega
      rw [pkE_br h1d hbr] at hW
      rw [hW]
      refine AWp.rg [] [] ?_ (hr := by conv => lhs; simp [hN, h1d, hdn, hj, q7, q8])
      refine AWp.ret ?_
      try dsimp only [thenQ, blockQ]
      apply endC.ret
      · rfl
      · conv => lhs; simp [resAV, Tryd.results90]
      · first | rfl | simp
      · simp [moEnd, memGet]
    refine AWp.rg [] [] ?_ (hr := by conv => lhs; simp [hN, h1d, hdn, hj, q7, q8])
    refine AWp.cn ?_
    refine AWp.skip ?_
    repeat (first | refine AWp.seq ?_ | refine AWp.block ?_)
    refine AWp.loop (σ := fun u : {u : Nat // (pkV s u = pkV s A ∧ A ≤ u ∧ u ≤ s.size)} => ⟨117, [(0, .ptr 1000 0), (3, .d (.int (u.1 : Int)))], [(1000, some (.blk 102 [.d (.str s), .d (.int (A : Int)), .d (.int e)]))]⟩)
      (μ := fun u => s.size - u.1) ⟨A, ⟨rfl, Nat.le_refl _, hjl⟩⟩ (Le.sub (by simp) (by simp)) (fun ⟨k, hw⟩ => ?_)
    dsimp only
    obtain ⟨hpk, hk0, hkl⟩ := hw
    by_cases hj : (k : Int) < N
    · have hj1 : k < s.size := by omega
      have h1c : s[k]? = some s[k] := by rw [getElem?_pos]
      generalize s[k] = c at h1c
      obtain ⟨cn, hcn⟩ : ∃ n : Int, (c.toNat : Int) = n := ⟨_, rfl⟩
      have hbl := sp_blank c
      obtain ⟨q, hq⟩ : ∃ q, isBl c = q := ⟨_, rfl⟩
      rw [hq, hcn] at hbl
      cases q with
      | true =>
        refine AWp.rg [] [.p (fun _ => .d (.bool true)) none] ?_ (hr := by conv => lhs; simp [hN, h1d, hdn, h1c, hcn, hj, q7, q8])
        refine AWp.cn ?_
        refine AWp.exit ?_
        have hst := pkV_stop h1c (by rw [hq]; rfl)
        have hbr : isBr d = false := by rw [isBr_of, Bool.or_eq_false_iff, decide_eq_false_iff_not, decide_eq_false_iff_not]; omega
        rw [pkE_wd h1d hbr] at hW
        rw [hst] at hpk
        rw [← hpk] at hW
        rw [hW]
        refine AWp.dw [] [] mixed ?_ (hr := by conv => lhs; simp [hN, h1d, hdn, h1c, hcn, hj, q7, q8])
        refine AWp.ret ?_
        try dsimp only [thenQ, blockQ]
        apply endC.ret
        · rfl
        · conv => lhs; simp [resAV, Tryd.results90]
        · first | rfl | simp
        · simp [moEnd, memGet]
      | false =>
        by_cases q9 : cn = 40
        · have q9t := eq_true q9
          refine AWp.rg [] [.p (fun _ => .d (.bool false)) none] ?_ (hr := by conv => lhs; simp [hN, h1d, hdn, h1c, hcn, hj, q7, q8, q9t])
          refine AWp.cn ?_
          refine AWp.exit ?_
          have hst := pkV_stop h1c (by rw [Bool.or_eq_true, isBr_of, Bool.or_eq_true, decide_eq_true_eq, decide_eq_true_eq]; omega)
          have hbr : isBr d = false := by rw [isBr_of, Bool.or_eq_false_iff, decide_eq_false_iff_not, decide_eq_false_iff_not]; omega
          rw [pkE_wd h1d hbr] at hW
          rw [hst] at hpk
          rw [← hpk] at hW
          rw [hW]
          refine AWp.dw [] [] mixed ?_ (hr := by conv => lhs; simp [hN, h1d, hdn, h1c, hcn, hj, q7, q8, q9t])
          refine AWp.ret ?_
          try dsimp only [thenQ, blockQ]
          apply endC.ret
          · rfl
          · conv => lhs; simp [resAV, Tryd.results90]
          · first | rfl | simp
          · simp [moEnd, memGet]
        by_cases q10 : cn = 41
        · have q10t := eq_true q10
          refine AWp.rg [] [.p (fun _ => .d (.bool false)) none] ?_ (hr := by conv => lhs; simp [hN, h1d, hdn, h1c, hcn, hj, q7, q8, q9, q10t])
          refine AWp.cn ?_
          refine AWp.exit ?_
          have hst := pkV_stop h1c (by rw [Bool.or_eq_true, isBr_of, Bool.or_eq_true, decide_eq_true_eq, decide_eq_true_eq]; omega)
          have hbr : isBr d = false := by rw [isBr_of, Bool.or_eq_false_iff, decide_eq_false_iff_not, decide_eq_false_iff_not]; omega
          rw [pkE_wd h1d hbr] at hW
          rw [hst] at hpk
          rw [← hpk] at hW
          rw [hW]
          refine AWp.dw [] [] mixed ?_ (hr := by conv => lhs; simp [hN, h1d, hdn, h1c, hcn, hj, q7, q8, q9, q10t])
          refine AWp.ret ?_
          try dsimp only [thenQ, blockQ]
          apply endC.ret
          · rfl
          · conv => lhs; simp [resAV, Tryd.results90]
          · first | rfl | simp
          · simp [moEnd, memGet]
        refine AWp.rg [] [.p (fun _ => .d (.bool false)) none] ?_ (hr := by conv => lhs; simp [hN, h1d, hdn, h1c, hcn, hj, q7, q8, q9, q10])
        refine AWp.cy ?_
        refine AWp.skip ?_
        refine AWp.rg [] [] ?_ (hr := by conv => lhs; simp [hN, h1d, hdn, h1c, hcn, hj, q7, q8, q9, q10])
        refine ⟨⟨k + 1, ⟨by rw [pkV_on h1c hq (by rw [isBr_of, Bool.or_eq_false_iff, decide_eq_false_iff_not, decide_eq_false_iff_not]; omega)]; exact hpk, by omega, by omega⟩⟩, by dsimp only; omega, ?_⟩
        dsimp only
        exact Le.sub (by simp [hN]) (by simp [hN])
    have hj1 : s.size ≤ k := by omega
    refine AWp.rg [] [] ?_ (hr := by conv => lhs; simp [hN, h1d, hdn, hj, q7, q8])
    refine AWp.cn ?_
    refine AWp.exit ?_
    have hst := pkV_end hj1
    have hbr : isBr d = false := by rw [isBr_of, Bool.or_eq_false_iff, decide_eq_false_iff_not, decide_eq_false_iff_not]; omega
    rw [pkE_wd h1d hbr] at hW
    rw [hst] at hpk
    rw [← hpk] at hW
    rw [hW]
    refine AWp.dw [] [] mixed ?_ (hr := by conv => lhs; simp [hN, h1d, hdn, hj, q7, q8])
    refine AWp.ret ?_
    try dsimp only [thenQ, blockQ]
    apply endC.ret
    · rfl
    · conv => lhs; simp [resAV, Tryd.results90]
    · first | rfl | simp
    · simp [moEnd, memGet]
  have hj1 : s.size ≤ A := by omega
  have hA1 := hj1
  refine AWp.rg [] [] ?_ (hr := by conv => lhs; simp [hN, hj])
  refine AWp.cn ?_
  refine AWp.skip ?_
  repeat (first | refine AWp.seq ?_ | refine AWp.block ?_)
  refine AWp.loop (σ := fun u : {u : Nat // (pkV s u = pkV s A ∧ A ≤ u ∧ u ≤ s.size)} => ⟨117, [(0, .ptr 1000 0), (3, .d (.int (u.1 : Int)))], [(1000, some (.blk 102 [.d (.str s), .d (.int (A : Int)), .d (.int e)]))]⟩)
    (μ := fun u => s.size - u.1) ⟨A, ⟨rfl, Nat.le_refl _, hjl⟩⟩ (Le.sub (by simp) (by simp)) (fun ⟨k, hw⟩ => ?_)
  dsimp only
  obtain ⟨hpk, hk0, hkl⟩ := hw
  by_cases hj : (k : Int) < N
  · have hj1 : k < s.size := by omega
    have h1c : s[k]? = some s[k] := by rw [getElem?_pos]
    generalize s[k] = c at h1c
    obtain ⟨cn, hcn⟩ : ∃ n : Int, (c.toNat : Int) = n := ⟨_, rfl⟩
    have hbl := sp_blank c
    obtain ⟨q, hq⟩ : ∃ q, isBl c = q := ⟨_, rfl⟩
    rw [hq, hcn] at hbl
    cases q with
    | true =>
      refine AWp.rg [] [.p (fun _ => .d (.bool true)) none] ?_ (hr := by conv => lhs; simp [hN, h1c, hcn, hj])
      refine AWp.cn ?_
      refine AWp.exit ?_
      have hst := pkV_stop h1c (by rw [hq]; rfl)
      rw [show pkE s A = pkV s A from by rw [pkE_end hA1, pkV_end hA1]] at hW
      rw [hst] at hpk
      rw [← hpk] at hW
      rw [hW]
      refine AWp.dw [] [] mixed ?_ (hr := by conv => lhs; simp [hN, h1c, hcn, hj])
      refine AWp.ret ?_
      try dsimp only [thenQ, blockQ]
      apply endC.ret
      · rfl
      · conv => lhs; simp [resAV, Tryd.results90]
      · first | rfl | simp
      · simp [moEnd, memGet]
    | false =>
      by_cases q11 : cn = 40
      · have q11t := eq_true q11
        refine AWp.rg [] [.p (fun _ => .d (.bool false)) none] ?_ (hr := by conv => lhs; simp [hN, h1c, hcn, hj, q11t])
        refine AWp.cn ?_
        refine AWp.exit ?_
        have hst := pkV_stop h1c (by rw [Bool.or_eq_true, isBr_of, Bool.or_eq_true, decide_eq_true_eq, decide_eq_true_eq]; omega)
        rw [show pkE s A = pkV s A from by rw [pkE_end hA1, pkV_end hA1]] at hW
        rw [hst] at hpk
        rw [← hpk] at hW
        rw [hW]
        refine AWp.dw [] [] mixed ?_ (hr := by conv => lhs; simp [hN, h1c, hcn, hj, q11t])
        refine AWp.ret ?_
        try dsimp only [thenQ, blockQ]
        apply endC.ret
        · rfl
        · conv => lhs; simp [resAV, Tryd.results90]
        · first | rfl | simp
        · simp [moEnd, memGet]
      by_cases q12 : cn = 41
      · have q12t := eq_true q12
        refine AWp.rg [] [.p (fun _ => .d (.bool false)) none] ?_ (hr := by conv => lhs; simp [hN, h1c, hcn, hj, q11, q12t])
        refine AWp.cn ?_
        refine AWp.exit ?_
        have hst := pkV_stop h1c (by rw [Bool.or_eq_true, isBr_of, Bool.or_eq_true, decide_eq_true_eq, decide_eq_true_eq]; omega)
        rw [show pkE s A = pkV s A from by rw [pkE_end hA1, pkV_end hA1]] at hW
        rw [hst] at hpk
        rw [← hpk] at hW
        rw [hW]
        refine AWp.dw [] [] mixed ?_ (hr := by conv => lhs; simp [hN, h1c, hcn, hj, q11, q12t])
        refine AWp.ret ?_
        try dsimp only [thenQ, blockQ]
        apply endC.ret
        · rfl
        · conv => lhs; simp [resAV, Tryd.results90]
        · first | rfl | simp
        · simp [moEnd, memGet]
      refine AWp.rg [] [.p (fun _ => .d (.bool false)) none] ?_ (hr := by conv => lhs; simp [hN, h1c, hcn, hj, q11, q12])
      refine AWp.cy ?_
      refine AWp.skip ?_
      refine AWp.rg [] [] ?_ (hr := by conv => lhs; simp [hN, h1c, hcn, hj, q11, q12])
      refine ⟨⟨k + 1, ⟨by rw [pkV_on h1c hq (by rw [isBr_of, Bool.or_eq_false_iff, decide_eq_false_iff_not, decide_eq_false_iff_not]; omega)]; exact hpk, by omega, by omega⟩⟩, by dsimp only; omega, ?_⟩
      dsimp only
      exact Le.sub (by simp [hN]) (by simp [hN])
  have hj1 : s.size ≤ k := by omega
  refine AWp.rg [] [] ?_ (hr := by conv => lhs; simp [hN, hj])
  refine AWp.cn ?_
  refine AWp.exit ?_
  have hst := pkV_end hj1
  rw [show pkE s A = pkV s A from by rw [pkE_end hA1, pkV_end hA1]] at hW
  rw [hst] at hpk
  rw [← hpk] at hW
  rw [hW]
  refine AWp.dw [] [] mixed ?_ (hr := by conv => lhs; simp [hN, hj])
  refine AWp.ret ?_
  try dsimp only [thenQ, blockQ]
  apply endC.ret
  · rfl
  · conv => lhs; simp [resAV, Tryd.results90]
  · first | rfl | simp
  · simp [moEnd, memGet]
end Go.Proofs.YtapiiklnnkkdlaaDoor

namespace Go.Proofs.YtapiiklnnkkdlaaDoor
open Go.RowKit
set_option linter.unusedVariables false
set_option linter.unusedSimpArgs false
abbrev TS := List ByteArray × Int
def hdT : List ByteArray → ByteArray
  | [] => .empty
  | w :: _ => w
def nxT : TS → TS
  | ([], e) => ([], badE e 8)
  | (_ :: r, e) => (r, e)
def badT (x : Int) (p : TS) : TS := (p.1, badE p.2 x)
def wantT (w : ByteArray) (p : TS) : TS := if hdT p.1 = w then nxT p else badT 2 (nxT p)
def namT (p : TS) : ByteArray × TS := (hdT p.1, if nameB (hdT p.1) then nxT p else badT 7 (nxT p))
def tagT (p : TS) : Int × TS :=
  if decide (1 < (hdT p.1).size) && sharp (hdT p.1) then
    ((numP ((hdT p.1).extract 1 (hdT p.1).size)).1, if (numP ((hdT p.1).extract 1 (hdT p.1).size)).2 then nxT p else badT 2 (nxT p))
  else (0, badT 2 (nxT p))
def manyT {α : Type} (one : TS → α × TS) : Nat → TS → List α × TS
  | 0, p => ([], p)
  | n + 1, p =>
    if p.2 = 0 then
      if hdT p.1 = rbr then ([], wantT rbr p)
      else ((one p).1 :: (manyT one n (one p).2).1, (manyT one n (one p).2).2)
    else ([], wantT rbr p)
def casT (N : Nat) (one : TS → Tm × TS) (p : TS) : Cs × TS :=
  (.mk (tagT (wantT lbr p)).1 (manyT namT N (wantT lbr (tagT (wantT lbr p)).2)).1 (one (manyT namT N (wantT lbr (tagT (wantT lbr p)).2)).2).1,
    wantT rbr (one (manyT namT N (wantT lbr (tagT (wantT lbr p)).2)).2).2)
def atomT (p : TS) : Tm × TS :=
  if (numP (hdT p.1)).2 then (.mk 2 (numP (hdT p.1)).1 .empty .empty [] [] [], nxT p)
  else (.mk 1 0 (hdT p.1) .empty [] [] [], if nameB (hdT p.1) then nxT p else badT 7 (nxT p))
def formT (N : Nat) (one : TS → Tm × TS) (p : TS) : Tm × TS :=
  if sharp (hdT p.1) then
    (.mk 3 (tagT p).1 .empty .empty [] (manyT one N (tagT p).2).1 [], (manyT one N (tagT p).2).2)
  else if hdT p.1 = wLet then
    (.mk 6 0 (namT (nxT p)).1 .empty [] [(one (namT (nxT p)).2).1, (one (one (namT (nxT p)).2).2).1] [], wantT rbr (one (one (namT (nxT p)).2).2).2)
  else if hdT p.1 = wMatch then
    (.mk 7 0 .empty .empty [] [(one (nxT p)).1] (manyT (casT N one) N (one (nxT p)).2).1, (manyT (casT N one) N (one (nxT p)).2).2)
  else if 0 < primI (hdT p.1) primsL 0 0 then
    (.mk 5 (primI (hdT p.1) primsL 0 0) .empty .empty [] [(one (nxT p)).1, (one (one (nxT p)).2).1] [], wantT rbr (one (one (nxT p)).2).2)
  else
    (.mk 4 0 (namT p).1 .empty [] (manyT one N (namT p).2).1 [], (manyT one N (namT p).2).2)
def Tm.ts (N : Nat) : Nat → TS → Tm × TS
  | 0, p => (.mk 0 0 .empty .empty [] [] [], badT 9 p)
  | n + 1, p => if hdT p.1 = lbr then formT N (Tm.ts N n) (nxT p) else atomT p
def fnT (N : Nat) (p : TS) : Fn × TS :=
  (⟨(namT (wantT wFn (wantT lbr p))).1, (manyT namT N (wantT lbr (namT (wantT wFn (wantT lbr p))).2)).1, (Tm.ts N 25 (manyT namT N (wantT lbr (namT (wantT wFn (wantT lbr p))).2)).2).1⟩,
    wantT rbr (Tm.ts N 25 (manyT namT N (wantT lbr (namT (wantT wFn (wantT lbr p))).2)).2).2)
def fnsT (N : Nat) : Nat → TS → List Fn × TS
  | 0, p => ([], p)
  | n + 1, p =>
    if p.2 = 0 then
      if p.1 = [] then ([], p)
      else ((fnT N p).1 :: (fnsT N n (fnT N p).2).1, (fnsT N n (fnT N p).2).2)
    else ([], p)
def wdsF (s : ByteArray) : Nat → Nat → List ByteArray
  | 0, _ => []
  | n + 1, a => if (pkW s a).size = 0 then [] else pkW s a :: wdsF s n (pkE s (pkA s a))
def wds (s : ByteArray) (a : Nat) : List ByteArray := wdsF s (s.size + 1) a
theorem pkW_on {s : ByteArray} {a : Nat} (h : a ≤ s.size) (hw : (pkW s a).size ≠ 0) : a < pkE s (pkA s a) ∧ pkE s (pkA s a) ≤ s.size := by
  have h1 := pkA_le h
  have h2 := pkE_le h1.2
  have h3 := pkW_size h
  omega
theorem wdsF_any {s : ByteArray} : ∀ (n m a : Nat), a ≤ s.size → s.size < n + a → s.size < m + a → wdsF s n a = wdsF s m a
  | 0, m, a, h, hn, _ => by omega
  | n + 1, 0, a, h, _, hm => by omega
  | n + 1, m + 1, a, h, hn, hm => by
    rw [wdsF, wdsF]
    by_cases hw : (pkW s a).size = 0
    · rw [if_pos hw, if_pos hw]
    · rw [if_neg hw, if_neg hw]
      have h1 := pkW_on h hw
      rw [wdsF_any n m _ h1.2 (by omega) (by omega)]
theorem wds_nil {s : ByteArray} {a : Nat} (h : (pkW s a).size = 0) : wds s a = [] := by
  rw [wds, wdsF, if_pos h]
theorem wds_cons {s : ByteArray} {a : Nat} (ha : a ≤ s.size) (h : (pkW s a).size ≠ 0) : wds s a = pkW s a :: wds s (pkE s (pkA s a)) := by
  have h1 := pkW_on ha h
  rw [wds, wdsF, if_neg h, wds, wdsF_any s.size (s.size + 1) _ h1.2 (by omega) (by omega)]
theorem wds_len {s : ByteArray} : ∀ (n a : Nat), (wdsF s n a).length ≤ n
  | 0, _ => by simp [wdsF]
  | n + 1, a => by
    rw [wdsF]
    split
    · simp
    · simpa using wds_len n _
theorem bsize_zero {b : ByteArray} (h : b.size = 0) : b = .empty := by
  obtain ⟨a⟩ := b
  have : a = #[] := Array.eq_empty_of_size_eq_zero h
  subst this
  rfl
theorem hdT_wds {s : ByteArray} {a : Nat} (ha : a ≤ s.size) : hdT (wds s a) = pkW s a := by
  by_cases h : (pkW s a).size = 0
  · rw [wds_nil h, bsize_zero h]; rfl
  · rw [wds_cons ha h]; rfl
def tS (s : ByteArray) (p : PS) : TS := (wds s p.1, p.2)
theorem wds_end {s : ByteArray} {a : Nat} (ha : a ≤ s.size) (h : (pkW s a).size = 0) : wds s (pkE s (pkA s a)) = [] := by
  have h1 := pkA_le ha
  have h2 := pkE_le h1.2
  have h3 := pkW_size ha
  refine wds_nil ?_
  by_cases he : pkA s a = s.size
  · rw [show pkE s (pkA s a) = s.size by omega]
    have := pkW_size (s := s) (a := s.size) (Nat.le_refl _)
    have h4 := pkA_le (s := s) (a := s.size) (Nat.le_refl _)
    have h5 := pkE_le (s := s) (a := pkA s s.size) h4.2
    omega
  · exfalso
    have hlt : pkA s a < s.size := by omega
    have hc : s[pkA s a]? = some s[pkA s a] := by rw [getElem?_pos]
    generalize s[pkA s a] = c at hc
    have hb : isBl c = false := by
      cases hb : isBl c with
      | false => rfl
      | true =>
        exfalso
        have h6 : nBl (s.data.toList.drop (pkA s a)) = 0 := by
          unfold pkA
          have : ∀ l : List UInt8, nBl (l.drop (nBl l)) = 0 := by
            intro l
            induction l with
            | nil => rfl
            | cons c r ih =>
              rw [nBl]
              split
              · rw [List.drop_succ_cons]; exact ih
              · rename_i hc; rw [List.drop_zero, nBl, if_neg hc]
          rw [← List.drop_drop]
          exact this _
        rw [drop_of hc, nBl, if_pos hb] at h6
        omega
    have h7 : 1 ≤ nPk (s.data.toList.drop (pkA s a)) := by
      rw [drop_of hc, nPk]
      split
      · exact Nat.le_refl _
      · rename_i hbr
        rw [nWd, if_neg (by simp [hb, hbr])]
        omega
    unfold pkE at h3 h2
    omega
theorem nxT_tS {s : ByteArray} {p : PS} (h : p.1 ≤ s.size) : nxT (tS s p) = tS s (nxS s p) := by
  obtain ⟨a, e⟩ := p
  unfold tS nxS
  dsimp only at h ⊢
  by_cases hw : (pkW s a).size = 0
  · rw [wds_nil hw, if_pos hw, wds_end h hw]; rfl
  · rw [wds_cons h hw, if_neg hw]; rfl
theorem wds_pkA {s : ByteArray} {a : Nat} : wds s (pkA s a) = wds s a := by
  have h0 : pkA s (pkA s a) = pkA s a := by
    have : ∀ l : List UInt8, nBl (l.drop (nBl l)) = 0 := by
      intro l
      induction l with
      | nil => rfl
      | cons c r ih =>
        rw [nBl]
        split
        · rw [List.drop_succ_cons]; exact ih
        · rename_i hc; rw [List.drop_zero, nBl, if_neg hc]
    rw [pkA, pkA, ← List.drop_drop, this, Nat.add_zero]
  have h1 : pkW s (pkA s a) = pkW s a := by unfold pkW; rw [h0]
  unfold wds
  rw [wdsF, wdsF, h1, h0]
theorem tS_pkA {s : ByteArray} {p : PS} : tS s (pkA s p.1, p.2) = tS s p := by unfold tS; rw [wds_pkA]

def Rel {α : Type} (s : ByteArray) (ot : TS → α × TS) (op : PS → α × PS) : Prop := ∀ p : PS, p.1 ≤ s.size → ot (tS s p) = ((op p).1, tS s (op p).2)
theorem hdT_tS {s : ByteArray} {p : PS} (h : p.1 ≤ s.size) : hdT (tS s p).1 = pkW s p.1 := hdT_wds h
theorem badT_tS {s : ByteArray} {p : PS} {x : Int} : badT x (tS s p) = tS s (p.1, badE p.2 x) := rfl
theorem wantT_tS {s w : ByteArray} {p : PS} (h : p.1 ≤ s.size) : wantT w (tS s p) = tS s (wantS s w p) := by
  unfold wantT wantS
  rw [hdT_tS h, nxT_tS h, badT_tS]
  split <;> rfl
theorem namT_rel (s : ByteArray) : Rel s namT (namP s) := fun p h => by
  unfold namT namP
  rw [hdT_tS h, nxT_tS h, badT_tS]
  dsimp only
  split <;> rfl
theorem tagT_rel (s : ByteArray) : Rel s tagT (tagP true s) := fun p h => by
  unfold tagT tagP
  rw [hdT_tS h, nxT_tS h, badT_tS]
  cases h1 : decide (1 < (pkW s p.1).size) && sharp (pkW s p.1) with
  | false => simp
  | true =>
    cases h2 : (numP ((pkW s p.1).extract 1 (pkW s p.1).size)).2 with
    | false => simp
    | true => simp
theorem atomT_rel (s : ByteArray) : Rel s atomT (atomP s) := fun p h => by
  unfold atomT atomP
  rw [hdT_tS h, nxT_tS h, badT_tS]
  split
  · rfl
  · dsimp only
    split <;> rfl
theorem manyT_rel {α : Type} {s : ByteArray} {ot : TS → α × TS} {op : PS → α × PS} (hr : Rel s ot op) (ho : ∀ p : PS, p.1 ≤ s.size → Adv s p (op p).2) : ∀ n, Rel s (manyT ot n) (manyP s op n)
  | 0, p, h => rfl
  | n + 1, p, h => by
    have h1 := pkA_le h
    rw [manyT, manyP, hdT_tS h]
    by_cases he : p.2 = 0
    · rw [if_pos (show (tS s p).2 = 0 from he), if_pos he]
      by_cases hw : pkW s p.1 = rbr
      · rw [if_pos hw, if_pos hw, ← tS_pkA, wantT_tS h1.2]
      · rw [if_neg hw, if_neg hw, ← tS_pkA, hr _ h1.2]
        dsimp only
        rw [manyT_rel hr ho n _ (ho _ h1.2).sz]
    · rw [if_neg (show ¬ (tS s p).2 = 0 from he), if_neg he, wantT_tS h]
theorem casT_rel {s : ByteArray} {ot : TS → Tm × TS} {op : PS → Tm × PS} (hr : Rel s ot op) (ho : ∀ p : PS, p.1 ≤ s.size → Adv s p (op p).2) : Rel s (casT (s.size + 2) ot) (casP true s op) := fun p h => by
  have h1 := wantS_adv (w := lbr) h
  have h2 := tagP_adv (g := true) h1.sz
  have h3 := wantS_adv (w := lbr) h2.sz
  have h4 := (manyP_adv (fun p h => namP_adv h) (s.size + 2) _ h3.sz).1
  have h5 := ho _ h4.sz
  unfold casT casP
  rw [wantT_tS h, tagT_rel s _ h1.sz]
  dsimp only
  rw [wantT_tS h2.sz, manyT_rel (namT_rel s) (fun p h => namP_adv h) _ _ h3.sz]
  dsimp only
  rw [hr _ h4.sz]
  dsimp only
  rw [wantT_tS h5.sz]
theorem formT_rel {s : ByteArray} {ot : TS → Tm × TS} {op : PS → Tm × PS} (hr : Rel s ot op) (ho : ∀ p : PS, p.1 ≤ s.size → Adv s p (op p).2) {p : PS} (h : p.1 ≤ s.size) : formT (s.size + 2) ot (tS s p) = ((formP true s op (pkW s p.1) p).1, tS s (formP true s op (pkW s p.1) p).2) := by
  unfold formT formP
  rw [hdT_tS h]
  split
  · have h1 := tagP_adv (g := true) h
    rw [tagT_rel s _ h]
    dsimp only
    rw [manyT_rel hr ho _ _ h1.sz]
  split
  · have h1 := nxS_adv h
    have h2 := namP_adv h1.sz
    have h3 := ho _ h2.sz
    have h4 := ho _ h3.sz
    rw [nxT_tS h, namT_rel s _ h1.sz]
    dsimp only
    rw [hr _ h2.sz]
    dsimp only
    rw [hr _ h3.sz]
    dsimp only
    rw [wantT_tS h4.sz]
  split
  · have h1 := nxS_adv h
    have h3 := ho _ h1.sz
    rw [nxT_tS h, hr _ h1.sz]
    dsimp only
    rw [manyT_rel (casT_rel hr ho) (fun p h => casP_adv ho h) _ _ h3.sz]
  split
  · have h1 := nxS_adv h
    have h3 := ho _ h1.sz
    have h4 := ho _ h3.sz
    rw [nxT_tS h, hr _ h1.sz]
    dsimp only
    rw [hr _ h3.sz]
    dsimp only
    rw [wantT_tS h4.sz]
  · have h1 := namP_adv h
    rw [namT_rel s _ h]
    dsimp only
    rw [manyT_rel hr ho _ _ h1.sz]
theorem pkW_pkA {s : ByteArray} {a : Nat} (h : a ≤ s.size) : pkW s (pkA s a) = pkW s a := by
  rw [← hdT_wds (pkA_le h).2, wds_pkA, hdT_wds h]
theorem ts_rel (s : ByteArray) (n : Nat) : Rel s (Tm.ts (s.size + 2) n) (Tm.ps true s n) := by
  induction n with
  | zero =>
    intro p h
    rw [Tm.ts, Tm.ps, badT_tS]
  | succ n ih =>
    intro p h
    have h1 := nxS_adv h
    rw [Tm.ts, Tm.ps, hdT_tS h]
    by_cases hw : pkW s p.1 = lbr
    · rw [if_pos hw, if_pos hw, nxT_tS h, ← tS_pkA, formT_rel ih (fun p h => ps_adv n p h) (pkA_le h1.sz).2]
      dsimp only
      rw [pkW_pkA h1.sz]
    · rw [if_neg hw, if_neg hw, ← tS_pkA, atomT_rel s _ (pkA_le h).2]
theorem fnT_rel (s : ByteArray) : Rel s (fnT (s.size + 2)) (fnP true s) := fun p h => by
  have h1 := wantS_adv (w := lbr) h
  have h2 := wantS_adv (w := wFn) h1.sz
  have h3 := namP_adv h2.sz
  have h4 := wantS_adv (w := lbr) h3.sz
  have h5 := (manyP_adv (fun p h => namP_adv h) (s.size + 2) _ h4.sz).1
  have h6 := ps_adv (g := true) 25 _ h5.sz
  unfold fnT fnP
  rw [wantT_tS h, wantT_tS h1.sz, namT_rel s _ h2.sz]
  dsimp only
  rw [wantT_tS h3.sz, manyT_rel (namT_rel s) (fun p h => namP_adv h) _ _ h4.sz]
  dsimp only
  rw [ts_rel s 25 _ h5.sz]
  dsimp only
  rw [wantT_tS h6.sz]
theorem wds_none {s : ByteArray} {a : Nat} (h : a ≤ s.size) : wds s a = [] ↔ (pkW s a).size = 0 := by
  by_cases hw : (pkW s a).size = 0
  · rw [wds_nil hw]; exact ⟨fun _ => hw, fun _ => rfl⟩
  · rw [wds_cons h hw]; exact ⟨fun e => by simp at e, fun e => absurd e hw⟩
theorem fnsT_rel (s : ByteArray) (n : Nat) : Rel s (fnsT (s.size + 2) n) (fnsP true s n) := by
  induction n with
  | zero => intro p h; rw [fnsT, fnsP]
  | succ n ih =>
    intro p h
    have h1 := pkA_le h
    have hA := (fnP_adv (g := true) (p := (pkA s p.1, p.2)) h1.2).sz
    have hF := fnT_rel s (pkA s p.1, p.2) h1.2
    rw [tS_pkA] at hF
    have hN := wds_none h
    have hE : (tS s p).1 = wds s p.1 := rfl
    have hE2 : (tS s p).2 = p.2 := rfl
    rw [fnsT, fnsP, hE, hE2]
    by_cases he : p.2 = 0
    · rw [if_pos he, if_pos he]
      by_cases hw : (pkW s p.1).size = 0
      · rw [if_pos (hN.2 hw), if_pos hw]
        dsimp only
        rw [tS_pkA]
      · rw [if_neg (fun e => hw (hN.1 e)), if_neg hw, hF]
        have h3 := ih (fnP true s (pkA s p.1, p.2)).2 hA
        generalize fnP true s (pkA s p.1, p.2) = X at h3 ⊢
        dsimp only
        rw [h3]
    · rw [if_neg he, if_neg he]
def parseT (s : ByteArray) : List Fn × Int :=
  if 1500 < s.size then ([], 4)
  else if (fnsT (s.size + 2) (s.size + 2) (wds s 0, 0)).2.2 = 0 then ((fnsT (s.size + 2) (s.size + 2) (wds s 0, 0)).1, 0) else ([], (fnsT (s.size + 2) (s.size + 2) (wds s 0, 0)).2.2)
theorem parseT_eq (s : ByteArray) : parseT s = parseP true s := by
  unfold parseT parseP
  rw [show ((wds s 0, 0) : TS) = tS s (0, 0) from rfl, fnsT_rel s _ (0, 0) (Nat.zero_le _)]
  rfl
def Alk {α : Type} (x y : α × PS) : Prop := x.2 = y.2 ∧ (y.2.2 = 0 → x = y)
theorem Alk.rfl' {α : Type} (x : α × PS) : Alk x x := ⟨rfl, fun _ => rfl⟩
theorem tagP_alk (s : ByteArray) (p : PS) : Alk (tagP true s p) (tagP false s p) := by
  unfold tagP Alk
  split
  · exact ⟨rfl, fun _ => rfl⟩
  · exact ⟨rfl, fun h => absurd h (badE_ne (by decide))⟩
theorem manyP_alk {α : Type} {s : ByteArray} {f g : PS → α × PS} (h : ∀ p, p.1 ≤ s.size → Alk (f p) (g p)) (hg : ∀ p : PS, p.1 ≤ s.size → Adv s p (g p).2) : ∀ (n : Nat) (p : PS), p.1 ≤ s.size → Alk (manyP s f n p) (manyP s g n p)
  | 0, p, _ => Alk.rfl' _
  | n + 1, p, hp => by
    have h1 := pkA_le hp
    rw [manyP, manyP]
    split
    · split
      · exact Alk.rfl' _
      · obtain ⟨e1, e2⟩ := h (pkA s p.1, p.2) h1.2
        have h2 := (hg (pkA s p.1, p.2) h1.2).sz
        rw [e1]
        obtain ⟨e3, e4⟩ := manyP_alk h hg n (g (pkA s p.1, p.2)).2 h2
        have h3 := (manyP_adv hg n _ h2).1
        refine ⟨e3, fun h0 => ?_⟩
        dsimp only at h0 ⊢
        rw [e4 h0, e2 (Decidable.byContradiction fun hn => by rw [h3.er hn] at h0; exact hn h0)]
    · exact Alk.rfl' _
theorem Stp.z {s : ByteArray} {p q : PS} (h : Stp s p q) (h0 : q.2 = 0) : p.2 = 0 := Decidable.byContradiction fun hn => by rw [h.er hn] at h0; exact hn h0
theorem casP_alk {s : ByteArray} {f g : PS → Tm × PS} (h : ∀ p, p.1 ≤ s.size → Alk (f p) (g p)) (hg : ∀ p : PS, p.1 ≤ s.size → Adv s p (g p).2) (p : PS) (hp : p.1 ≤ s.size) : Alk (casP true s f p) (casP false s g p) := by
  have h1 := wantS_adv (w := lbr) hp
  obtain ⟨e1, e2⟩ := tagP_alk s (wantS s lbr p)
  have h2 := tagP_adv (g := false) h1.sz
  have h3 := wantS_adv (w := lbr) h2.sz
  have h4 := (manyP_adv (fun p h => namP_adv h) (s.size + 2) _ h3.sz).1
  obtain ⟨e3, e4⟩ := h _ h4.sz
  have h5 := hg _ h4.sz
  have h6 := wantS_adv (w := rbr) h5.sz
  unfold casP
  dsimp only
  rw [e1]
  refine ⟨by dsimp only; rw [e3], fun h0 => ?_⟩
  dsimp only at h0 ⊢
  have z5 := h6.toStp.z h0
  have z4 := h5.toStp.z z5
  have z2 := (h3.toStp.trans h4).z z4
  rw [e4 z5, e2 z2]
theorem formP_alk {s : ByteArray} {f g : PS → Tm × PS} (h : ∀ p, p.1 ≤ s.size → Alk (f p) (g p)) (hg : ∀ p : PS, p.1 ≤ s.size → Adv s p (g p).2) (w : ByteArray) (p : PS) (hp : p.1 ≤ s.size) : Alk (formP true s f w p) (formP false s g w p) := by
  unfold formP
  by_cases q1 : sharp w = true
  · rw [if_pos q1, if_pos q1]
    obtain ⟨e1, e2⟩ := tagP_alk s p
    have h1 := tagP_adv (g := false) hp
    obtain ⟨e3, e4⟩ := manyP_alk h hg (s.size + 2) _ h1.sz
    have h2 := (manyP_adv hg (s.size + 2) _ h1.sz).1
    dsimp only
    rw [e1]
    refine ⟨by dsimp only; rw [e3], fun h0 => ?_⟩
    dsimp only at h0 ⊢
    rw [e4 h0, e2 (h2.z h0)]
  rw [if_neg q1, if_neg q1]
  by_cases q2 : w = wLet
  · rw [if_pos q2, if_pos q2]
    have h1 := nxS_adv hp
    have h2 := namP_adv h1.sz
    obtain ⟨e1, e2⟩ := h _ h2.sz
    have h3 := hg _ h2.sz
    obtain ⟨e3, e4⟩ := h _ h3.sz
    have h4 := hg _ h3.sz
    have h5 := wantS_adv (w := rbr) h4.sz
    dsimp only
    rw [e1]
    refine ⟨by dsimp only; rw [e3], fun h0 => ?_⟩
    dsimp only at h0 ⊢
    have z4 := h5.toStp.z h0
    rw [e4 z4, e2 (h4.toStp.z z4)]
  rw [if_neg q2, if_neg q2]
  by_cases q3 : w = wMatch
  · rw [if_pos q3, if_pos q3]
    have h1 := nxS_adv hp
    obtain ⟨e1, e2⟩ := h _ h1.sz
    have h3 := hg _ h1.sz
    obtain ⟨e3, e4⟩ := manyP_alk (casP_alk h hg) (fun p h => casP_adv hg h) (s.size + 2) _ h3.sz
    have h4 := (manyP_adv (fun p h => casP_adv (g := false) hg h) (s.size + 2) _ h3.sz).1
    dsimp only
    rw [e1]
    refine ⟨by dsimp only; rw [e3], fun h0 => ?_⟩
    dsimp only at h0 ⊢
    rw [e4 h0, e2 (h4.z h0)]
  rw [if_neg q3, if_neg q3]
  by_cases q4 : 0 < primI w primsL 0 0
  · rw [if_pos q4, if_pos q4]
    have h1 := nxS_adv hp
    obtain ⟨e1, e2⟩ := h _ h1.sz
    have h3 := hg _ h1.sz
    obtain ⟨e3, e4⟩ := h _ h3.sz
    have h4 := hg _ h3.sz
    have h5 := wantS_adv (w := rbr) h4.sz
    dsimp only
    rw [e1]
    refine ⟨by dsimp only; rw [e3], fun h0 => ?_⟩
    dsimp only at h0 ⊢
    have z4 := h5.toStp.z h0
    rw [e4 z4, e2 (h4.toStp.z z4)]
  rw [if_neg q4, if_neg q4]
  have h1 := namP_adv hp
  obtain ⟨e3, e4⟩ := manyP_alk h hg (s.size + 2) _ h1.sz
  dsimp only
  refine ⟨by dsimp only; rw [e3], fun h0 => ?_⟩
  dsimp only at h0 ⊢
  rw [e4 h0]
theorem ps_alk (s : ByteArray) (n : Nat) : ∀ p : PS, p.1 ≤ s.size → Alk (Tm.ps true s n p) (Tm.ps false s n p) := by
  induction n with
  | zero => intro p hp; rw [Tm.ps, Tm.ps]; exact Alk.rfl' _
  | succ n ih =>
    intro p hp
    have h1 := nxS_adv hp
    rw [Tm.ps, Tm.ps]
    by_cases hw : pkW s p.1 = lbr
    · rw [if_pos hw, if_pos hw]
      exact formP_alk ih (fun p h => ps_adv n p h) _ _ (pkA_le h1.sz).2
    · rw [if_neg hw, if_neg hw]
      exact Alk.rfl' _
theorem fnP_alk (s : ByteArray) (p : PS) (hp : p.1 ≤ s.size) : Alk (fnP true s p) (fnP false s p) := by
  have h1 := wantS_adv (w := lbr) hp
  have h2 := wantS_adv (w := wFn) h1.sz
  have h3 := namP_adv h2.sz
  have h4 := wantS_adv (w := lbr) h3.sz
  have h5 := (manyP_adv (fun p h => namP_adv h) (s.size + 2) _ h4.sz).1
  have h6 := ps_adv (g := false) 25 _ h5.sz
  obtain ⟨e1, e2⟩ := ps_alk s 25 _ h5.sz
  have h7 := wantS_adv (w := rbr) h6.sz
  unfold fnP
  dsimp only
  refine ⟨by dsimp only; rw [e1], fun h0 => ?_⟩
  dsimp only at h0 ⊢
  rw [e2 (h7.toStp.z h0)]
theorem fnsP_stp (s : ByteArray) (n : Nat) : ∀ p : PS, p.1 ≤ s.size → Stp s p (fnsP false s n p).2 := by
  induction n with
  | zero => intro p hp; rw [fnsP]; exact ⟨Nat.le_refl _, hp, fun _ => rfl⟩
  | succ n ih =>
    intro p hp
    have h1 := pkA_le hp
    have h2 := fnP_adv (g := false) (p := (pkA s p.1, p.2)) h1.2
    have h3 := ih _ h2.sz
    rw [fnsP]
    split
    · split
      · exact Stp.pk hp
      · exact ((Stp.pk hp).trans h2.toStp).trans h3
    · exact ⟨Nat.le_refl _, hp, fun _ => rfl⟩
theorem fnsP_alk (s : ByteArray) (n : Nat) : ∀ p : PS, p.1 ≤ s.size → Alk (fnsP true s n p) (fnsP false s n p) := by
  induction n with
  | zero => intro p hp; rw [fnsP, fnsP]; exact Alk.rfl' _
  | succ n ih =>
    intro p hp
    have h1 := pkA_le hp
    have h2 := fnP_adv (g := false) (p := (pkA s p.1, p.2)) h1.2
    obtain ⟨e1, e2⟩ := fnP_alk s (pkA s p.1, p.2) h1.2
    obtain ⟨e3, e4⟩ := ih _ h2.sz
    have h3 := fnsP_stp s n _ h2.sz
    rw [fnsP, fnsP]
    by_cases he : p.2 = 0
    · rw [if_pos he, if_pos he]
      by_cases hw : (pkW s p.1).size = 0
      · rw [if_pos hw, if_pos hw]; exact Alk.rfl' _
      · rw [if_neg hw, if_neg hw, e1]
        refine ⟨by dsimp only; rw [e3], fun h0 => ?_⟩
        dsimp only at h0 ⊢
        rw [e4 h0, e2 (h3.z h0)]
    · rw [if_neg he, if_neg he]; exact Alk.rfl' _
theorem parseP_g (s : ByteArray) : parseP true s = parseP false s := by
  obtain ⟨e1, e2⟩ := fnsP_alk s (s.size + 2) (0, 0) (Nat.zero_le _)
  unfold parseP
  rw [e1]
  split
  · rfl
  by_cases h0 : (fnsP false s (s.size + 2) (0, 0)).2.2 = 0
  · rw [if_pos h0, if_pos h0, e2 h0]
  · rw [if_neg h0, if_neg h0]
theorem parseT_ref (s : ByteArray) : parseT s = parseP false s := (parseT_eq s).trans (parseP_g s)
end Go.Proofs.YtapiiklnnkkdlaaDoor
