import Derived.Test.YtapiiklnnkkdlaaDoorTextC
/- xcref1's P: many with each of its functions. Printed by a small program. -/
namespace Go.Proofs.YtapiiklnnkkdlaaDoor
open Go.RowKit
attribute [local simp] runD mkRc ldOf stOf stOk ldArg noAny dstOk guardOk opEff opEff0 effOp pureOp callOp zEff evA constAV scalAV Value.oneCell' frGet memGet startAS frOf isGoCall idIn AS.after nextR opnIds objIds AV.ids idsL AObj.ids frNo memNo opnAny isAny mkVal rdCells wrCells fldAddr idxAddr srcRows litRows toD1 toDs setAt sliceAV optI partAV bldAV fillAV binAV binI AV.cells callEff calleeOf frKill memKill AV.kill AObj.kill AV.has AV.hasL Op.operands Call.operands keepF keepM viewIds cChk renOf moGet moWs moQ cEff moLike moHave AV.ren renL AObj.ren AObj.like kept startC moMem AV.frz frz1 frzL frSub memSub frzs AS.frz frFrz memFrz AObj.frz takeMap takeLen bleF Nat.ble_eq memAny objAny mapOp D.keyOk rowAV valRow extOp wrapOp phO
set_option linter.unusedVariables false
set_option linter.unusedSimpArgs false
theorem manyP_one {α : Type} {s : ByteArray} {one : PS → α × PS} {m c : Nat} {e : Int} {us : List α} {R : List α × PS} (he : e = 0) (hw : ¬ pkW s c = rbr) : (R = (us ++ (manyP s one (m + 1) (c, e)).1, (manyP s one (m + 1) (c, e)).2)) = (R = (us ++ ((one (pkA s c, e)).1 :: (manyP s one m (one (pkA s c, e)).2).1), (manyP s one m (one (pkA s c, e)).2).2)) := by
  rw [show manyP s one (m + 1) (c, e) = ((one (pkA s c, e)).1 :: (manyP s one m (one (pkA s c, e)).2).1, (manyP s one m (one (pkA s c, e)).2).2) from by rw [manyP, if_pos he, if_neg hw]]
theorem manyP_end {α : Type} {s : ByteArray} {one : PS → α × PS} {m c : Nat} {e : Int} {us : List α} {R : List α × PS} (he : e = 0) (hw : pkW s c = rbr) : (R = (us ++ (manyP s one (m + 1) (c, e)).1, (manyP s one (m + 1) (c, e)).2)) = (R = (us ++ [], wantS s rbr (pkA s c, e))) := by
  rw [show manyP s one (m + 1) (c, e) = ([], wantS s rbr (pkA s c, e)) from by rw [manyP, if_pos he, if_pos hw]]
theorem manyP_err {α : Type} {s : ByteArray} {one : PS → α × PS} {m c : Nat} {e : Int} {us : List α} {R : List α × PS} (he : ¬ e = 0) : (R = (us ++ (manyP s one (m + 1) (c, e)).1, (manyP s one (m + 1) (c, e)).2)) = (R = (us ++ [], wantS s rbr (c, e))) := by
  rw [show manyP s one (m + 1) (c, e) = ([], wantS s rbr (c, e)) from by rw [manyP, if_neg he]]
set_option maxRecDepth 20000 in
set_option maxHeartbeats 16000000 in
theorem cs_manyT (s : ByteArray) (tk tn : Int) (ta : ByteArray) (n : Nat) (dp : Int) (a : Nat) (e : Int) (ha : a ≤ s.size) (hs : s.size ≤ 1500)
    (hF : ∀ (us : List Tm) (a : Nat) (e : Int), us.length ≤ 1600 → a ≤ s.size → CSpec Tryd.prog 138 [.ptr 1001 0, .ptr 1002 0, .ptr 1003 0] [(1000, .blk 102 [.d (.str s), .d (.int (a : Int)), .d (.int e)]), (1001, .blk 34 [.d (.int tk), .d (.int tn), .d (.str ta), .d (.str ByteArray.empty), .lit (.slice none 0 0), .arr 500 0 us.length, .lit (.slice none 0 0)]), (1002, .blk 100 [.ptr 1000 0]), (1003, .blk 3 [.d (.int dp)]), (500, .arr 34 7 (us.map Tm.row))] (.tuple []) [(1000, .blk 102 [.d (.str s), .d (.int (((Tm.ps false s n) (a, e)).2.1 : Int)), .d (.int (((Tm.ps false s n) (a, e)).2.2))]), (1001, .blk 34 [.d (.int tk), .d (.int tn), .d (.str ta), .d (.str ByteArray.empty), .lit (.slice none 0 0), .arr 500 0 ((us ++ [((Tm.ps false s n) (a, e)).1]).length), .lit (.slice none 0 0)]), (1002, .blk 100 [.ptr 1000 0]), (1003, .blk 3 [.d (.int dp)]), (500, .arr 34 7 ((us ++ [((Tm.ps false s n) (a, e)).1]).map Tm.row))]) :
    CSpec Tryd.prog 93 [.ptr 1000 0, .clo 138 [.ptr 1001 0, .ptr 1002 0, .ptr 1003 0]] [(1000, .blk 102 [.d (.str s), .d (.int (a : Int)), .d (.int e)]), (1001, .blk 34 [.d (.int tk), .d (.int tn), .d (.str ta), .d (.str ByteArray.empty), .lit (.slice none 0 0), .arr 500 0 (([] : List Tm).length), .lit (.slice none 0 0)]), (1002, .blk 100 [.ptr 1000 0]), (1003, .blk 3 [.d (.int dp)]), (500, .arr 34 7 (([] : List Tm).map Tm.row))] (.tuple []) [(1000, .blk 102 [.d (.str s), .d (.int ((manyP s (Tm.ps false s n) (s.size + 2) (a, e)).2.1 : Int)), .d (.int ((manyP s (Tm.ps false s n) (s.size + 2) (a, e)).2.2))]), (1001, .blk 34 [.d (.int tk), .d (.int tn), .d (.str ta), .d (.str ByteArray.empty), .lit (.slice none 0 0), .arr 500 0 ((manyP s (Tm.ps false s n) (s.size + 2) (a, e)).1.length), .lit (.slice none 0 0)]), (1002, .blk 100 [.ptr 1000 0]), (1003, .blk 3 [.d (.int dp)]), (500, .arr 34 7 ((manyP s (Tm.ps false s n) (s.size + 2) (a, e)).1.map Tm.row))] := by
  try unfold pO at *
  refine CSpec.of Tryd.func93 rfl rfl (Nat.le_of_ble_eq_true rfl) ?_
  show AWp _ _ (endC _ Tryd.f93 _ _) (startC 18 _ _)
  repeat (first | refine AWp.seq ?_ | refine AWp.block ?_)
  refine AWp.loop (σ := fun u : {u : List Tm × Nat × Int × Nat // (manyP s (Tm.ps false s n) (s.size + 2) (a, e) = (u.1 ++ (manyP s (Tm.ps false s n) u.2.2.2 (u.2.1, u.2.2.1)).1, (manyP s (Tm.ps false s n) u.2.2.2 (u.2.1, u.2.2.1)).2) ∧ u.2.1 ≤ s.size ∧ u.1.length + u.2.2.2 = s.size + 2 ∧ 0 < u.2.2.2 ∧ (u.2.2.1 ≠ 0 ∨ s.size - u.2.1 + 1 < u.2.2.2))} => ⟨18, [(0, .ptr 1000 0), (1, .clo 138 [.ptr 1001 0, .ptr 1002 0, .ptr 1003 0])], [(500, some (.arr 34 7 (u.1.1.map Tm.row))), (1000, some (.blk 102 [.d (.str s), .d (.int (u.1.2.1 : Int)), .d (.int u.1.2.2.1)])), (1001, some (.blk 34 [.d (.int tk), .d (.int tn), .d (.str ta), .d (.str ByteArray.empty), .lit (.slice none 0 0), .arr 500 0 u.1.1.length, .lit (.slice none 0 0)])), (1002, some (.blk 100 [.ptr 1000 0])), (1003, some (.blk 3 [.d (.int dp)]))]⟩)
    (μ := fun u => u.1.2.2.2) ⟨([], a, e, s.size + 2), ⟨by simp, ha, by simp, by dsimp only; omega, .inr (by dsimp only; omega)⟩⟩ (Le.sub (by simp) (by simp)) (fun ⟨(us, c, ee, m), hw⟩ => ?_)
  dsimp only at hw ⊢
  obtain ⟨hmm, hcl, hum, hm0, hon⟩ := hw
  obtain ⟨m, rfl⟩ : ∃ k, m = k + 1 := ⟨m - 1, by omega⟩
  have hpk := cs_Peek s c ee hcl hs
  obtain ⟨W, hW⟩ : ∃ W, W = pkW s c := ⟨_, rfl⟩
  obtain ⟨A, hA⟩ : ∃ A, A = pkA s c := ⟨_, rfl⟩
  have hA1 : c ≤ A := by rw [hA]; exact (pkA_le hcl).1
  have hA2 : A ≤ s.size := by rw [hA]; exact (pkA_le hcl).2
  rw [← hW, ← hA] at hpk
  by_cases q1 : ee = 0
  · have q1t := eq_true q1
    by_cases q2 : W = ⟨#[41]⟩
    · have q2t := eq_true q2
      refine AWp.rg [] [.c [] [.ptr 1000 0] [(1000, .blk 102 [.d (.str s), .d (.int (c : Int)), .d (.int ee)])] (.d (.str W)) [(1000, .blk 102 [.d (.str s), .d (.int (A : Int)), .d (.int ee)])]] ?_ (hr := by conv => lhs; simp [q1t, q2t])
      refine AWp.cn ?_
      refine AWp.exit ?_
      rw [manyP_end q1 (by rw [← hW]; exact q2)] at hmm
      rw [← hA] at hmm
      have hwt := cs_want s rbr A ee hA2 hs
      generalize wantS s rbr (A, ee) = p3 at hmm hwt
      obtain ⟨A3, e3⟩ := p3
      dsimp only at hmm hwt
      rw [List.append_nil] at hmm
      rw [hmm]
      dsimp only
      refine AWp.rg [] [.c [] [.ptr 1000 0, .d (.str (⟨#[41]⟩))] [(1000, .blk 102 [.d (.str s), .d (.int (A : Int)), .d (.int ee)])] (.tuple []) [(1000, .blk 102 [.d (.str s), .d (.int (A3 : Int)), .d (.int e3)])]] ?_ (hr := by conv => lhs; simp [q1t, q2t])
      try dsimp only [thenQ, blockQ]
      apply endC.normal
      · rfl
      · conv => lhs; simp [resAV, Tryd.results93]
      · rfl
      · simp [moEnd, memGet]
    refine AWp.rg [] [.c [] [.ptr 1000 0] [(1000, .blk 102 [.d (.str s), .d (.int (c : Int)), .d (.int ee)])] (.d (.str W)) [(1000, .blk 102 [.d (.str s), .d (.int (A : Int)), .d (.int ee)])]] ?_ (hr := by conv => lhs; simp [q1t, q2])
    refine AWp.cy ?_
    refine AWp.skip ?_
    rw [manyP_one q1 (by rw [← hW]; exact q2)] at hmm
    have hone := ((fun p h => ps_adv n p h) : ∀ p : PS, p.1 ≤ s.size → Adv s p ((Tm.ps false s n) p).2) (A, ee) hA2
    have hcl := hF us A ee (by omega) hA2
    rw [← hA] at hmm
    generalize (Tm.ps false s n) (A, ee) = x at hmm hone hcl
    obtain ⟨x, c2, e2⟩ := x
    have hs2 := hone.sz
    have ho2 := hone.on
    dsimp only at hmm hone hcl hs2 ho2
    obtain ⟨us2, hus2⟩ : ∃ l, l = us ++ [x] := ⟨_, rfl⟩
    have hus2l : us2.length = us.length + 1 := by rw [hus2]; simp
    rw [← hus2] at hcl
    refine AWp.rg [] [.c [] [.ptr 1001 0, .ptr 1002 0, .ptr 1003 0] [(1000, .blk 102 [.d (.str s), .d (.int (A : Int)), .d (.int ee)]), (1001, .blk 34 [.d (.int tk), .d (.int tn), .d (.str ta), .d (.str ByteArray.empty), .lit (.slice none 0 0), .arr 500 0 us.length, .lit (.slice none 0 0)]), (1002, .blk 100 [.ptr 1000 0]), (1003, .blk 3 [.d (.int dp)]), (500, .arr 34 7 (us.map Tm.row))] (.tuple []) [(1000, .blk 102 [.d (.str s), .d (.int (c2 : Int)), .d (.int e2)]), (1001, .blk 34 [.d (.int tk), .d (.int tn), .d (.str ta), .d (.str ByteArray.empty), .lit (.slice none 0 0), .arr 500 0 us2.length, .lit (.slice none 0 0)]), (1002, .blk 100 [.ptr 1000 0]), (1003, .blk 3 [.d (.int dp)]), (500, .arr 34 7 (us2.map Tm.row))]] ?_ (hr := by conv => lhs; simp [q1t, q2])
    refine ⟨⟨(us2, c2, e2, m), ⟨by rw [hmm, hus2]; simp, hs2, by dsimp only; omega, by dsimp only; rcases hon with h | h <;> omega, by dsimp only; rcases ho2 with h | h; exact .inl h; right; rcases hon with h | h <;> omega⟩⟩, by dsimp only; omega, ?_⟩
    dsimp only
    exact Le.sub (by simp) (by simp)
  refine AWp.rg [] [] ?_ (hr := by conv => lhs; simp [q1])
  refine AWp.cn ?_
  refine AWp.exit ?_
  rw [manyP_err q1] at hmm
  have hwt := cs_want s rbr c ee hcl hs
  generalize wantS s rbr (c, ee) = p3 at hmm hwt
  obtain ⟨A3, e3⟩ := p3
  dsimp only at hmm hwt
  rw [List.append_nil] at hmm
  rw [hmm]
  dsimp only
  refine AWp.rg [] [.c [] [.ptr 1000 0, .d (.str (⟨#[41]⟩))] [(1000, .blk 102 [.d (.str s), .d (.int (c : Int)), .d (.int ee)])] (.tuple []) [(1000, .blk 102 [.d (.str s), .d (.int (A3 : Int)), .d (.int e3)])]] ?_ (hr := by conv => lhs; simp [q1])
  try dsimp only [thenQ, blockQ]
  apply endC.normal
  · rfl
  · conv => lhs; simp [resAV, Tryd.results93]
  · rfl
  · simp [moEnd, memGet]
set_option maxRecDepth 20000 in
set_option maxHeartbeats 16000000 in
theorem cs_manyC (s : ByteArray) (tk tn : Int) (ta : ByteArray) (n : Nat) (xs : List Tm) (dp : Int) (a : Nat) (e : Int) (ha : a ≤ s.size) (hs : s.size ≤ 1500)
    (hF : ∀ (us : List Cs) (a : Nat) (e : Int), us.length ≤ 1600 → a ≤ s.size → CSpec Tryd.prog 140 [.ptr 1002 0, .ptr 1003 0, .ptr 1001 0] [(1000, .blk 102 [.d (.str s), .d (.int (a : Int)), .d (.int e)]), (1001, .blk 34 [.d (.int tk), .d (.int tn), .d (.str ta), .d (.str ByteArray.empty), .lit (.slice none 0 0), .arr 500 0 xs.length, .arr 501 0 us.length]), (1002, .blk 100 [.ptr 1000 0]), (1003, .blk 3 [.d (.int dp)]), (500, .arr 34 7 (xs.map Tm.row)), (501, .arr 40 9 (us.map Cs.row))] (.tuple []) [(1000, .blk 102 [.d (.str s), .d (.int (((casP false s (Tm.ps false s n)) (a, e)).2.1 : Int)), .d (.int (((casP false s (Tm.ps false s n)) (a, e)).2.2))]), (1001, .blk 34 [.d (.int tk), .d (.int tn), .d (.str ta), .d (.str ByteArray.empty), .lit (.slice none 0 0), .arr 500 0 xs.length, .arr 501 0 ((us ++ [((casP false s (Tm.ps false s n)) (a, e)).1]).length)]), (1002, .blk 100 [.ptr 1000 0]), (1003, .blk 3 [.d (.int dp)]), (500, .arr 34 7 (xs.map Tm.row)), (501, .arr 40 9 ((us ++ [((casP false s (Tm.ps false s n)) (a, e)).1]).map Cs.row))]) :
    CSpec Tryd.prog 93 [.ptr 1000 0, .clo 140 [.ptr 1002 0, .ptr 1003 0, .ptr 1001 0]] [(1000, .blk 102 [.d (.str s), .d (.int (a : Int)), .d (.int e)]), (1001, .blk 34 [.d (.int tk), .d (.int tn), .d (.str ta), .d (.str ByteArray.empty), .lit (.slice none 0 0), .arr 500 0 xs.length, .arr 501 0 (([] : List Cs).length)]), (1002, .blk 100 [.ptr 1000 0]), (1003, .blk 3 [.d (.int dp)]), (500, .arr 34 7 (xs.map Tm.row)), (501, .arr 40 9 (([] : List Cs).map Cs.row))] (.tuple []) [(1000, .blk 102 [.d (.str s), .d (.int ((manyP s (casP false s (Tm.ps false s n)) (s.size + 2) (a, e)).2.1 : Int)), .d (.int ((manyP s (casP false s (Tm.ps false s n)) (s.size + 2) (a, e)).2.2))]), (1001, .blk 34 [.d (.int tk), .d (.int tn), .d (.str ta), .d (.str ByteArray.empty), .lit (.slice none 0 0), .arr 500 0 xs.length, .arr 501 0 ((manyP s (casP false s (Tm.ps false s n)) (s.size + 2) (a, e)).1.length)]), (1002, .blk 100 [.ptr 1000 0]), (1003, .blk 3 [.d (.int dp)]), (500, .arr 34 7 (xs.map Tm.row)), (501, .arr 40 9 ((manyP s (casP false s (Tm.ps false s n)) (s.size + 2) (a, e)).1.map Cs.row))] := by
  try unfold pO at *
  refine CSpec.of Tryd.func93 rfl rfl (Nat.le_of_ble_eq_true rfl) ?_
  show AWp _ _ (endC _ Tryd.f93 _ _) (startC 18 _ _)
  repeat (first | refine AWp.seq ?_ | refine AWp.block ?_)
  refine AWp.loop (σ := fun u : {u : List Cs × Nat × Int × Nat // (manyP s (casP false s (Tm.ps false s n)) (s.size + 2) (a, e) = (u.1 ++ (manyP s (casP false s (Tm.ps false s n)) u.2.2.2 (u.2.1, u.2.2.1)).1, (manyP s (casP false s (Tm.ps false s n)) u.2.2.2 (u.2.1, u.2.2.1)).2) ∧ u.2.1 ≤ s.size ∧ u.1.length + u.2.2.2 = s.size + 2 ∧ 0 < u.2.2.2 ∧ (u.2.2.1 ≠ 0 ∨ s.size - u.2.1 + 1 < u.2.2.2))} => ⟨18, [(0, .ptr 1000 0), (1, .clo 140 [.ptr 1002 0, .ptr 1003 0, .ptr 1001 0])], [(500, some (.arr 34 7 (xs.map Tm.row))), (501, some (.arr 40 9 (u.1.1.map Cs.row))), (1000, some (.blk 102 [.d (.str s), .d (.int (u.1.2.1 : Int)), .d (.int u.1.2.2.1)])), (1001, some (.blk 34 [.d (.int tk), .d (.int tn), .d (.str ta), .d (.str ByteArray.empty), .lit (.slice none 0 0), .arr 500 0 xs.length, .arr 501 0 u.1.1.length])), (1002, some (.blk 100 [.ptr 1000 0])), (1003, some (.blk 3 [.d (.int dp)]))]⟩)
    (μ := fun u => u.1.2.2.2) ⟨([], a, e, s.size + 2), ⟨by simp, ha, by simp, by dsimp only; omega, .inr (by dsimp only; omega)⟩⟩ (Le.sub (by simp) (by simp)) (fun ⟨(us, c, ee, m), hw⟩ => ?_)
  dsimp only at hw ⊢
  obtain ⟨hmm, hcl, hum, hm0, hon⟩ := hw
  obtain ⟨m, rfl⟩ : ∃ k, m = k + 1 := ⟨m - 1, by omega⟩
  have hpk := cs_Peek s c ee hcl hs
  obtain ⟨W, hW⟩ : ∃ W, W = pkW s c := ⟨_, rfl⟩
  obtain ⟨A, hA⟩ : ∃ A, A = pkA s c := ⟨_, rfl⟩
  have hA1 : c ≤ A := by rw [hA]; exact (pkA_le hcl).1
  have hA2 : A ≤ s.size := by rw [hA]; exact (pkA_le hcl).2
  rw [← hW, ← hA] at hpk
  by_cases q1 : ee = 0
  · have q1t := eq_true q1
    by_cases q2 : W = ⟨#[41]⟩
    · have q2t := eq_true q2
      refine AWp.rg [] [.c [] [.ptr 1000 0] [(1000, .blk 102 [.d (.str s), .d (.int (c : Int)), .d (.int ee)])] (.d (.str W)) [(1000, .blk 102 [.d (.str s), .d (.int (A : Int)), .d (.int ee)])]] ?_ (hr := by conv => lhs; simp [q1t, q2t])
      refine AWp.cn ?_
      refine AWp.exit ?_
      rw [manyP_end q1 (by rw [← hW]; exact q2)] at hmm
      rw [← hA] at hmm
      have hwt := cs_want s rbr A ee hA2 hs
      generalize wantS s rbr (A, ee) = p3 at hmm hwt
      obtain ⟨A3, e3⟩ := p3
      dsimp only at hmm hwt
      rw [List.append_nil] at hmm
      rw [hmm]
      dsimp only
      refine AWp.rg [] [.c [] [.ptr 1000 0, .d (.str (⟨#[41]⟩))] [(1000, .blk 102 [.d (.str s), .d (.int (A : Int)), .d (.int ee)])] (.tuple []) [(1000, .blk 102 [.d (.str s), .d (.int (A3 : Int)), .d (.int e3)])]] ?_ (hr := by conv => lhs; simp [q1t, q2t])
      try dsimp only [thenQ, blockQ]
      apply endC.normal
      · rfl
      · conv => lhs; simp [resAV, Tryd.results93]
      · rfl
      · simp [moEnd, memGet]
    refine AWp.rg [] [.c [] [.ptr 1000 0] [(1000, .blk 102 [.d (.str s), .d (.int (c : Int)), .d (.int ee)])] (.d (.str W)) [(1000, .blk 102 [.d (.str s), .d (.int (A : Int)), .d (.int ee)])]] ?_ (hr := by conv => lhs; simp [q1t, q2])
    refine AWp.cy ?_
    refine AWp.skip ?_
    rw [manyP_one q1 (by rw [← hW]; exact q2)] at hmm
    have hone := ((fun p h => casP_adv (fun p h => ps_adv n p h) h) : ∀ p : PS, p.1 ≤ s.size → Adv s p ((casP false s (Tm.ps false s n)) p).2) (A, ee) hA2
    have hcl := hF us A ee (by omega) hA2
    rw [← hA] at hmm
    generalize (casP false s (Tm.ps false s n)) (A, ee) = x at hmm hone hcl
    obtain ⟨x, c2, e2⟩ := x
    have hs2 := hone.sz
    have ho2 := hone.on
    dsimp only at hmm hone hcl hs2 ho2
    obtain ⟨us2, hus2⟩ : ∃ l, l = us ++ [x] := ⟨_, rfl⟩
    have hus2l : us2.length = us.length + 1 := by rw [hus2]; simp
    rw [← hus2] at hcl
    refine AWp.rg [] [.c [] [.ptr 1002 0, .ptr 1003 0, .ptr 1001 0] [(1000, .blk 102 [.d (.str s), .d (.int (A : Int)), .d (.int ee)]), (1001, .blk 34 [.d (.int tk), .d (.int tn), .d (.str ta), .d (.str ByteArray.empty), .lit (.slice none 0 0), .arr 500 0 xs.length, .arr 501 0 us.length]), (1002, .blk 100 [.ptr 1000 0]), (1003, .blk 3 [.d (.int dp)]), (500, .arr 34 7 (xs.map Tm.row)), (501, .arr 40 9 (us.map Cs.row))] (.tuple []) [(1000, .blk 102 [.d (.str s), .d (.int (c2 : Int)), .d (.int e2)]), (1001, .blk 34 [.d (.int tk), .d (.int tn), .d (.str ta), .d (.str ByteArray.empty), .lit (.slice none 0 0), .arr 500 0 xs.length, .arr 501 0 us2.length]), (1002, .blk 100 [.ptr 1000 0]), (1003, .blk 3 [.d (.int dp)]), (500, .arr 34 7 (xs.map Tm.row)), (501, .arr 40 9 (us2.map Cs.row))]] ?_ (hr := by conv => lhs; simp [q1t, q2])
    refine ⟨⟨(us2, c2, e2, m), ⟨by rw [hmm, hus2]; simp, hs2, by dsimp only; omega, by dsimp only; rcases hon with h | h <;> omega, by dsimp only; rcases ho2 with h | h; exact .inl h; right; rcases hon with h | h <;> omega⟩⟩, by dsimp only; omega, ?_⟩
    dsimp only
    exact Le.sub (by simp) (by simp)
  refine AWp.rg [] [] ?_ (hr := by conv => lhs; simp [q1])
  refine AWp.cn ?_
  refine AWp.exit ?_
  rw [manyP_err q1] at hmm
  have hwt := cs_want s rbr c ee hcl hs
  generalize wantS s rbr (c, ee) = p3 at hmm hwt
  obtain ⟨A3, e3⟩ := p3
  dsimp only at hmm hwt
  rw [List.append_nil] at hmm
  rw [hmm]
  dsimp only
  refine AWp.rg [] [.c [] [.ptr 1000 0, .d (.str (⟨#[41]⟩))] [(1000, .blk 102 [.d (.str s), .d (.int (c : Int)), .d (.int ee)])] (.tuple []) [(1000, .blk 102 [.d (.str s), .d (.int (A3 : Int)), .d (.int e3)])]] ?_ (hr := by conv => lhs; simp [q1])
  try dsimp only [thenQ, blockQ]
  apply endC.normal
  · rfl
  · conv => lhs; simp [resAV, Tryd.results93]
  · rfl
  · simp [moEnd, memGet]
set_option maxRecDepth 20000 in
set_option maxHeartbeats 16000000 in
theorem cs_manyV (s : ByteArray) (tg : Int) (a : Nat) (e : Int) (ha : a ≤ s.size) (hs : s.size ≤ 1500)
    (hF : ∀ (us : List ByteArray) (a : Nat) (e : Int), us.length ≤ 1600 → a ≤ s.size → CSpec Tryd.prog 141 [.ptr 1001 0, .ptr 1002 0] [(1000, .blk 102 [.d (.str s), .d (.int (a : Int)), .d (.int e)]), (1001, .blk 40 [.d (.int tg), .arr 500 0 us.length, .d (.int 0), .d (.int 0), .d (.str ByteArray.empty), .d (.str ByteArray.empty), .lit (.slice none 0 0), .lit (.slice none 0 0), .lit (.slice none 0 0)]), (1002, .blk 100 [.ptr 1000 0]), (500, .arr 9 1 (us.map strR))] (.tuple []) [(1000, .blk 102 [.d (.str s), .d (.int (((namP s) (a, e)).2.1 : Int)), .d (.int (((namP s) (a, e)).2.2))]), (1001, .blk 40 [.d (.int tg), .arr 500 0 ((us ++ [((namP s) (a, e)).1]).length), .d (.int 0), .d (.int 0), .d (.str ByteArray.empty), .d (.str ByteArray.empty), .lit (.slice none 0 0), .lit (.slice none 0 0), .lit (.slice none 0 0)]), (1002, .blk 100 [.ptr 1000 0]), (500, .arr 9 1 ((us ++ [((namP s) (a, e)).1]).map strR))]) :
    CSpec Tryd.prog 93 [.ptr 1000 0, .clo 141 [.ptr 1001 0, .ptr 1002 0]] [(1000, .blk 102 [.d (.str s), .d (.int (a : Int)), .d (.int e)]), (1001, .blk 40 [.d (.int tg), .arr 500 0 (([] : List ByteArray).length), .d (.int 0), .d (.int 0), .d (.str ByteArray.empty), .d (.str ByteArray.empty), .lit (.slice none 0 0), .lit (.slice none 0 0), .lit (.slice none 0 0)]), (1002, .blk 100 [.ptr 1000 0]), (500, .arr 9 1 (([] : List ByteArray).map strR))] (.tuple []) [(1000, .blk 102 [.d (.str s), .d (.int ((manyP s (namP s) (s.size + 2) (a, e)).2.1 : Int)), .d (.int ((manyP s (namP s) (s.size + 2) (a, e)).2.2))]), (1001, .blk 40 [.d (.int tg), .arr 500 0 ((manyP s (namP s) (s.size + 2) (a, e)).1.length), .d (.int 0), .d (.int 0), .d (.str ByteArray.empty), .d (.str ByteArray.empty), .lit (.slice none 0 0), .lit (.slice none 0 0), .lit (.slice none 0 0)]), (1002, .blk 100 [.ptr 1000 0]), (500, .arr 9 1 ((manyP s (namP s) (s.size + 2) (a, e)).1.map strR))] := by
  try unfold pO at *
  refine CSpec.of Tryd.func93 rfl rfl (Nat.le_of_ble_eq_true rfl) ?_
  show AWp _ _ (endC _ Tryd.f93 _ _) (startC 18 _ _)
  repeat (first | refine AWp.seq ?_ | refine AWp.block ?_)
  refine AWp.loop (σ := fun u : {u : List ByteArray × Nat × Int × Nat // (manyP s (namP s) (s.size + 2) (a, e) = (u.1 ++ (manyP s (namP s) u.2.2.2 (u.2.1, u.2.2.1)).1, (manyP s (namP s) u.2.2.2 (u.2.1, u.2.2.1)).2) ∧ u.2.1 ≤ s.size ∧ u.1.length + u.2.2.2 = s.size + 2 ∧ 0 < u.2.2.2 ∧ (u.2.2.1 ≠ 0 ∨ s.size - u.2.1 + 1 < u.2.2.2))} => ⟨18, [(0, .ptr 1000 0), (1, .clo 141 [.ptr 1001 0, .ptr 1002 0])], [(500, some (.arr 9 1 (u.1.1.map strR))), (1000, some (.blk 102 [.d (.str s), .d (.int (u.1.2.1 : Int)), .d (.int u.1.2.2.1)])), (1001, some (.blk 40 [.d (.int tg), .arr 500 0 u.1.1.length, .d (.int 0), .d (.int 0), .d (.str ByteArray.empty), .d (.str ByteArray.empty), .lit (.slice none 0 0), .lit (.slice none 0 0), .lit (.slice none 0 0)])), (1002, some (.blk 100 [.ptr 1000 0]))]⟩)
    (μ := fun u => u.1.2.2.2) ⟨([], a, e, s.size + 2), ⟨by simp, ha, by simp, by dsimp only; omega, .inr (by dsimp only; omega)⟩⟩ (Le.sub (by simp) (by simp)) (fun ⟨(us, c, ee, m), hw⟩ => ?_)
  dsimp only at hw ⊢
  obtain ⟨hmm, hcl, hum, hm0, hon⟩ := hw
  obtain ⟨m, rfl⟩ : ∃ k, m = k + 1 := ⟨m - 1, by omega⟩
  have hpk := cs_Peek s c ee hcl hs
  obtain ⟨W, hW⟩ : ∃ W, W = pkW s c := ⟨_, rfl⟩
  obtain ⟨A, hA⟩ : ∃ A, A = pkA s c := ⟨_, rfl⟩
  have hA1 : c ≤ A := by rw [hA]; exact (pkA_le hcl).1
  have hA2 : A ≤ s.size := by rw [hA]; exact (pkA_le hcl).2
  rw [← hW, ← hA] at hpk
  by_cases q1 : ee = 0
  · have q1t := eq_true q1
    by_cases q2 : W = ⟨#[41]⟩
    · have q2t := eq_true q2
      refine AWp.rg [] [.c [] [.ptr 1000 0] [(1000, .blk 102 [.d (.str s), .d (.int (c : Int)), .d (.int ee)])] (.d (.str W)) [(1000, .blk 102 [.d (.str s), .d (.int (A : Int)), .d (.int ee)])]] ?_ (hr := by conv => lhs; simp [q1t, q2t])
      refine AWp.cn ?_
      refine AWp.exit ?_
      rw [manyP_end q1 (by rw [← hW]; exact q2)] at hmm
      rw [← hA] at hmm
      have hwt := cs_want s rbr A ee hA2 hs
      generalize wantS s rbr (A, ee) = p3 at hmm hwt
      obtain ⟨A3, e3⟩ := p3
      dsimp only at hmm hwt
      rw [List.append_nil] at hmm
      rw [hmm]
      dsimp only
      refine AWp.rg [] [.c [] [.ptr 1000 0, .d (.str (⟨#[41]⟩))] [(1000, .blk 102 [.d (.str s), .d (.int (A : Int)), .d (.int ee)])] (.tuple []) [(1000, .blk 102 [.d (.str s), .d (.int (A3 : Int)), .d (.int e3)])]] ?_ (hr := by conv => lhs; simp [q1t, q2t])
      try dsimp only [thenQ, blockQ]
      apply endC.normal
      · rfl
      · conv => lhs; simp [resAV, Tryd.results93]
      · rfl
      · simp [moEnd, memGet]
    refine AWp.rg [] [.c [] [.ptr 1000 0] [(1000, .blk 102 [.d (.str s), .d (.int (c : Int)), .d (.int ee)])] (.d (.str W)) [(1000, .blk 102 [.d (.str s), .d (.int (A : Int)), .d (.int ee)])]] ?_ (hr := by conv => lhs; simp [q1t, q2])
    refine AWp.cy ?_
    refine AWp.skip ?_
    rw [manyP_one q1 (by rw [← hW]; exact q2)] at hmm
    have hone := ((fun p h => namP_adv h) : ∀ p : PS, p.1 ≤ s.size → Adv s p ((namP s) p).2) (A, ee) hA2
    have hcl := hF us A ee (by omega) hA2
    rw [← hA] at hmm
    generalize (namP s) (A, ee) = x at hmm hone hcl
    obtain ⟨x, c2, e2⟩ := x
    have hs2 := hone.sz
    have ho2 := hone.on
    dsimp only at hmm hone hcl hs2 ho2
    obtain ⟨us2, hus2⟩ : ∃ l, l = us ++ [x] := ⟨_, rfl⟩
    have hus2l : us2.length = us.length + 1 := by rw [hus2]; simp
    rw [← hus2] at hcl
    refine AWp.rg [] [.c [] [.ptr 1001 0, .ptr 1002 0] [(1000, .blk 102 [.d (.str s), .d (.int (A : Int)), .d (.int ee)]), (1001, .blk 40 [.d (.int tg), .arr 500 0 us.length, .d (.int 0), .d (.int 0), .d (.str ByteArray.empty), .d (.str ByteArray.empty), .lit (.slice none 0 0), .lit (.slice none 0 0), .lit (.slice none 0 0)]), (1002, .blk 100 [.ptr 1000 0]), (500, .arr 9 1 (us.map strR))] (.tuple []) [(1000, .blk 102 [.d (.str s), .d (.int (c2 : Int)), .d (.int e2)]), (1001, .blk 40 [.d (.int tg), .arr 500 0 us2.length, .d (.int 0), .d (.int 0), .d (.str ByteArray.empty), .d (.str ByteArray.empty), .lit (.slice none 0 0), .lit (.slice none 0 0), .lit (.slice none 0 0)]), (1002, .blk 100 [.ptr 1000 0]), (500, .arr 9 1 (us2.map strR))]] ?_ (hr := by conv => lhs; simp [q1t, q2])
    refine ⟨⟨(us2, c2, e2, m), ⟨by rw [hmm, hus2]; simp, hs2, by dsimp only; omega, by dsimp only; rcases hon with h | h <;> omega, by dsimp only; rcases ho2 with h | h; exact .inl h; right; rcases hon with h | h <;> omega⟩⟩, by dsimp only; omega, ?_⟩
    dsimp only
    exact Le.sub (by simp) (by simp)
  refine AWp.rg [] [] ?_ (hr := by conv => lhs; simp [q1])
  refine AWp.cn ?_
  refine AWp.exit ?_
  rw [manyP_err q1] at hmm
  have hwt := cs_want s rbr c ee hcl hs
  generalize wantS s rbr (c, ee) = p3 at hmm hwt
  obtain ⟨A3, e3⟩ := p3
  dsimp only at hmm hwt
  rw [List.append_nil] at hmm
  rw [hmm]
  dsimp only
  refine AWp.rg [] [.c [] [.ptr 1000 0, .d (.str (⟨#[41]⟩))] [(1000, .blk 102 [.d (.str s), .d (.int (c : Int)), .d (.int ee)])] (.tuple []) [(1000, .blk 102 [.d (.str s), .d (.int (A3 : Int)), .d (.int e3)])]] ?_ (hr := by conv => lhs; simp [q1])
  try dsimp only [thenQ, blockQ]
  apply endC.normal
  · rfl
  · conv => lhs; simp [resAV, Tryd.results93]
  · rfl
  · simp [moEnd, memGet]
set_option maxRecDepth 20000 in
set_option maxHeartbeats 16000000 in
theorem cs_manyP (s : ByteArray) (fg : ByteArray) (a : Nat) (e : Int) (ha : a ≤ s.size) (hs : s.size ≤ 1500)
    (hF : ∀ (us : List ByteArray) (a : Nat) (e : Int), us.length ≤ 1600 → a ≤ s.size → CSpec Tryd.prog 94 [.ptr 1001 0, .ptr 1002 0] [(1000, .blk 102 [.d (.str s), .d (.int (a : Int)), .d (.int e)]), (1001, .blk 36 [.d (.str fg), .arr 500 0 us.length, .d (.int 0), .d (.int 0), .d (.str ByteArray.empty), .d (.str ByteArray.empty), .lit (.slice none 0 0), .lit (.slice none 0 0), .lit (.slice none 0 0)]), (1002, .blk 100 [.ptr 1000 0]), (500, .arr 9 1 (us.map strR))] (.tuple []) [(1000, .blk 102 [.d (.str s), .d (.int (((namP s) (a, e)).2.1 : Int)), .d (.int (((namP s) (a, e)).2.2))]), (1001, .blk 36 [.d (.str fg), .arr 500 0 ((us ++ [((namP s) (a, e)).1]).length), .d (.int 0), .d (.int 0), .d (.str ByteArray.empty), .d (.str ByteArray.empty), .lit (.slice none 0 0), .lit (.slice none 0 0), .lit (.slice none 0 0)]), (1002, .blk 100 [.ptr 1000 0]), (500, .arr 9 1 ((us ++ [((namP s) (a, e)).1]).map strR))]) :
    CSpec Tryd.prog 93 [.ptr 1000 0, .clo 94 [.ptr 1001 0, .ptr 1002 0]] [(1000, .blk 102 [.d (.str s), .d (.int (a : Int)), .d (.int e)]), (1001, .blk 36 [.d (.str fg), .arr 500 0 (([] : List ByteArray).length), .d (.int 0), .d (.int 0), .d (.str ByteArray.empty), .d (.str ByteArray.empty), .lit (.slice none 0 0), .lit (.slice none 0 0), .lit (.slice none 0 0)]), (1002, .blk 100 [.ptr 1000 0]), (500, .arr 9 1 (([] : List ByteArray).map strR))] (.tuple []) [(1000, .blk 102 [.d (.str s), .d (.int ((manyP s (namP s) (s.size + 2) (a, e)).2.1 : Int)), .d (.int ((manyP s (namP s) (s.size + 2) (a, e)).2.2))]), (1001, .blk 36 [.d (.str fg), .arr 500 0 ((manyP s (namP s) (s.size + 2) (a, e)).1.length), .d (.int 0), .d (.int 0), .d (.str ByteArray.empty), .d (.str ByteArray.empty), .lit (.slice none 0 0), .lit (.slice none 0 0), .lit (.slice none 0 0)]), (1002, .blk 100 [.ptr 1000 0]), (500, .arr 9 1 ((manyP s (namP s) (s.size + 2) (a, e)).1.map strR))] := by
  try unfold pO at *
  refine CSpec.of Tryd.func93 rfl rfl (Nat.le_of_ble_eq_true rfl) ?_
  show AWp _ _ (endC _ Tryd.f93 _ _) (startC 18 _ _)
  repeat (first | refine AWp.seq ?_ | refine AWp.block ?_)
  refine AWp.loop (σ := fun u : {u : List ByteArray × Nat × Int × Nat // (manyP s (namP s) (s.size + 2) (a, e) = (u.1 ++ (manyP s (namP s) u.2.2.2 (u.2.1, u.2.2.1)).1, (manyP s (namP s) u.2.2.2 (u.2.1, u.2.2.1)).2) ∧ u.2.1 ≤ s.size ∧ u.1.length + u.2.2.2 = s.size + 2 ∧ 0 < u.2.2.2 ∧ (u.2.2.1 ≠ 0 ∨ s.size - u.2.1 + 1 < u.2.2.2))} => ⟨18, [(0, .ptr 1000 0), (1, .clo 94 [.ptr 1001 0, .ptr 1002 0])], [(500, some (.arr 9 1 (u.1.1.map strR))), (1000, some (.blk 102 [.d (.str s), .d (.int (u.1.2.1 : Int)), .d (.int u.1.2.2.1)])), (1001, some (.blk 36 [.d (.str fg), .arr 500 0 u.1.1.length, .d (.int 0), .d (.int 0), .d (.str ByteArray.empty), .d (.str ByteArray.empty), .lit (.slice none 0 0), .lit (.slice none 0 0), .lit (.slice none 0 0)])), (1002, some (.blk 100 [.ptr 1000 0]))]⟩)
    (μ := fun u => u.1.2.2.2) ⟨([], a, e, s.size + 2), ⟨by simp, ha, by simp, by dsimp only; omega, .inr (by dsimp only; omega)⟩⟩ (Le.sub (by simp) (by simp)) (fun ⟨(us, c, ee, m), hw⟩ => ?_)
  dsimp only at hw ⊢
  obtain ⟨hmm, hcl, hum, hm0, hon⟩ := hw
  obtain ⟨m, rfl⟩ : ∃ k, m = k + 1 := ⟨m - 1, by omega⟩
  have hpk := cs_Peek s c ee hcl hs
  obtain ⟨W, hW⟩ : ∃ W, W = pkW s c := ⟨_, rfl⟩
  obtain ⟨A, hA⟩ : ∃ A, A = pkA s c := ⟨_, rfl⟩
  have hA1 : c ≤ A := by rw [hA]; exact (pkA_le hcl).1
  have hA2 : A ≤ s.size := by rw [hA]; exact (pkA_le hcl).2
  rw [← hW, ← hA] at hpk
  by_cases q1 : ee = 0
  · have q1t := eq_true q1
    by_cases q2 : W = ⟨#[41]⟩
    · have q2t := eq_true q2
      refine AWp.rg [] [.c [] [.ptr 1000 0] [(1000, .blk 102 [.d (.str s), .d (.int (c : Int)), .d (.int ee)])] (.d (.str W)) [(1000, .blk 102 [.d (.str s), .d (.int (A : Int)), .d (.int ee)])]] ?_ (hr := by conv => lhs; simp [q1t, q2t])
      refine AWp.cn ?_
      refine AWp.exit ?_
      rw [manyP_end q1 (by rw [← hW]; exact q2)] at hmm
      rw [← hA] at hmm
      have hwt := cs_want s rbr A ee hA2 hs
      generalize wantS s rbr (A, ee) = p3 at hmm hwt
      obtain ⟨A3, e3⟩ := p3
      dsimp only at hmm hwt
      rw [List.append_nil] at hmm
      rw [hmm]
      dsimp only
      refine AWp.rg [] [.c [] [.ptr 1000 0, .d (.str (⟨#[41]⟩))] [(1000, .blk 102 [.d (.str s), .d (.int (A : Int)), .d (.int ee)])] (.tuple []) [(1000, .blk 102 [.d (.str s), .d (.int (A3 : Int)), .d (.int e3)])]] ?_ (hr := by conv => lhs; simp [q1t, q2t])
      try dsimp only [thenQ, blockQ]
      apply endC.normal
      · rfl
      · conv => lhs; simp [resAV, Tryd.results93]
      · rfl
      · simp [moEnd, memGet]
    refine AWp.rg [] [.c [] [.ptr 1000 0] [(1000, .blk 102 [.d (.str s), .d (.int (c : Int)), .d (.int ee)])] (.d (.str W)) [(1000, .blk 102 [.d (.str s), .d (.int (A : Int)), .d (.int ee)])]] ?_ (hr := by conv => lhs; simp [q1t, q2])
    refine AWp.cy ?_
    refine AWp.skip ?_
    rw [manyP_one q1 (by rw [← hW]; exact q2)] at hmm
    have hone := ((fun p h => namP_adv h) : ∀ p : PS, p.1 ≤ s.size → Adv s p ((namP s) p).2) (A, ee) hA2
    have hcl := hF us A ee (by omega) hA2
    rw [← hA] at hmm
    generalize (namP s) (A, ee) = x at hmm hone hcl
    obtain ⟨x, c2, e2⟩ := x
    have hs2 := hone.sz
    have ho2 := hone.on
    dsimp only at hmm hone hcl hs2 ho2
    obtain ⟨us2, hus2⟩ : ∃ l, l = us ++ [x] := ⟨_, rfl⟩
    have hus2l : us2.length = us.length + 1 := by rw [hus2]; simp
    rw [← hus2] at hcl
    refine AWp.rg [] [.c [] [.ptr 1001 0, .ptr 1002 0] [(1000, .blk 102 [.d (.str s), .d (.int (A : Int)), .d (.int ee)]), (1001, .blk 36 [.d (.str fg), .arr 500 0 us.length, .d (.int 0), .d (.int 0), .d (.str ByteArray.empty), .d (.str ByteArray.empty), .lit (.slice none 0 0), .lit (.slice none 0 0), .lit (.slice none 0 0)]), (1002, .blk 100 [.ptr 1000 0]), (500, .arr 9 1 (us.map strR))] (.tuple []) [(1000, .blk 102 [.d (.str s), .d (.int (c2 : Int)), .d (.int e2)]), (1001, .blk 36 [.d (.str fg), .arr 500 0 us2.length, .d (.int 0), .d (.int 0), .d (.str ByteArray.empty), .d (.str ByteArray.empty), .lit (.slice none 0 0), .lit (.slice none 0 0), .lit (.slice none 0 0)]), (1002, .blk 100 [.ptr 1000 0]), (500, .arr 9 1 (us2.map strR))]] ?_ (hr := by conv => lhs; simp [q1t, q2])
    refine ⟨⟨(us2, c2, e2, m), ⟨by rw [hmm, hus2]; simp, hs2, by dsimp only; omega, by dsimp only; rcases hon with h | h <;> omega, by dsimp only; rcases ho2 with h | h; exact .inl h; right; rcases hon with h | h <;> omega⟩⟩, by dsimp only; omega, ?_⟩
    dsimp only
    exact Le.sub (by simp) (by simp)
  refine AWp.rg [] [] ?_ (hr := by conv => lhs; simp [q1])
  refine AWp.cn ?_
  refine AWp.exit ?_
  rw [manyP_err q1] at hmm
  have hwt := cs_want s rbr c ee hcl hs
  generalize wantS s rbr (c, ee) = p3 at hmm hwt
  obtain ⟨A3, e3⟩ := p3
  dsimp only at hmm hwt
  rw [List.append_nil] at hmm
  rw [hmm]
  dsimp only
  refine AWp.rg [] [.c [] [.ptr 1000 0, .d (.str (⟨#[41]⟩))] [(1000, .blk 102 [.d (.str s), .d (.int (c : Int)), .d (.int ee)])] (.tuple []) [(1000, .blk 102 [.d (.str s), .d (.int (A3 : Int)), .d (.int e3)])]] ?_ (hr := by conv => lhs; simp [q1])
  try dsimp only [thenQ, blockQ]
  apply endC.normal
  · rfl
  · conv => lhs; simp [resAV, Tryd.results93]
  · rfl
  · simp [moEnd, memGet]
end Go.Proofs.YtapiiklnnkkdlaaDoor

namespace Go.Proofs.YtapiiklnnkkdlaaDoor
open Go.RowKit
attribute [local simp] runD mkRc ldOf stOf stOk ldArg noAny dstOk guardOk opEff opEff0 effOp pureOp callOp zEff evA constAV scalAV Value.oneCell' frGet memGet startAS frOf isGoCall idIn AS.after nextR opnIds objIds AV.ids idsL AObj.ids frNo memNo opnAny isAny mkVal rdCells wrCells fldAddr idxAddr srcRows litRows toD1 toDs setAt sliceAV optI partAV bldAV fillAV binAV binI AV.cells callEff calleeOf frKill memKill AV.kill AObj.kill AV.has AV.hasL Op.operands Call.operands keepF keepM viewIds cChk renOf moGet moWs moQ cEff moLike moHave AV.ren renL AObj.ren AObj.like kept startC moMem AV.frz frz1 frzL frSub memSub frzs AS.frz frFrz memFrz AObj.frz takeMap takeLen bleF Nat.ble_eq memAny objAny mapOp D.keyOk rowAV valRow extOp wrapOp phO frLow memLow memLow1 objLow memEmpty Low LowL
set_option linter.unusedVariables false
set_option linter.unusedSimpArgs false
set_option maxRecDepth 20000 in
set_option maxHeartbeats 16000000 in
theorem cs_pT1_at (s : ByteArray) (tk tn : Int) (ta : ByteArray) (dp : Int) (us us2 : List Tm) (a c2 : Nat) (e e2 : Int) (xk xn : Int) (xa xb : ByteArray) (xvs : List ByteArray) (xxs : List Tm) (xcs : List Cs) (hd0 : 0 ≤ dp) (hd1 : dp ≤ 24) (hul : us.length ≤ 1600)
    (hus2l : us2.length = us.length + 1) (hset : us.map Tm.row ++ [[.int xk, .int xn, .str xa, .str xb, strsD xvs, .sl (xxs.map Tm.row), .sl (xcs.map Cs.row)]] = us2.map Tm.row)
    (hx : CSpec Tryd.prog 95 [.ptr 1000 0, .d (.int (dp + 1))] [(1000, pO s a e)] (tmAV (.mk xk xn xa xb xvs xxs xcs)) [(1000, pO s c2 e2)]) :
    CSpec Tryd.prog 138 [.ptr 1001 0, .ptr 1002 0, .ptr 1003 0] [(1000, .blk 102 [.d (.str s), .d (.int (a : Int)), .d (.int e)]), (1001, .blk 34 [.d (.int tk), .d (.int tn), .d (.str ta), .d (.str ByteArray.empty), .lit (.slice none 0 0), .arr 500 0 us.length, .lit (.slice none 0 0)]), (1002, .blk 100 [.ptr 1000 0]), (1003, .blk 3 [.d (.int dp)]), (500, .arr 34 7 (us.map Tm.row))] (.tuple []) [(1000, .blk 102 [.d (.str s), .d (.int (c2 : Int)), .d (.int e2)]), (1001, .blk 34 [.d (.int tk), .d (.int tn), .d (.str ta), .d (.str ByteArray.empty), .lit (.slice none 0 0), .arr 500 0 us2.length, .lit (.slice none 0 0)]), (1002, .blk 100 [.ptr 1000 0]), (1003, .blk 3 [.d (.int dp)]), (500, .arr 34 7 (us2.map Tm.row))] := by
  unfold pO at *
  refine CSpec.of Tryd.func138 rfl rfl (Nat.le_of_ble_eq_true rfl) ?_
  show AWp _ _ (endC _ Tryd.f138 _ _) (startC 14 _ _)
  refine AWp.dw [] [.c [] [.ptr 1000 0, .d (.int (dp + 1))] [(1000, .blk 102 [.d (.str s), .d (.int (a : Int)), .d (.int e)])] (.agg [.d (.int xk), .d (.int xn), .d (.str xa), .d (.str xb), .d (strsD xvs), .d (.sl (xxs.map Tm.row)), .d (.sl (xcs.map Cs.row))]) [(1000, .blk 102 [.d (.str s), .d (.int (c2 : Int)), .d (.int e2)])]] mixed ?_ (hr := by conv => lhs; simp [Tm.row, Tm.rows_eq, Cs.rows_eq, hset])
  try dsimp only [thenQ, blockQ]
  apply endC.normal
  · rfl
  · conv => lhs; simp [resAV, Tryd.results138]
  · rfl
  · simp [moEnd, memGet, hus2l]
theorem cs_pT1 (s : ByteArray) (tk tn : Int) (ta : ByteArray) (dp : Int) (n : Nat) (us : List Tm) (a : Nat) (e : Int) (hd0 : 0 ≤ dp) (hd1 : dp ≤ 24) (hul : us.length ≤ 1600)
    (hx : CSpec Tryd.prog 95 [.ptr 1000 0, .d (.int (dp + 1))] [(1000, pO s a e)] (tmAV (Tm.ps false s n (a, e)).1) [(1000, pO s (Tm.ps false s n (a, e)).2.1 (Tm.ps false s n (a, e)).2.2)]) :
    CSpec Tryd.prog 138 [.ptr 1001 0, .ptr 1002 0, .ptr 1003 0] [(1000, .blk 102 [.d (.str s), .d (.int (a : Int)), .d (.int e)]), (1001, .blk 34 [.d (.int tk), .d (.int tn), .d (.str ta), .d (.str ByteArray.empty), .lit (.slice none 0 0), .arr 500 0 us.length, .lit (.slice none 0 0)]), (1002, .blk 100 [.ptr 1000 0]), (1003, .blk 3 [.d (.int dp)]), (500, .arr 34 7 (us.map Tm.row))] (.tuple []) [(1000, .blk 102 [.d (.str s), .d (.int (((Tm.ps false s n (a, e)).2.1 : Int))), .d (.int ((Tm.ps false s n (a, e)).2.2))]), (1001, .blk 34 [.d (.int tk), .d (.int tn), .d (.str ta), .d (.str ByteArray.empty), .lit (.slice none 0 0), .arr 500 0 ((us ++ [(Tm.ps false s n (a, e)).1]).length), .lit (.slice none 0 0)]), (1002, .blk 100 [.ptr 1000 0]), (1003, .blk 3 [.d (.int dp)]), (500, .arr 34 7 ((us ++ [(Tm.ps false s n (a, e)).1]).map Tm.row))] := by
  generalize Tm.ps false s n (a, e) = o at *
  obtain ⟨⟨xk, xn, xa, xb, xvs, xxs, xcs⟩, c2, e2⟩ := o
  dsimp only at *
  exact cs_pT1_at s tk tn ta dp us _ a c2 e e2 xk xn xa xb xvs xxs xcs hd0 hd1 hul (by simp) (by simp [Tm.row, Tm.rows_eq, Cs.rows_eq]) hx
set_option maxRecDepth 20000 in
set_option maxHeartbeats 16000000 in
theorem cs_pV_at (s : ByteArray) (tg : Int) (us : List ByteArray) (x : ByteArray) (a c2 : Nat) (e e2 : Int) (hul : us.length ≤ 1600)
    (hx : CSpec Tryd.prog 92 [.ptr 1000 0] [(1000, pO s a e)] (.d (.str x)) [(1000, pO s c2 e2)]) :
    CSpec Tryd.prog 141 [.ptr 1001 0, .ptr 1002 0] [(1000, .blk 102 [.d (.str s), .d (.int (a : Int)), .d (.int e)]), (1001, .blk 40 [.d (.int tg), .arr 500 0 us.length, .d (.int 0), .d (.int 0), .d (.str ByteArray.empty), .d (.str ByteArray.empty), .lit (.slice none 0 0), .lit (.slice none 0 0), .lit (.slice none 0 0)]), (1002, .blk 100 [.ptr 1000 0]), (500, .arr 9 1 (us.map strR))] (.tuple []) [(1000, .blk 102 [.d (.str s), .d (.int (c2 : Int)), .d (.int e2)]), (1001, .blk 40 [.d (.int tg), .arr 500 0 ((us ++ [x]).length), .d (.int 0), .d (.int 0), .d (.str ByteArray.empty), .d (.str ByteArray.empty), .lit (.slice none 0 0), .lit (.slice none 0 0), .lit (.slice none 0 0)]), (1002, .blk 100 [.ptr 1000 0]), (500, .arr 9 1 ((us ++ [x]).map strR))] := by
  unfold pO at *
  refine CSpec.of Tryd.func141 rfl rfl (Nat.le_of_ble_eq_true rfl) ?_
  show AWp _ _ (endC _ Tryd.f141 _ _) (startC 9 _ _)
  refine AWp.dw [] [.c [] [.ptr 1000 0] [(1000, .blk 102 [.d (.str s), .d (.int (a : Int)), .d (.int e)])] (.d (.str x)) [(1000, .blk 102 [.d (.str s), .d (.int (c2 : Int)), .d (.int e2)])]] mixed ?_
  try dsimp only [thenQ, blockQ]
  apply endC.normal
  · rfl
  · conv => lhs; simp [resAV, Tryd.results141]
  · rfl
  · simp [moEnd, memGet]
theorem cs_pV (s : ByteArray) (tg : Int) (us : List ByteArray) (a : Nat) (e : Int) (hul : us.length ≤ 1600) (ha : a ≤ s.size) (hs : s.size ≤ 1500) :
    CSpec Tryd.prog 141 [.ptr 1001 0, .ptr 1002 0] [(1000, .blk 102 [.d (.str s), .d (.int (a : Int)), .d (.int e)]), (1001, .blk 40 [.d (.int tg), .arr 500 0 us.length, .d (.int 0), .d (.int 0), .d (.str ByteArray.empty), .d (.str ByteArray.empty), .lit (.slice none 0 0), .lit (.slice none 0 0), .lit (.slice none 0 0)]), (1002, .blk 100 [.ptr 1000 0]), (500, .arr 9 1 (us.map strR))] (.tuple []) [(1000, .blk 102 [.d (.str s), .d (.int (((namP s (a, e)).2.1 : Int))), .d (.int ((namP s (a, e)).2.2))]), (1001, .blk 40 [.d (.int tg), .arr 500 0 ((us ++ [(namP s (a, e)).1]).length), .d (.int 0), .d (.int 0), .d (.str ByteArray.empty), .d (.str ByteArray.empty), .lit (.slice none 0 0), .lit (.slice none 0 0), .lit (.slice none 0 0)]), (1002, .blk 100 [.ptr 1000 0]), (500, .arr 9 1 ((us ++ [(namP s (a, e)).1]).map strR))] := by
  have hx := cs_pname s a e ha hs
  generalize namP s (a, e) = o at *
  obtain ⟨x, c2, e2⟩ := o
  dsimp only at *
  exact cs_pV_at s tg us x a c2 e e2 hul hx
set_option maxRecDepth 20000 in
set_option maxHeartbeats 16000000 in
theorem cs_pP_at (s : ByteArray) (fg : ByteArray) (us : List ByteArray) (x : ByteArray) (a c2 : Nat) (e e2 : Int) (hul : us.length ≤ 1600)
    (hx : CSpec Tryd.prog 92 [.ptr 1000 0] [(1000, pO s a e)] (.d (.str x)) [(1000, pO s c2 e2)]) :
    CSpec Tryd.prog 94 [.ptr 1001 0, .ptr 1002 0] [(1000, .blk 102 [.d (.str s), .d (.int (a : Int)), .d (.int e)]), (1001, .blk 36 [.d (.str fg), .arr 500 0 us.length, .d (.int 0), .d (.int 0), .d (.str ByteArray.empty), .d (.str ByteArray.empty), .lit (.slice none 0 0), .lit (.slice none 0 0), .lit (.slice none 0 0)]), (1002, .blk 100 [.ptr 1000 0]), (500, .arr 9 1 (us.map strR))] (.tuple []) [(1000, .blk 102 [.d (.str s), .d (.int (c2 : Int)), .d (.int e2)]), (1001, .blk 36 [.d (.str fg), .arr 500 0 ((us ++ [x]).length), .d (.int 0), .d (.int 0), .d (.str ByteArray.empty), .d (.str ByteArray.empty), .lit (.slice none 0 0), .lit (.slice none 0 0), .lit (.slice none 0 0)]), (1002, .blk 100 [.ptr 1000 0]), (500, .arr 9 1 ((us ++ [x]).map strR))] := by
  unfold pO at *
  refine CSpec.of Tryd.func94 rfl rfl (Nat.le_of_ble_eq_true rfl) ?_
  show AWp _ _ (endC _ Tryd.f94 _ _) (startC 9 _ _)
  refine AWp.dw [] [.c [] [.ptr 1000 0] [(1000, .blk 102 [.d (.str s), .d (.int (a : Int)), .d (.int e)])] (.d (.str x)) [(1000, .blk 102 [.d (.str s), .d (.int (c2 : Int)), .d (.int e2)])]] mixed ?_
  try dsimp only [thenQ, blockQ]
  apply endC.normal
  · rfl
  · conv => lhs; simp [resAV, Tryd.results94]
  · rfl
  · simp [moEnd, memGet]
theorem cs_pP (s : ByteArray) (fg : ByteArray) (us : List ByteArray) (a : Nat) (e : Int) (hul : us.length ≤ 1600) (ha : a ≤ s.size) (hs : s.size ≤ 1500) :
    CSpec Tryd.prog 94 [.ptr 1001 0, .ptr 1002 0] [(1000, .blk 102 [.d (.str s), .d (.int (a : Int)), .d (.int e)]), (1001, .blk 36 [.d (.str fg), .arr 500 0 us.length, .d (.int 0), .d (.int 0), .d (.str ByteArray.empty), .d (.str ByteArray.empty), .lit (.slice none 0 0), .lit (.slice none 0 0), .lit (.slice none 0 0)]), (1002, .blk 100 [.ptr 1000 0]), (500, .arr 9 1 (us.map strR))] (.tuple []) [(1000, .blk 102 [.d (.str s), .d (.int (((namP s (a, e)).2.1 : Int))), .d (.int ((namP s (a, e)).2.2))]), (1001, .blk 36 [.d (.str fg), .arr 500 0 ((us ++ [(namP s (a, e)).1]).length), .d (.int 0), .d (.int 0), .d (.str ByteArray.empty), .d (.str ByteArray.empty), .lit (.slice none 0 0), .lit (.slice none 0 0), .lit (.slice none 0 0)]), (1002, .blk 100 [.ptr 1000 0]), (500, .arr 9 1 ((us ++ [(namP s (a, e)).1]).map strR))] := by
  have hx := cs_pname s a e ha hs
  generalize namP s (a, e) = o at *
  obtain ⟨x, c2, e2⟩ := o
  dsimp only at *
  exact cs_pP_at s fg us x a c2 e e2 hul hx
set_option maxRecDepth 20000 in
set_option maxHeartbeats 16000000 in
theorem cs_pT2_at (s : ByteArray) (tk tn : Int) (ta : ByteArray) (dp : Int) (xs : List Tm) (us us2 : List Cs) (a A1 A2 A3 A4 A5 A6 : Nat) (e e1 e2 e3 e4 e5 e6 tg : Int) (ws : List ByteArray) (xk xn : Int) (xa xb : ByteArray) (xvs : List ByteArray) (xxs : List Tm) (xcs : List Cs) (hd0 : 0 ≤ dp) (hd1 : dp ≤ 24) (hul : us.length ≤ 1600)
    (hus2l : us2.length = us.length + 1) (hset : us.map Cs.row ++ [[.int tg, strsD ws, .int xk, .int xn, .str xa, .str xb, strsD xvs, .sl (xxs.map Tm.row), .sl (xcs.map Cs.row)]] = us2.map Cs.row)
    (hw1 : CSpec Tryd.prog 91 [.ptr 1000 0, .d (.str ⟨#[40]⟩)] [(1000, pO s a e)] (.tuple []) [(1000, pO s A1 e1)])
    (hw2 : CSpec Tryd.prog 139 [.ptr 1000 0] [(1000, pO s A1 e1)] (.d (.int tg)) [(1000, pO s A2 e2)])
    (hw3 : CSpec Tryd.prog 91 [.ptr 1000 0, .d (.str ⟨#[40]⟩)] [(1000, pO s A2 e2)] (.tuple []) [(1000, pO s A3 e3)])
    (hw4 : CSpec Tryd.prog 93 [.ptr 1000 0, .clo 141 [.ptr 1001 0, .ptr 1002 0]] [(1000, .blk 102 [.d (.str s), .d (.int (A3 : Int)), .d (.int e3)]), (1001, .blk 40 [.d (.int tg), .arr 500 0 (([] : List ByteArray).length), .d (.int 0), .d (.int 0), .d (.str ByteArray.empty), .d (.str ByteArray.empty), .lit (.slice none 0 0), .lit (.slice none 0 0), .lit (.slice none 0 0)]), (1002, .blk 100 [.ptr 1000 0]), (500, .arr 9 1 (([] : List ByteArray).map strR))] (.tuple []) [(1000, .blk 102 [.d (.str s), .d (.int (A4 : Int)), .d (.int e4)]), (1001, .blk 40 [.d (.int tg), .arr 500 0 ws.length, .d (.int 0), .d (.int 0), .d (.str ByteArray.empty), .d (.str ByteArray.empty), .lit (.slice none 0 0), .lit (.slice none 0 0), .lit (.slice none 0 0)]), (1002, .blk 100 [.ptr 1000 0]), (500, .arr 9 1 (ws.map strR))])
    (hx : CSpec Tryd.prog 95 [.ptr 1000 0, .d (.int (dp + 1))] [(1000, pO s A4 e4)] (tmAV (.mk xk xn xa xb xvs xxs xcs)) [(1000, pO s A5 e5)])
    (hw6 : CSpec Tryd.prog 91 [.ptr 1000 0, .d (.str ⟨#[41]⟩)] [(1000, pO s A5 e5)] (.tuple []) [(1000, pO s A6 e6)]) :
    CSpec Tryd.prog 140 [.ptr 1002 0, .ptr 1003 0, .ptr 1001 0] [(1000, .blk 102 [.d (.str s), .d (.int (a : Int)), .d (.int e)]), (1001, .blk 34 [.d (.int tk), .d (.int tn), .d (.str ta), .d (.str ByteArray.empty), .lit (.slice none 0 0), .arr 500 0 xs.length, .arr 501 0 us.length]), (1002, .blk 100 [.ptr 1000 0]), (1003, .blk 3 [.d (.int dp)]), (500, .arr 34 7 (xs.map Tm.row)), (501, .arr 40 9 (us.map Cs.row))] (.tuple []) [(1000, .blk 102 [.d (.str s), .d (.int (A6 : Int)), .d (.int e6)]), (1001, .blk 34 [.d (.int tk), .d (.int tn), .d (.str ta), .d (.str ByteArray.empty), .lit (.slice none 0 0), .arr 500 0 xs.length, .arr 501 0 us2.length]), (1002, .blk 100 [.ptr 1000 0]), (1003, .blk 3 [.d (.int dp)]), (500, .arr 34 7 (xs.map Tm.row)), (501, .arr 40 9 (us2.map Cs.row))] := by
  unfold pO at *
  refine CSpec.of Tryd.func140 rfl rfl (Nat.le_of_ble_eq_true rfl) ?_
  show AWp _ _ (endC _ Tryd.f140 _ _) (startC 29 _ _)
  refine AWp.rg [] [.c [] [.ptr 1000 0, .d (.str (⟨#[40]⟩))] [(1000, .blk 102 [.d (.str s), .d (.int (a : Int)), .d (.int e)])] (.tuple []) [(1000, .blk 102 [.d (.str s), .d (.int (A1 : Int)), .d (.int e1)])]] ?_ (hr := by conv => lhs; simp [Tm.row, Tm.rows_eq, Cs.rows_eq, hset])
  refine AWp.rg [] [.c [] [.ptr 1000 0] [(1000, .blk 102 [.d (.str s), .d (.int (A1 : Int)), .d (.int e1)])] (.d (.int tg)) [(1000, .blk 102 [.d (.str s), .d (.int (A2 : Int)), .d (.int e2)])]] ?_ (hr := by conv => lhs; simp [Tm.row, Tm.rows_eq, Cs.rows_eq, hset])
  refine AWp.rg [] [.c [] [.ptr 1000 0, .d (.str (⟨#[40]⟩))] [(1000, .blk 102 [.d (.str s), .d (.int (A2 : Int)), .d (.int e2)])] (.tuple []) [(1000, .blk 102 [.d (.str s), .d (.int (A3 : Int)), .d (.int e3)])]] ?_ (hr := by conv => lhs; simp [Tm.row, Tm.rows_eq, Cs.rows_eq, hset])
  repeat (first | refine AWp.seq ?_ | refine AWp.block ?_)
  refine AWp.le (Le.low [400] [] (fr := [(0, .ptr 1002 0), (1, .ptr 1003 0), (2, .ptr 1001 0), (3, .ptr 3 0)]) (mem := [(3, some (.blk 40 [.d (.int tg), .arr 400 0 0, .d (.int 0), .d (.int 0), .d (.str ByteArray.empty), .d (.str ByteArray.empty), .lit (.slice none 0 0), .lit (.slice none 0 0), .lit (.slice none 0 0)])), (400, some (.arr 9 1 ([]))), (500, some (.arr 34 7 (xs.map Tm.row))), (501, some (.arr 40 9 (us.map Cs.row))), (1000, some (.blk 102 [.d (.str s), .d (.int (A3 : Int)), .d (.int e3)])), (1001, some (.blk 34 [.d (.int tk), .d (.int tn), .d (.str ta), .d (.str ByteArray.empty), .lit (.slice none 0 0), .arr 500 0 xs.length, .arr 501 0 us.length])), (1002, some (.blk 100 [.ptr 1000 0])), (1003, some (.blk 3 [.d (.int dp)]))]) rfl (by simp) (by simp)) ?_
  refine AWp.rg [] [.c [(1001, 3), (500, 400)] [.ptr 1000 0, .clo 141 [.ptr 1001 0, .ptr 1002 0]] [(1000, .blk 102 [.d (.str s), .d (.int (A3 : Int)), .d (.int e3)]), (1001, .blk 40 [.d (.int tg), .arr 500 0 0, .d (.int 0), .d (.int 0), .d (.str ByteArray.empty), .d (.str ByteArray.empty), .lit (.slice none 0 0), .lit (.slice none 0 0), .lit (.slice none 0 0)]), (1002, .blk 100 [.ptr 1000 0]), (500, .arr 9 1 ([]))] (.tuple []) [(1000, .blk 102 [.d (.str s), .d (.int (A4 : Int)), .d (.int e4)]), (1001, .blk 40 [.d (.int tg), .arr 500 0 ws.length, .d (.int 0), .d (.int 0), .d (.str ByteArray.empty), .d (.str ByteArray.empty), .lit (.slice none 0 0), .lit (.slice none 0 0), .lit (.slice none 0 0)]), (1002, .blk 100 [.ptr 1000 0]), (500, .arr 9 1 (ws.map strR))]] ?_ (hr := by conv => lhs; simp [Tm.row, Tm.rows_eq, Cs.rows_eq, hset])
  refine AWp.rg [] [.c [] [.ptr 1000 0, .d (.int (dp + 1))] [(1000, .blk 102 [.d (.str s), .d (.int (A4 : Int)), .d (.int e4)])] (.agg [.d (.int xk), .d (.int xn), .d (.str xa), .d (.str xb), .d (strsD xvs), .d (.sl (xxs.map Tm.row)), .d (.sl (xcs.map Cs.row))]) [(1000, .blk 102 [.d (.str s), .d (.int (A5 : Int)), .d (.int e5)])]] ?_ (hr := by conv => lhs; simp [Tm.row, Tm.rows_eq, Cs.rows_eq, hset])
  refine AWp.rg [] [.c [] [.ptr 1000 0, .d (.str (⟨#[41]⟩))] [(1000, .blk 102 [.d (.str s), .d (.int (A5 : Int)), .d (.int e5)])] (.tuple []) [(1000, .blk 102 [.d (.str s), .d (.int (A6 : Int)), .d (.int e6)])]] ?_ (hr := by conv => lhs; simp [Tm.row, Tm.rows_eq, Cs.rows_eq, hset])
  apply AWp.frzs [400]
  · conv => lhs; simp
  refine AWp.dw [] [] mixed ?_ (hr := by conv => lhs; simp [Tm.row, Tm.rows_eq, Cs.rows_eq, hset])
  try dsimp only [thenQ, blockQ]
  apply endC.normal
  · rfl
  · conv => lhs; simp [resAV, Tryd.results140]
  · rfl
  · simp [moEnd, memGet, hus2l]
theorem cs_pT2 (s : ByteArray) (tk tn : Int) (ta : ByteArray) (dp : Int) (n : Nat) (xs : List Tm) (us : List Cs) (a : Nat) (e : Int) (hd0 : 0 ≤ dp) (hd1 : dp ≤ 24) (hul : us.length ≤ 1600) (ha : a ≤ s.size) (hs : s.size ≤ 1500)
    (hx : ∀ (a : Nat) (e : Int), a ≤ s.size → CSpec Tryd.prog 95 [.ptr 1000 0, .d (.int (dp + 1))] [(1000, pO s a e)] (tmAV (Tm.ps false s n (a, e)).1) [(1000, pO s (Tm.ps false s n (a, e)).2.1 (Tm.ps false s n (a, e)).2.2)]) :
    CSpec Tryd.prog 140 [.ptr 1002 0, .ptr 1003 0, .ptr 1001 0] [(1000, .blk 102 [.d (.str s), .d (.int (a : Int)), .d (.int e)]), (1001, .blk 34 [.d (.int tk), .d (.int tn), .d (.str ta), .d (.str ByteArray.empty), .lit (.slice none 0 0), .arr 500 0 xs.length, .arr 501 0 us.length]), (1002, .blk 100 [.ptr 1000 0]), (1003, .blk 3 [.d (.int dp)]), (500, .arr 34 7 (xs.map Tm.row)), (501, .arr 40 9 (us.map Cs.row))] (.tuple []) [(1000, .blk 102 [.d (.str s), .d (.int (((casP false s (Tm.ps false s n) (a, e)).2.1 : Int))), .d (.int ((casP false s (Tm.ps false s n) (a, e)).2.2))]), (1001, .blk 34 [.d (.int tk), .d (.int tn), .d (.str ta), .d (.str ByteArray.empty), .lit (.slice none 0 0), .arr 500 0 xs.length, .arr 501 0 ((us ++ [(casP false s (Tm.ps false s n) (a, e)).1]).length)]), (1002, .blk 100 [.ptr 1000 0]), (1003, .blk 3 [.d (.int dp)]), (500, .arr 34 7 (xs.map Tm.row)), (501, .arr 40 9 ((us ++ [(casP false s (Tm.ps false s n) (a, e)).1]).map Cs.row))] := by
  unfold casP
  dsimp only
  have hw1 := cs_want s lbr a e ha hs
  have h1 := wantS_adv (s := s) (w := lbr) (p := (a, e)) ha
  generalize wantS s lbr (a, e) = p1 at *
  obtain ⟨A1, e1⟩ := p1
  have h1s := h1.sz
  dsimp only at h1s hw1
  have hw2 := cs_tag s A1 e1 h1s hs
  have h2 := tagP_adv (g := false) (s := s) (p := (A1, e1)) h1s
  generalize tagP false s (A1, e1) = t at *
  obtain ⟨tg, A2, e2⟩ := t
  have h2s := h2.sz
  dsimp only at h2s hw2 ⊢
  have hw3 := cs_want s lbr A2 e2 h2s hs
  have h3 := wantS_adv (s := s) (w := lbr) (p := (A2, e2)) h2s
  generalize wantS s lbr (A2, e2) = p3 at *
  obtain ⟨A3, e3⟩ := p3
  have h3s := h3.sz
  dsimp only at h3s hw3
  have hw4 := cs_manyV s tg A3 e3 h3s hs (fun us a e hul ha => cs_pV s tg us a e hul ha hs)
  have h4 := (manyP_adv (fun p h => namP_adv (s := s) h) (s.size + 2) (A3, e3) h3s).1
  generalize manyP s (namP s) (s.size + 2) (A3, e3) = W at *
  obtain ⟨ws, A4, e4⟩ := W
  have h4s := h4.sz
  dsimp only at h4s hw4 ⊢
  have hx5 := hx A4 e4 h4s
  have h5 := ps_adv (g := false) (s := s) n (A4, e4) h4s
  generalize Tm.ps false s n (A4, e4) = Y at *
  obtain ⟨⟨xk, xn, xa, xb, xvs, xxs, xcs⟩, A5, e5⟩ := Y
  have h5s := h5.sz
  dsimp only at h5s hx5 ⊢
  have hw6 := cs_want s rbr A5 e5 h5s hs
  generalize wantS s rbr (A5, e5) = p6 at *
  obtain ⟨A6, e6⟩ := p6
  dsimp only at hw6 ⊢
  exact cs_pT2_at s tk tn ta dp xs us _ a A1 A2 A3 A4 A5 A6 e e1 e2 e3 e4 e5 e6 tg ws xk xn xa xb xvs xxs xcs hd0 hd1 hul (by simp) (by simp [Cs.row, Tm.row, Tm.rows_eq, Cs.rows_eq]) hw1 hw2 hw3 hw4 hx5 hw6
end Go.Proofs.YtapiiklnnkkdlaaDoor
