import Derived.Test.YtapiiklnnkkdlaaDoorNameB
import Derived.Test.YtapiiklnnkkdlaaDoorFreeD
/- xcref1.Wrong, by the abstract machine. -/
namespace Go.Proofs.YtapiiklnnkkdlaaDoor
open Go.RowKit
attribute [local simp] runD mkRc ldOf stOf stOk ldArg noAny dstOk guardOk opEff opEff0 effOp pureOp callOp zEff evA constAV scalAV Value.oneCell' frGet memGet startAS frOf isGoCall idIn AS.after nextR opnIds objIds AV.ids idsL AObj.ids frNo memNo opnAny isAny mkVal rdCells wrCells fldAddr idxAddr srcRows litRows toD1 toDs setAt sliceAV optI partAV bldAV fillAV binAV binI AV.cells callEff calleeOf frKill memKill AV.kill AObj.kill AV.has AV.hasL Op.operands Call.operands keepF keepM viewIds cChk renOf moGet moWs moQ cEff moLike moHave AV.ren renL AObj.ren AObj.like kept startC moMem AV.frz frz1 frzL frSub memSub frzs AS.frz frFrz memFrz AObj.frz takeMap takeLen bleF Nat.ble_eq memAny objAny mapOp D.keyOk rowAV valRow extOp wrapOp phO
set_option linter.unusedVariables false
set_option linter.unusedSimpArgs false
def arD (f : Arity) : List (D × List D) := f.map fun x => (.str x.1, [.int x.2])
theorem arD_get (f : Arity) (s : ByteArray) : D.aget (.str s) (arD f) = (f.get s).map fun n => [.int n] := by
  unfold arD Arity.get
  induction f with
  | nil => simp [D.aget]
  | cons x r ih =>
    simp only [List.map_cons, List.find?_cons]
    by_cases h : x.1 = s
    · simp [D.aget, D.keq, h]
    · have h' : ¬ s = x.1 := fun e => h e.symm
      simp only [h, decide_false]
      rw [← ih]
      simp [D.aget, D.keq, h]
theorem Tm.Ok.names {k n : Int} {a b : ByteArray} {vs : List ByteArray} {xs : List Tm} {cs : List Cs} (h : (Tm.mk k n a b vs xs cs).Ok) : ∀ {t : Int} {ws : List ByteArray} {x : Tm}, Cs.mk t ws x ∈ cs → ∀ s ∈ ws, s.size ≤ 140737488355328 :=
  fun hm => (h.case hm).sizes
def csObj (g : Int) (ws : List ByteArray) (k n : Int) (a b : ByteArray) (vs : List ByteArray) (xs : List Tm) (cs : List Cs) : Option AObj := some (.blk 40 (.d (.int g) :: .d (strsD ws) :: tmCells k n a b vs xs cs))
abbrev wrObj (f : Arity) : AObj := fnsObj (arD f)
set_option maxRecDepth 20000 in
set_option maxHeartbeats 16000000 in
theorem cs_Wrong_at (f : Arity) : ∀ (N : Nat) (t : Tm) (names : List ByteArray) (deep : Int), t.sz < N → t.Ok → 0 ≤ deep → deep ≤ 25 → (names.length : Int) ≤ 1048576 + 8 * deep →
    CSpec Tryd.prog 56 [.mp 1000, tmAV t, strsAV names, .d (.int deep)] [(1000, wrObj f)] (.d (.int (t.wrong f names deep))) [(1000, wrObj f)] := by
  intro N
  induction N with
  | zero => intro t _ _ h; omega
  | succ N ih =>
  intro t names deep hN hO hd0 hd1 hnl
  obtain ⟨k, n, a, b, vs, xs, cs⟩ := t
  obtain ⟨o1, o2, o3, o4, o5⟩ := hO.vars
  refine CSpec.of Tryd.func56 rfl rfl (Nat.le_of_ble_eq_true rfl) ?_
  show AWp _ _ (endC _ Tryd.f56 _ _) (startC 235 _ _)
  repeat (first | refine AWp.seq ?_ | refine AWp.block ?_)
  apply AWp.reg [] []
  · conv => lhs; simp
  · trivial
  by_cases hdeep : 24 < deep
  · repeat (first | refine AWp.seq ?_ | refine AWp.block ?_)
    apply AWp.reg [] []
    · conv => lhs; simp [hdeep]
    · trivial
    refine AWp.cy ?_
    repeat (first | refine AWp.seq ?_ | refine AWp.block ?_)
    apply AWp.reg [] []
    · conv => lhs; simp
    · trivial
    refine AWp.ret ?_
    try dsimp only [thenQ, blockQ]
    apply endC.ret
    · rfl
    · conv => lhs; simp [resAV, Tryd.results56]
    · simp only [Tm.wrong, if_pos hdeep]; rfl
    · simp [moEnd, memGet]
  repeat (first | refine AWp.seq ?_ | refine AWp.block ?_)
  apply AWp.reg [] []
  · conv => lhs; simp [hdeep]
  · trivial
  refine AWp.cn ?_
  refine AWp.skip ?_
  by_cases hk1 : k < 1
  · repeat (first | refine AWp.seq ?_ | refine AWp.block ?_)
    apply AWp.reg [] []
    · conv => lhs; simp [hk1]
    · trivial
    refine AWp.cy ?_
    repeat (first | refine AWp.seq ?_ | refine AWp.block ?_)
    apply AWp.reg [] []
    · conv => lhs; simp
    · trivial
    refine AWp.ret ?_
    try dsimp only [thenQ, blockQ]
    apply endC.ret
    · rfl
    · conv => lhs; simp [resAV, Tryd.results56]
    · simp only [Tm.wrong, if_neg hdeep, if_pos (Or.inl hk1 : k < 1 ∨ 7 < k)]; rfl
    · simp [moEnd, memGet]
  by_cases hk7 : 7 < k
  · repeat (first | refine AWp.seq ?_ | refine AWp.block ?_)
    apply AWp.reg [] []
    · conv => lhs; simp [hk1, hk7]
    · trivial
    refine AWp.cy ?_
    repeat (first | refine AWp.seq ?_ | refine AWp.block ?_)
    apply AWp.reg [] []
    · conv => lhs; simp
    · trivial
    refine AWp.ret ?_
    try dsimp only [thenQ, blockQ]
    apply endC.ret
    · rfl
    · conv => lhs; simp [resAV, Tryd.results56]
    · simp only [Tm.wrong, if_neg hdeep, if_pos (Or.inr hk7 : k < 1 ∨ 7 < k)]; rfl
    · simp [moEnd, memGet]
  repeat (first | refine AWp.seq ?_ | refine AWp.block ?_)
  apply AWp.reg [] []
  · conv => lhs; simp [hk1, hk7]
  · trivial
  refine AWp.cn ?_
  refine AWp.skip ?_
  have hkk : ¬ (k < 1 ∨ 7 < k) := by omega
  have hk : k = 1 ∨ k = 2 ∨ k = 3 ∨ k = 4 ∨ k = 5 ∨ k = 6 ∨ k = 7 := by omega
  obtain ⟨A, hA⟩ : ∃ A : Int, (xs.length : Int) = A := ⟨_, rfl⟩
  obtain ⟨C, hC⟩ : ∃ C : Int, (cs.length : Int) = C := ⟨_, rfl⟩
  obtain ⟨na, hN0⟩ : ∃ na : Nat, xs.length = na := ⟨_, rfl⟩
  obtain ⟨nc, hC0⟩ : ∃ nc : Nat, cs.length = nc := ⟨_, rfl⟩
  have hA1 : A = na := by omega
  have hC1 : C = nc := by omega
  by_cases hm : manyB k na nc = true
  · rcases hk with rfl | rfl | rfl | rfl | rfl | rfl | rfl
    · refine AWp.rg [] [] ?_
      by_cases c1 : 0 < A
      · refine AWp.rg [] [] ?_ (hr := by conv => lhs; simp [tmObj, hA, hC, c1])
        refine AWp.cy ?_
        refine AWp.rg [] [] ?_
        refine AWp.ret ?_
        try dsimp only [thenQ, blockQ]
        apply endC.ret
        · rfl
        · conv => lhs; simp [resAV, Tryd.results56]
        · simp only [Tm.wrong, if_neg hdeep, if_neg hkk, hN0, hC0, if_pos hm]; rfl
        · simp [moEnd, memGet]
      by_cases c2 : A = 0
      · have c3 : 0 < C := by simp [manyB] at hm; omega
        refine AWp.rg [] [] ?_ (hr := by conv => lhs; simp [tmObj, hA, hC, c1, c2, c3])
        refine AWp.cy ?_
        refine AWp.rg [] [] ?_
        refine AWp.ret ?_
        try dsimp only [thenQ, blockQ]
        apply endC.ret
        · rfl
        · conv => lhs; simp [resAV, Tryd.results56]
        · simp only [Tm.wrong, if_neg hdeep, if_neg hkk, hN0, hC0, if_pos hm]; rfl
        · simp [moEnd, memGet]
      refine AWp.rg [] [] ?_ (hr := by conv => lhs; simp [tmObj, hA, hC, c1, c2])
      refine AWp.cy ?_
      refine AWp.rg [] [] ?_
      refine AWp.ret ?_
      try dsimp only [thenQ, blockQ]
      apply endC.ret
      · rfl
      · conv => lhs; simp [resAV, Tryd.results56]
      · simp only [Tm.wrong, if_neg hdeep, if_neg hkk, hN0, hC0, if_pos hm]; rfl
      · simp [moEnd, memGet]
    · refine AWp.rg [] [] ?_
      by_cases c1 : 0 < A
      · refine AWp.rg [] [] ?_ (hr := by conv => lhs; simp [tmObj, hA, hC, c1])
        refine AWp.cy ?_
        refine AWp.rg [] [] ?_
        refine AWp.ret ?_
        try dsimp only [thenQ, blockQ]
        apply endC.ret
        · rfl
        · conv => lhs; simp [resAV, Tryd.results56]
        · simp only [Tm.wrong, if_neg hdeep, if_neg hkk, hN0, hC0, if_pos hm]; rfl
        · simp [moEnd, memGet]
      by_cases c2 : A = 0
      · have c3 : 0 < C := by simp [manyB] at hm; omega
        refine AWp.rg [] [] ?_ (hr := by conv => lhs; simp [tmObj, hA, hC, c1, c2, c3])
        refine AWp.cy ?_
        refine AWp.rg [] [] ?_
        refine AWp.ret ?_
        try dsimp only [thenQ, blockQ]
        apply endC.ret
        · rfl
        · conv => lhs; simp [resAV, Tryd.results56]
        · simp only [Tm.wrong, if_neg hdeep, if_neg hkk, hN0, hC0, if_pos hm]; rfl
        · simp [moEnd, memGet]
      refine AWp.rg [] [] ?_ (hr := by conv => lhs; simp [tmObj, hA, hC, c1, c2])
      refine AWp.cy ?_
      refine AWp.rg [] [] ?_
      refine AWp.ret ?_
      try dsimp only [thenQ, blockQ]
      apply endC.ret
      · rfl
      · conv => lhs; simp [resAV, Tryd.results56]
      · simp only [Tm.wrong, if_neg hdeep, if_neg hkk, hN0, hC0, if_pos hm]; rfl
      · simp [moEnd, memGet]
    · refine AWp.rg [] [] ?_
      by_cases c1 : 6 < A
      · refine AWp.rg [] [] ?_ (hr := by conv => lhs; simp [tmObj, hA, hC, c1])
        refine AWp.cy ?_
        refine AWp.rg [] [] ?_
        refine AWp.ret ?_
        try dsimp only [thenQ, blockQ]
        apply endC.ret
        · rfl
        · conv => lhs; simp [resAV, Tryd.results56]
        · simp only [Tm.wrong, if_neg hdeep, if_neg hkk, hN0, hC0, if_pos hm]; rfl
        · simp [moEnd, memGet]
      have c3 : 0 < C := by simp [manyB] at hm; omega
      refine AWp.rg [] [] ?_ (hr := by conv => lhs; simp [tmObj, hA, hC, c1, c3])
      refine AWp.cy ?_
      refine AWp.rg [] [] ?_
      refine AWp.ret ?_
      try dsimp only [thenQ, blockQ]
      apply endC.ret
      · rfl
      · conv => lhs; simp [resAV, Tryd.results56]
      · simp only [Tm.wrong, if_neg hdeep, if_neg hkk, hN0, hC0, if_pos hm]; rfl
      · simp [moEnd, memGet]
    · refine AWp.rg [] [] ?_
      by_cases c1 : 6 < A
      · refine AWp.rg [] [] ?_ (hr := by conv => lhs; simp [tmObj, hA, hC, c1])
        refine AWp.cy ?_
        refine AWp.rg [] [] ?_
        refine AWp.ret ?_
        try dsimp only [thenQ, blockQ]
        apply endC.ret
        · rfl
        · conv => lhs; simp [resAV, Tryd.results56]
        · simp only [Tm.wrong, if_neg hdeep, if_neg hkk, hN0, hC0, if_pos hm]; rfl
        · simp [moEnd, memGet]
      have c3 : 0 < C := by simp [manyB] at hm; omega
      refine AWp.rg [] [] ?_ (hr := by conv => lhs; simp [tmObj, hA, hC, c1, c3])
      refine AWp.cy ?_
      refine AWp.rg [] [] ?_
      refine AWp.ret ?_
      try dsimp only [thenQ, blockQ]
      apply endC.ret
      · rfl
      · conv => lhs; simp [resAV, Tryd.results56]
      · simp only [Tm.wrong, if_neg hdeep, if_neg hkk, hN0, hC0, if_pos hm]; rfl
      · simp [moEnd, memGet]
    · refine AWp.rg [] [] ?_
      by_cases c1 : 2 < A
      · refine AWp.rg [] [] ?_ (hr := by conv => lhs; simp [tmObj, hA, hC, c1])
        refine AWp.cy ?_
        refine AWp.rg [] [] ?_
        refine AWp.ret ?_
        try dsimp only [thenQ, blockQ]
        apply endC.ret
        · rfl
        · conv => lhs; simp [resAV, Tryd.results56]
        · simp only [Tm.wrong, if_neg hdeep, if_neg hkk, hN0, hC0, if_pos hm]; rfl
        · simp [moEnd, memGet]
      by_cases c2 : A = 2
      · have c3 : 0 < C := by simp [manyB] at hm; omega
        refine AWp.rg [] [] ?_ (hr := by conv => lhs; simp [tmObj, hA, hC, c1, c2, c3])
        refine AWp.cy ?_
        refine AWp.rg [] [] ?_
        refine AWp.ret ?_
        try dsimp only [thenQ, blockQ]
        apply endC.ret
        · rfl
        · conv => lhs; simp [resAV, Tryd.results56]
        · simp only [Tm.wrong, if_neg hdeep, if_neg hkk, hN0, hC0, if_pos hm]; rfl
        · simp [moEnd, memGet]
      refine AWp.rg [] [] ?_ (hr := by conv => lhs; simp [tmObj, hA, hC, c1, c2])
      refine AWp.cy ?_
      refine AWp.rg [] [] ?_
      refine AWp.ret ?_
      try dsimp only [thenQ, blockQ]
      apply endC.ret
      · rfl
      · conv => lhs; simp [resAV, Tryd.results56]
      · simp only [Tm.wrong, if_neg hdeep, if_neg hkk, hN0, hC0, if_pos hm]; rfl
      · simp [moEnd, memGet]
    · refine AWp.rg [] [] ?_
      by_cases c1 : 2 < A
      · refine AWp.rg [] [] ?_ (hr := by conv => lhs; simp [tmObj, hA, hC, c1])
        refine AWp.cy ?_
        refine AWp.rg [] [] ?_
        refine AWp.ret ?_
        try dsimp only [thenQ, blockQ]
        apply endC.ret
        · rfl
        · conv => lhs; simp [resAV, Tryd.results56]
        · simp only [Tm.wrong, if_neg hdeep, if_neg hkk, hN0, hC0, if_pos hm]; rfl
        · simp [moEnd, memGet]
      by_cases c2 : A = 2
      · have c3 : 0 < C := by simp [manyB] at hm; omega
        refine AWp.rg [] [] ?_ (hr := by conv => lhs; simp [tmObj, hA, hC, c1, c2, c3])
        refine AWp.cy ?_
        refine AWp.rg [] [] ?_
        refine AWp.ret ?_
        try dsimp only [thenQ, blockQ]
        apply endC.ret
        · rfl
        · conv => lhs; simp [resAV, Tryd.results56]
        · simp only [Tm.wrong, if_neg hdeep, if_neg hkk, hN0, hC0, if_pos hm]; rfl
        · simp [moEnd, memGet]
      refine AWp.rg [] [] ?_ (hr := by conv => lhs; simp [tmObj, hA, hC, c1, c2])
      refine AWp.cy ?_
      refine AWp.rg [] [] ?_
      refine AWp.ret ?_
      try dsimp only [thenQ, blockQ]
      apply endC.ret
      · rfl
      · conv => lhs; simp [resAV, Tryd.results56]
      · simp only [Tm.wrong, if_neg hdeep, if_neg hkk, hN0, hC0, if_pos hm]; rfl
      · simp [moEnd, memGet]
    · refine AWp.rg [] [] ?_
      by_cases c1 : 1 < A
      · refine AWp.rg [] [] ?_ (hr := by conv => lhs; simp [tmObj, hA, hC, c1])
        refine AWp.cy ?_
        refine AWp.rg [] [] ?_
        refine AWp.ret ?_
        try dsimp only [thenQ, blockQ]
        apply endC.ret
        · rfl
        · conv => lhs; simp [resAV, Tryd.results56]
        · simp only [Tm.wrong, if_neg hdeep, if_neg hkk, hN0, hC0, if_pos hm]; rfl
        · simp [moEnd, memGet]
      have c2 : ¬ A = 1 := by simp [manyB] at hm; omega
      refine AWp.rg [] [] ?_ (hr := by conv => lhs; simp [tmObj, hA, hC, c1, c2])
      refine AWp.cy ?_
      refine AWp.rg [] [] ?_
      refine AWp.ret ?_
      try dsimp only [thenQ, blockQ]
      apply endC.ret
      · rfl
      · conv => lhs; simp [resAV, Tryd.results56]
      · simp only [Tm.wrong, if_neg hdeep, if_neg hkk, hN0, hC0, if_pos hm]; rfl
      · simp [moEnd, memGet]
  refine AWp.seqJ2 ⟨235, [(0, .mp 1000), (2, strsAV names), (3, .d (.int deep)), (5, .ptr 5 0)], [(5, tmObj k n a b vs xs cs), (1000, some (wrObj f))]⟩ ?_ (fun W hW => ?_)
  rotate_left
  · rcases hk with rfl | rfl | rfl | rfl | rfl | rfl | rfl
    · have c1 : ¬ 0 < A := by simp [manyB] at hm; omega
      have c2 : A = 0 := by simp [manyB] at hm; omega
      have c3 : ¬ 0 < C := by simp [manyB] at hm; omega
      refine AWp.rg [] [] ?_
      refine AWp.rg [] [] ?_ (hr := by conv => lhs; simp [tmObj, hA, hC, c1, c2, c3])
      refine AWp.cn ?_
      refine AWp.skip ?_
      exact hW _ (Le.sub (by simp) (by simp [tmObj]))
    · have c1 : ¬ 0 < A := by simp [manyB] at hm; omega
      have c2 : A = 0 := by simp [manyB] at hm; omega
      have c3 : ¬ 0 < C := by simp [manyB] at hm; omega
      refine AWp.rg [] [] ?_
      refine AWp.rg [] [] ?_ (hr := by conv => lhs; simp [tmObj, hA, hC, c1, c2, c3])
      refine AWp.cn ?_
      refine AWp.skip ?_
      exact hW _ (Le.sub (by simp) (by simp [tmObj]))
    · have c1 : ¬ 6 < A := by simp [manyB] at hm; omega
      have c3 : ¬ 0 < C := by simp [manyB] at hm; omega
      refine AWp.rg [] [] ?_
      refine AWp.rg [] [] ?_ (hr := by conv => lhs; simp [tmObj, hA, hC, c1, c3])
      refine AWp.cn ?_
      refine AWp.skip ?_
      exact hW _ (Le.sub (by simp) (by simp [tmObj]))
    · have c1 : ¬ 6 < A := by simp [manyB] at hm; omega
      have c3 : ¬ 0 < C := by simp [manyB] at hm; omega
      refine AWp.rg [] [] ?_
      refine AWp.rg [] [] ?_ (hr := by conv => lhs; simp [tmObj, hA, hC, c1, c3])
      refine AWp.cn ?_
      refine AWp.skip ?_
      exact hW _ (Le.sub (by simp) (by simp [tmObj]))
    · have c1 : ¬ 2 < A := by simp [manyB] at hm; omega
      have c2 : A = 2 := by simp [manyB] at hm; omega
      have c3 : ¬ 0 < C := by simp [manyB] at hm; omega
      refine AWp.rg [] [] ?_
      refine AWp.rg [] [] ?_ (hr := by conv => lhs; simp [tmObj, hA, hC, c1, c2, c3])
      refine AWp.cn ?_
      refine AWp.skip ?_
      exact hW _ (Le.sub (by simp) (by simp [tmObj]))
    · have c1 : ¬ 2 < A := by simp [manyB] at hm; omega
      have c2 : A = 2 := by simp [manyB] at hm; omega
      have c3 : ¬ 0 < C := by simp [manyB] at hm; omega
      refine AWp.rg [] [] ?_
      refine AWp.rg [] [] ?_ (hr := by conv => lhs; simp [tmObj, hA, hC, c1, c2, c3])
      refine AWp.cn ?_
      refine AWp.skip ?_
      exact hW _ (Le.sub (by simp) (by simp [tmObj]))
    · have c1 : ¬ 1 < A := by simp [manyB] at hm; omega
      have c2 : A = 1 := by simp [manyB] at hm; omega
      refine AWp.rg [] [] ?_
      refine AWp.rg [] [] ?_ (hr := by conv => lhs; simp [tmObj, hA, hC, c1, c2])
      refine AWp.cn ?_
      refine AWp.skip ?_
      exact hW _ (Le.sub (by simp) (by simp [tmObj]))
  have hm' : manyB k na nc = false := by simpa using hm
  have hna : na ≤ 6 := by
    rcases hk with rfl | rfl | rfl | rfl | rfl | rfl | rfl <;> simp [manyB] at hm' <;> omega
  have hHas := sp_Has names a (by omega)
  have hNm := sp_Name a (by omega)
  by_cases hh : headE f k n a names na = 0
  rotate_left
  · rcases hk with rfl | rfl | rfl | rfl | rfl | rfl | rfl
    · refine AWp.rg [] [] ?_ (hr := by conv => lhs; simp [tmObj])
      refine AWp.rg [] [] ?_ (hr := by conv => lhs; simp [tmObj])
      refine AWp.cy ?_
      have hv : hasB names a = false := by simp [headE] at hh; exact hh
      rw [hv] at hHas
      repeat (first | refine AWp.seq ?_ | refine AWp.block ?_)
      apply AWp.reg [] [.p (fun _ => .d (.bool false)) none]
      · conv => lhs; simp [tmObj]
      · exact hHas
      refine AWp.cy ?_
      refine AWp.rg [] [] ?_
      refine AWp.ret ?_
      try dsimp only [thenQ, blockQ]
      apply endC.ret
      · rfl
      · conv => lhs; simp [resAV, Tryd.results56]
      · simp only [Tm.wrong, if_neg hdeep, if_neg hkk, hN0, hC0, if_neg hm, headE, hv]; rfl
      · simp [moEnd, memGet]
    · refine AWp.rg [] [] ?_ (hr := by conv => lhs; simp [tmObj])
      refine AWp.rg [] [] ?_ (hr := by conv => lhs; simp [tmObj])
      refine AWp.cn ?_
      refine AWp.rg [] [] ?_ (hr := by conv => lhs; simp [tmObj])
      refine AWp.cy ?_
      by_cases c1 : n < -2147483648
      · refine AWp.rg [] [] ?_ (hr := by conv => lhs; simp [tmObj, c1])
        refine AWp.cy ?_
        refine AWp.rg [] [] ?_
        refine AWp.ret ?_
        try dsimp only [thenQ, blockQ]
        apply endC.ret
        · rfl
        · conv => lhs; simp [resAV, Tryd.results56]
        · simp only [Tm.wrong, if_neg hdeep, if_neg hkk, hN0, hC0, if_neg hm, headE, c1]; rfl
        · simp [moEnd, memGet]
      have c2 : 2147483647 < n := by simp [headE] at hh; omega
      refine AWp.rg [] [] ?_ (hr := by conv => lhs; simp [tmObj, c1, c2])
      refine AWp.cy ?_
      refine AWp.rg [] [] ?_
      refine AWp.ret ?_
      try dsimp only [thenQ, blockQ]
      apply endC.ret
      · rfl
      · conv => lhs; simp [resAV, Tryd.results56]
      · simp only [Tm.wrong, if_neg hdeep, if_neg hkk, hN0, hC0, if_neg hm, headE, c1, c2]; rfl
      · simp [moEnd, memGet]
    · refine AWp.rg [] [] ?_ (hr := by conv => lhs; simp [tmObj])
      refine AWp.rg [] [] ?_ (hr := by conv => lhs; simp [tmObj])
      refine AWp.cn ?_
      refine AWp.rg [] [] ?_ (hr := by conv => lhs; simp [tmObj])
      refine AWp.cn ?_
      refine AWp.rg [] [] ?_ (hr := by conv => lhs; simp [tmObj])
      refine AWp.cy ?_
      by_cases c1 : n < 0
      · refine AWp.rg [] [] ?_ (hr := by conv => lhs; simp [tmObj, c1])
        refine AWp.cy ?_
        refine AWp.rg [] [] ?_
        refine AWp.ret ?_
        try dsimp only [thenQ, blockQ]
        apply endC.ret
        · rfl
        · conv => lhs; simp [resAV, Tryd.results56]
        · simp only [Tm.wrong, if_neg hdeep, if_neg hkk, hN0, hC0, if_neg hm, headE, c1]; rfl
        · simp [moEnd, memGet]
      have c2 : 9 < n := by simp [headE] at hh; omega
      refine AWp.rg [] [] ?_ (hr := by conv => lhs; simp [tmObj, c1, c2])
      refine AWp.cy ?_
      refine AWp.rg [] [] ?_
      refine AWp.ret ?_
      try dsimp only [thenQ, blockQ]
      apply endC.ret
      · rfl
      · conv => lhs; simp [resAV, Tryd.results56]
      · simp only [Tm.wrong, if_neg hdeep, if_neg hkk, hN0, hC0, if_neg hm, headE, c1, c2]; rfl
      · simp [moEnd, memGet]
    · refine AWp.rg [] [] ?_ (hr := by conv => lhs; simp [tmObj])
      refine AWp.rg [] [] ?_ (hr := by conv => lhs; simp [tmObj])
      refine AWp.cn ?_
      refine AWp.rg [] [] ?_ (hr := by conv => lhs; simp [tmObj])
      refine AWp.cn ?_
      refine AWp.rg [] [] ?_ (hr := by conv => lhs; simp [tmObj])
      refine AWp.cn ?_
      refine AWp.rg [] [] ?_ (hr := by conv => lhs; simp [tmObj])
      refine AWp.cn ?_
      refine AWp.rg [] [] ?_ (hr := by conv => lhs; simp [tmObj])
      refine AWp.cn ?_
      refine AWp.rg [] [] ?_ (hr := by conv => lhs; simp [tmObj])
      refine AWp.cy ?_
      cases hf : f.get a with
      | none =>
        refine AWp.rg [] [] ?_ (hr := by conv => lhs; simp [tmObj, arD_get, hf])
        refine AWp.rg [] [] ?_
        refine AWp.cy ?_
        refine AWp.rg [] [] ?_
        refine AWp.ret ?_
        try dsimp only [thenQ, blockQ]
        apply endC.ret
        · rfl
        · conv => lhs; simp [resAV, Tryd.results56]
        · simp only [Tm.wrong, if_neg hdeep, if_neg hkk, hN0, hC0, if_neg hm, headE, hf]; rfl
        · simp [moEnd, memGet]
      | some w =>
        have c1 : ¬ w = na := by simp [headE, hf] at hh; exact hh
        have c1i : ¬ (w : Int) = A := by omega
        refine AWp.rg [] [] ?_ (hr := by conv => lhs; simp [tmObj, arD_get, hf])
        refine AWp.rg [] [] ?_
        refine AWp.cn ?_
        refine AWp.skip ?_
        refine AWp.rg [] [] ?_ (hr := by conv => lhs; simp [tmObj, hA, c1, c1i])
        refine AWp.cy ?_
        refine AWp.rg [] [] ?_
        refine AWp.ret ?_
        try dsimp only [thenQ, blockQ]
        apply endC.ret
        · rfl
        · conv => lhs; simp [resAV, Tryd.results56]
        · simp only [Tm.wrong, if_neg hdeep, if_neg hkk, hN0, hC0, if_neg hm, headE, hf, c1, c1i]; rfl
        · simp [moEnd, memGet]
    · refine AWp.rg [] [] ?_ (hr := by conv => lhs; simp [tmObj])
      refine AWp.rg [] [] ?_ (hr := by conv => lhs; simp [tmObj])
      refine AWp.cn ?_
      refine AWp.rg [] [] ?_ (hr := by conv => lhs; simp [tmObj])
      refine AWp.cn ?_
      refine AWp.rg [] [] ?_ (hr := by conv => lhs; simp [tmObj])
      refine AWp.cn ?_
      refine AWp.rg [] [] ?_ (hr := by conv => lhs; simp [tmObj])
      refine AWp.cy ?_
      by_cases c1 : n < 1
      · refine AWp.rg [] [] ?_ (hr := by conv => lhs; simp [tmObj, c1])
        refine AWp.cy ?_
        refine AWp.rg [] [] ?_
        refine AWp.ret ?_
        try dsimp only [thenQ, blockQ]
        apply endC.ret
        · rfl
        · conv => lhs; simp [resAV, Tryd.results56]
        · simp only [Tm.wrong, if_neg hdeep, if_neg hkk, hN0, hC0, if_neg hm, headE, c1]; rfl
        · simp [moEnd, memGet]
      have c2 : 5 < n := by simp [headE] at hh; omega
      refine AWp.rg [] [] ?_ (hr := by conv => lhs; simp [tmObj, c1, c2])
      refine AWp.cy ?_
      refine AWp.rg [] [] ?_
      refine AWp.ret ?_
      try dsimp only [thenQ, blockQ]
      apply endC.ret
      · rfl
      · conv => lhs; simp [resAV, Tryd.results56]
      · simp only [Tm.wrong, if_neg hdeep, if_neg hkk, hN0, hC0, if_neg hm, headE, c1, c2]; rfl
      · simp [moEnd, memGet]
    · refine AWp.rg [] [] ?_ (hr := by conv => lhs; simp [tmObj])
      refine AWp.rg [] [] ?_ (hr := by conv => lhs; simp [tmObj])
      refine AWp.cn ?_
      refine AWp.rg [] [] ?_ (hr := by conv => lhs; simp [tmObj])
      refine AWp.cn ?_
      refine AWp.rg [] [] ?_ (hr := by conv => lhs; simp [tmObj])
      refine AWp.cn ?_
      refine AWp.rg [] [] ?_ (hr := by conv => lhs; simp [tmObj])
      refine AWp.cn ?_
      refine AWp.rg [] [] ?_ (hr := by conv => lhs; simp [tmObj])
      refine AWp.cy ?_
      have hv : nameB a = false := by simp [headE] at hh; exact hh
      rw [hv] at hNm
      repeat (first | refine AWp.seq ?_ | refine AWp.block ?_)
      apply AWp.reg [] [.p (fun _ => .d (.bool false)) none]
      · conv => lhs; simp [tmObj]
      · exact hNm
      refine AWp.cy ?_
      refine AWp.rg [] [] ?_
      refine AWp.ret ?_
      try dsimp only [thenQ, blockQ]
      apply endC.ret
      · rfl
      · conv => lhs; simp [resAV, Tryd.results56]
      · simp only [Tm.wrong, if_neg hdeep, if_neg hkk, hN0, hC0, if_neg hm, headE, hv]; rfl
      · simp [moEnd, memGet]
    · simp [headE] at hh
  refine AWp.seqJ ⟨235, [(0, .mp 1000), (2, strsAV names), (3, .d (.int deep)), (5, .ptr 5 0)], [(5, tmObj k n a b vs xs cs), (1000, some (wrObj f))]⟩ ?_ (fun W hW => ?_)
  rotate_left
  · rcases hk with rfl | rfl | rfl | rfl | rfl | rfl | rfl
    · refine AWp.rg [] [] ?_ (hr := by conv => lhs; simp [tmObj])
      refine AWp.rg [] [] ?_ (hr := by conv => lhs; simp [tmObj])
      refine AWp.cy ?_
      have hv : hasB names a = true := by simp [headE] at hh; exact hh
      rw [hv] at hHas
      repeat (first | refine AWp.seq ?_ | refine AWp.block ?_)
      apply AWp.reg [] [.p (fun _ => .d (.bool true)) none]
      · conv => lhs; simp [tmObj]
      · exact hHas
      refine AWp.cn ?_
      refine AWp.skip ?_
      exact hW _ (Le.sub (by simp) (by simp [tmObj]))
    · refine AWp.rg [] [] ?_ (hr := by conv => lhs; simp [tmObj])
      refine AWp.rg [] [] ?_ (hr := by conv => lhs; simp [tmObj])
      refine AWp.cn ?_
      refine AWp.rg [] [] ?_ (hr := by conv => lhs; simp [tmObj])
      refine AWp.cy ?_
      have c1 : ¬ n < -2147483648 := by simp [headE] at hh; omega
      have c2 : ¬ 2147483647 < n := by simp [headE] at hh; omega
      refine AWp.rg [] [] ?_ (hr := by conv => lhs; simp [tmObj, c1, c2])
      refine AWp.cn ?_
      refine AWp.skip ?_
      exact hW _ (Le.sub (by simp) (by simp [tmObj]))
    · refine AWp.rg [] [] ?_ (hr := by conv => lhs; simp [tmObj])
      refine AWp.rg [] [] ?_ (hr := by conv => lhs; simp [tmObj])
      refine AWp.cn ?_
      refine AWp.rg [] [] ?_ (hr := by conv => lhs; simp [tmObj])
      refine AWp.cn ?_
      refine AWp.rg [] [] ?_ (hr := by conv => lhs; simp [tmObj])
      refine AWp.cy ?_
      have c1 : ¬ n < 0 := by simp [headE] at hh; omega
      have c2 : ¬ 9 < n := by simp [headE] at hh; omega
      refine AWp.rg [] [] ?_ (hr := by conv => lhs; simp [tmObj, c1, c2])
      refine AWp.cn ?_
      refine AWp.skip ?_
      exact hW _ (Le.sub (by simp) (by simp [tmObj]))
    · refine AWp.rg [] [] ?_ (hr := by conv => lhs; simp [tmObj])
      refine AWp.rg [] [] ?_ (hr := by conv => lhs; simp [tmObj])
      refine AWp.cn ?_
      refine AWp.rg [] [] ?_ (hr := by conv => lhs; simp [tmObj])
      refine AWp.cn ?_
      refine AWp.rg [] [] ?_ (hr := by conv => lhs; simp [tmObj])
      refine AWp.cn ?_
      refine AWp.rg [] [] ?_ (hr := by conv => lhs; simp [tmObj])
      refine AWp.cn ?_
      refine AWp.rg [] [] ?_ (hr := by conv => lhs; simp [tmObj])
      refine AWp.cn ?_
      refine AWp.rg [] [] ?_ (hr := by conv => lhs; simp [tmObj])
      refine AWp.cy ?_
      obtain ⟨w, hw, hwa⟩ : ∃ w, f.get a = some w ∧ w = na := by
        simp only [headE] at hh
        cases hf : f.get a with
        | none => simp [hf] at hh
        | some w => exact ⟨w, rfl, by simp [hf] at hh; exact hh⟩
      have c1 : (w : Int) = A := by omega
      refine AWp.rg [] [] ?_ (hr := by conv => lhs; simp [tmObj, arD_get, hw])
      refine AWp.rg [] [] ?_
      refine AWp.cn ?_
      refine AWp.skip ?_
      refine AWp.rg [] [] ?_ (hr := by conv => lhs; simp [tmObj, hA, c1])
      refine AWp.cn ?_
      refine AWp.skip ?_
      exact hW _ (Le.sub (by simp) (by simp [tmObj]))
    · refine AWp.rg [] [] ?_ (hr := by conv => lhs; simp [tmObj])
      refine AWp.rg [] [] ?_ (hr := by conv => lhs; simp [tmObj])
      refine AWp.cn ?_
      refine AWp.rg [] [] ?_ (hr := by conv => lhs; simp [tmObj])
      refine AWp.cn ?_
      refine AWp.rg [] [] ?_ (hr := by conv => lhs; simp [tmObj])
      refine AWp.cn ?_
      refine AWp.rg [] [] ?_ (hr := by conv => lhs; simp [tmObj])
      refine AWp.cy ?_
      have c1 : ¬ n < 1 := by simp [headE] at hh; omega
      have c2 : ¬ 5 < n := by simp [headE] at hh; omega
      refine AWp.rg [] [] ?_ (hr := by conv => lhs; simp [tmObj, c1, c2])
      refine AWp.cn ?_
      refine AWp.skip ?_
      exact hW _ (Le.sub (by simp) (by simp [tmObj]))
    · refine AWp.rg [] [] ?_ (hr := by conv => lhs; simp [tmObj])
      refine AWp.rg [] [] ?_ (hr := by conv => lhs; simp [tmObj])
      refine AWp.cn ?_
      refine AWp.rg [] [] ?_ (hr := by conv => lhs; simp [tmObj])
      refine AWp.cn ?_
      refine AWp.rg [] [] ?_ (hr := by conv => lhs; simp [tmObj])
      refine AWp.cn ?_
      refine AWp.rg [] [] ?_ (hr := by conv => lhs; simp [tmObj])
      refine AWp.cn ?_
      refine AWp.rg [] [] ?_ (hr := by conv => lhs; simp [tmObj])
      refine AWp.cy ?_
      have hv : nameB a = true := by simp [headE] at hh; exact hh
      rw [hv] at hNm
      repeat (first | refine AWp.seq ?_ | refine AWp.block ?_)
      apply AWp.reg [] [.p (fun _ => .d (.bool true)) none]
      · conv => lhs; simp [tmObj]
      · exact hNm
      refine AWp.cn ?_
      refine AWp.skip ?_
      exact hW _ (Le.sub (by simp) (by simp [tmObj]))
    · refine AWp.rg [] [] ?_ (hr := by conv => lhs; simp [tmObj])
      refine AWp.rg [] [] ?_ (hr := by conv => lhs; simp [tmObj])
      refine AWp.cn ?_
      refine AWp.rg [] [] ?_ (hr := by conv => lhs; simp [tmObj])
      refine AWp.cn ?_
      refine AWp.rg [] [] ?_ (hr := by conv => lhs; simp [tmObj])
      refine AWp.cn ?_
      refine AWp.rg [] [] ?_ (hr := by conv => lhs; simp [tmObj])
      refine AWp.cn ?_
      refine AWp.rg [] [] ?_ (hr := by conv => lhs; simp [tmObj])
      refine AWp.cn ?_
      refine AWp.rg [] [] ?_ (hr := by conv => lhs; simp [tmObj])
      refine AWp.cn ?_
      refine AWp.skip ?_
      exact hW _ (Le.sub (by simp) (by simp [tmObj]))
  repeat (first | refine AWp.seq ?_ | refine AWp.block ?_)
  apply AWp.reg [] []
  · conv => lhs; simp [tmObj]
  · trivial
  repeat (first | refine AWp.seq ?_ | refine AWp.block ?_)
  refine AWp.loop (σ := fun u : {i : Nat // i ≤ xs.length ∧ Tm.wrongs f k a names deep 0 xs = Tm.wrongs f k a names deep i (xs.drop i)} => ⟨235, [(0, .mp 1000), (2, strsAV names), (3, .d (.int deep)), (5, .ptr 5 0), (131, .d (.sl (xs.map Tm.row))), (132, .d (.int xs.length)), (133, .d (.int u.1))], [(5, tmObj k n a b vs xs cs), (1000, some (wrObj f))]⟩)
    (μ := fun u => xs.length - u.1) ⟨0, Nat.zero_le _, rfl⟩ (Le.sub (by simp) (by simp [tmObj])) (fun ⟨i, hi, hw⟩ => ?_)
  dsimp only
  repeat (first | refine AWp.seq ?_ | refine AWp.block ?_)
  apply AWp.reg [] []
  · conv => lhs; simp
  · trivial
  repeat (first | refine AWp.seq ?_ | refine AWp.block ?_)
  refine AWp.cond rfl (fun h => ?_) (fun h => ?_)
  · have hi1 : i < xs.length := by have := of_decide_eq_true h; omega
    have h1 : xs[i]? = some xs[i] := List.getElem?_eq_getElem hi1
    have hmem : xs[i] ∈ xs := List.getElem_mem hi1
    have hdr : xs.drop i = xs[i] :: xs.drop (i + 1) := List.drop_eq_getElem_cons hi1
    generalize xs[i] = x at h1 hmem hdr
    obtain ⟨ins, hins⟩ : ∃ ins, ins = if k = 6 ∧ i = 1 then names ++ [a] else names := ⟨_, rfl⟩
    have hil : (ins.length : Int) ≤ 1048576 + 8 * (deep + 1) := by rw [hins]; split <;> (try rw [List.length_append, List.length_singleton]) <;> omega
    have hp := ih x ins (deep + 1) (by have := Tm.sz_arg (k := k) (n := n) (a := a) (b := b) (vs := vs) (cs := cs) hmem; omega) (hO.arg hmem) (by omega) (by omega) hil
    rw [hdr] at hw
    simp only [Tm.wrongs, ← hins] at hw
    generalize x.wrong f ins (deep + 1) = e at hp hw
    obtain ⟨xk, xn, xa, xb, xv, xx, xc⟩ := x
    refine AWp.skip ?_
    refine AWp.rg [] [] ?_ (hr := by conv => lhs; simp [h1, Tm.row, Tm.rows_eq, Cs.rows_eq, tmObj])
    repeat (first | refine AWp.seq ?_ | refine AWp.block ?_)
    apply AWp.reg [] []
    · conv => lhs; simp
    · trivial
    refine AWp.seqJ ⟨235, [(0, .mp 1000), (2, strsAV names), (3, .d (.int deep)), (5, .ptr 5 0), (131, .d (.sl (xs.map Tm.row))), (132, .d (.int xs.length)), (133, .d (.int i)), (13, .ptr 13 0), (14, strsAV ins)], [(5, tmObj k n a b vs xs cs), (13, tmObj xk xn xa xb xv xx xc), (1000, some (wrObj f))]⟩ ?_ (fun W hW => ?_)
    rotate_left
    · by_cases k6 : k = 6
      · subst k6
        by_cases i1 : i = 1
        · subst i1
          rw [if_pos ⟨rfl, rfl⟩] at hins
          subst hins
          repeat (first | refine AWp.seq ?_ | refine AWp.block ?_)
          apply AWp.reg [] []
          · conv => lhs; simp
          · trivial
          refine AWp.cy ?_
          repeat (first | refine AWp.seq ?_ | refine AWp.block ?_)
          apply AWp.draw [6] [] mixed
          · conv => lhs; simp
          · kernel_rfl
          · exact ⟨by simp [maxLen]; omega, by simp [maxLen]; omega⟩
          exact hW _ (Le.sub (by simp [tmObj]; rw [List.take_of_length_le (by simp)]) (by simp [tmObj]))
        · have i1' : ¬ (i : Int) = 1 := by omega
          rw [if_neg (by omega)] at hins
          subst hins
          repeat (first | refine AWp.seq ?_ | refine AWp.block ?_)
          apply AWp.reg [] []
          · conv => lhs; simp [i1, i1']
          · trivial
          refine AWp.cn ?_
          refine AWp.skip ?_
          exact hW _ (Le.sub (by simp [tmObj]) (by simp [tmObj]))
      · rw [if_neg (by omega)] at hins
        subst hins
        repeat (first | refine AWp.seq ?_ | refine AWp.block ?_)
        apply AWp.reg [] []
        · conv => lhs; simp [k6]
        · trivial
        refine AWp.cn ?_
        refine AWp.skip ?_
        exact hW _ (Le.sub (by simp [tmObj]) (by simp [tmObj]))
    repeat (first | refine AWp.seq ?_ | refine AWp.block ?_)
    apply AWp.reg [] [.c [] [.mp 1000, tmAV (.mk xk xn xa xb xv xx xc), strsAV ins, .d (.int (deep + 1))] [(1000, wrObj f)] (.d (.int e)) [(1000, wrObj f)]]
    · conv => lhs; simp [tmObj]
    · exact ⟨by simp [inI]; omega, hp⟩
    by_cases he : e = 0
    · subst he
      simp only [ne_eq, not_true_eq_false, if_false] at hw
      repeat (first | refine AWp.seq ?_ | refine AWp.block ?_)
      apply AWp.reg [] []
      · conv => lhs; simp
      · trivial
      refine AWp.cn ?_
      refine AWp.skip ?_
      refine AWp.rg [] [] ?_
      refine ⟨⟨i + 1, hi1, hw⟩, by simp; omega, Le.sub (by simp [tmObj]) (by simp [tmObj])⟩
    · rw [if_pos he] at hw
      repeat (first | refine AWp.seq ?_ | refine AWp.block ?_)
      apply AWp.reg [] []
      · conv => lhs; simp [he]
      · trivial
      refine AWp.cy ?_
      repeat (first | refine AWp.seq ?_ | refine AWp.block ?_)
      apply AWp.reg [] []
      · conv => lhs; simp
      · trivial
      refine AWp.ret ?_
      try dsimp only [thenQ, blockQ]
      apply endC.ret
      · rfl
      · conv => lhs; simp [resAV, Tryd.results56]
      · simp only [Tm.wrong, if_neg hdeep, if_neg hkk, hN0, hC0, if_neg hm, hh, hw, if_pos he, ne_eq, not_true_eq_false, if_false]; rfl
      · simp [moEnd, memGet, tmObj]
  have hi1 : i = xs.length := by have := of_decide_eq_false h; omega
  subst hi1
  rw [List.drop_length] at hw
  simp only [Tm.wrongs] at hw
  clear h
  refine AWp.exit ?_
  by_cases k7 : k = 7
  rotate_left
  · repeat (first | refine AWp.seq ?_ | refine AWp.block ?_)
    apply AWp.reg [] []
    · conv => lhs; simp [k7, tmObj]
    · trivial
    refine AWp.cy ?_
    repeat (first | refine AWp.seq ?_ | refine AWp.block ?_)
    apply AWp.reg [] []
    · conv => lhs; simp
    · trivial
    refine AWp.ret ?_
    try dsimp only [thenQ, blockQ]
    apply endC.ret
    · rfl
    · conv => lhs; simp [resAV, Tryd.results56]
    · simp only [Tm.wrong, if_neg hdeep, if_neg hkk, hN0, hC0, if_neg hm, hh, hw, if_pos k7, ne_eq, not_true_eq_false, if_false]; rfl
    · simp [moEnd, memGet, tmObj]
  subst k7
  repeat (first | refine AWp.seq ?_ | refine AWp.block ?_)
  apply AWp.reg [] []
  · conv => lhs; simp [tmObj]
  · trivial
  refine AWp.cn ?_
  refine AWp.skip ?_
  by_cases c0 : C = 0
  · repeat (first | refine AWp.seq ?_ | refine AWp.block ?_)
    apply AWp.reg [] []
    · conv => lhs; simp [tmObj, hC, c0]
    · trivial
    refine AWp.cy ?_
    repeat (first | refine AWp.seq ?_ | refine AWp.block ?_)
    apply AWp.reg [] []
    · conv => lhs; simp
    · trivial
    refine AWp.ret ?_
    try dsimp only [thenQ, blockQ]
    apply endC.ret
    · rfl
    · conv => lhs; simp [resAV, Tryd.results56]
    · simp only [Tm.wrong, if_neg hdeep, if_neg hkk, hN0, hC0, if_neg hm, hh, hw, if_pos (show nc = 0 ∨ 5 < nc by omega), ne_eq, not_true_eq_false, if_false]; rfl
    · simp [moEnd, memGet, tmObj]
  by_cases c5 : 5 < C
  · repeat (first | refine AWp.seq ?_ | refine AWp.block ?_)
    apply AWp.reg [] []
    · conv => lhs; simp [tmObj, hC, c0, c5]
    · trivial
    refine AWp.cy ?_
    repeat (first | refine AWp.seq ?_ | refine AWp.block ?_)
    apply AWp.reg [] []
    · conv => lhs; simp
    · trivial
    refine AWp.ret ?_
    try dsimp only [thenQ, blockQ]
    apply endC.ret
    · rfl
    · conv => lhs; simp [resAV, Tryd.results56]
    · simp only [Tm.wrong, if_neg hdeep, if_neg hkk, hN0, hC0, if_neg hm, hh, hw, if_pos (show nc = 0 ∨ 5 < nc by omega), ne_eq, not_true_eq_false, if_false]; rfl
    · simp [moEnd, memGet, tmObj]
  repeat (first | refine AWp.seq ?_ | refine AWp.block ?_)
  apply AWp.reg [] []
  · conv => lhs; simp [tmObj, hC, c0, c5]
  · trivial
  refine AWp.cn ?_
  refine AWp.skip ?_
  have hfin : Cs.wrongs f names deep [] cs = Tm.wrong f (.mk 7 n a b vs xs cs) names deep := by
    simp only [Tm.wrong, if_neg hdeep, if_neg hkk, hN0, hC0, if_neg hm, hh, hw, if_neg (show ¬ (nc = 0 ∨ 5 < nc) by omega), ne_eq, not_true_eq_false, if_false]
  repeat (first | refine AWp.seq ?_ | refine AWp.block ?_)
  apply AWp.reg [] []
  · conv => lhs; simp [tmObj]
  · trivial
  repeat (first | refine AWp.seq ?_ | refine AWp.block ?_)
  refine AWp.loop (σ := fun u : {i : Nat // i ≤ cs.length ∧ Cs.wrongs f names deep [] cs = Cs.wrongs f names deep ((cs.take i).map Cs.tag).reverse (cs.drop i)} => ⟨235, [(0, .mp 1000), (2, strsAV names), (3, .d (.int deep)), (5, .ptr 5 0), (177, .d (.sl (cs.map Cs.row))), (178, .d (.int cs.length)), (179, .d (.int u.1))], [(5, tmObj 7 n a b vs xs cs), (1000, some (wrObj f))]⟩)
    (μ := fun u => cs.length - u.1) ⟨0, Nat.zero_le _, rfl⟩ (Le.sub (by simp) (by simp [tmObj])) (fun ⟨i, hi, hw2⟩ => ?_)
  dsimp only
  repeat (first | refine AWp.seq ?_ | refine AWp.block ?_)
  apply AWp.reg [] []
  · conv => lhs; simp
  · trivial
  repeat (first | refine AWp.seq ?_ | refine AWp.block ?_)
  refine AWp.cond rfl (fun h => ?_) (fun h => ?_)
  rotate_left
  · have hi1 : i = cs.length := by have := of_decide_eq_false h; omega
    subst hi1
    rw [List.drop_length] at hw2
    simp only [Cs.wrongs] at hw2
    refine AWp.exit ?_
    repeat (first | refine AWp.seq ?_ | refine AWp.block ?_)
    apply AWp.reg [] []
    · conv => lhs; simp
    · trivial
    refine AWp.ret ?_
    try dsimp only [thenQ, blockQ]
    apply endC.ret
    · rfl
    · conv => lhs; simp [resAV, Tryd.results56]
    · rw [← hfin, hw2]; rfl
    · simp [moEnd, memGet, tmObj]
  have hi1 : i < cs.length := by have := of_decide_eq_true h; omega
  have h1 : cs[i]? = some cs[i] := List.getElem?_eq_getElem hi1
  have hmem : cs[i] ∈ cs := List.getElem_mem hi1
  have hdr : cs.drop i = cs[i] :: cs.drop (i + 1) := List.drop_eq_getElem_cons hi1
  generalize cs[i] = c at h1 hmem hdr
  obtain ⟨g, ws, x⟩ := c
  have hsn : ((cs.take (i + 1)).map Cs.tag).reverse = g :: ((cs.take i).map Cs.tag).reverse := by rw [List.take_add_one, h1]; simp [Cs.tag]
  obtain ⟨oc1, oc2⟩ := (hO.case hmem).body
  have hws := (hO.case hmem).sizes
  rw [hdr] at hw2
  simp only [Cs.wrongs] at hw2
  rw [show (Cs.mk g ws x).tag = g from rfl, ← hsn] at hw2
  obtain ⟨E, hE⟩ : ∃ E, E = Cs.wrongC f names deep ((cs.take i).map Cs.tag).reverse (.mk g ws x) := ⟨_, rfl⟩
  rw [← hE] at hw2
  have hw3 := hw2
  rw [hfin] at hw3
  simp only [Cs.wrongC] at hE
  have hal : ((names ++ ws).length : Int) = names.length + ws.length := by simp
  have hx := fun q : ((names ++ ws).length : Int) ≤ 1048576 + 8 * (deep + 1) => ih x (names ++ ws) (deep + 1) (by have := Tm.sz_case (k := 7) (n := n) (a := a) (b := b) (vs := vs) (xs := xs) hmem; omega) oc1 (by omega) (by omega) q
  generalize x.wrong f (names ++ ws) (deep + 1) = e at hx hE
  have htw := sp_twice ws (by omega)
  have hbd := sp_bad ws (by omega) (fun s hs => by have := hws s hs; omega)
  refine AWp.skip ?_
  obtain ⟨xk, xn, xa, xb, xv, xx, xc⟩ := x
  refine AWp.rg [] [] ?_ (hr := by conv => lhs; simp [h1, Cs.row, Tm.row, Tm.rows_eq, Cs.rows_eq, tmObj])
  by_cases g0 : g < 0
  · rw [if_pos (show g < 0 ∨ 9 < g by omega)] at hE
    repeat (first | refine AWp.seq ?_ | refine AWp.block ?_)
    apply AWp.reg [] []
    · conv => lhs; simp [g0]
    · trivial
    refine AWp.cy ?_
    repeat (first | refine AWp.seq ?_ | refine AWp.block ?_)
    apply AWp.reg [] []
    · conv => lhs; simp
    · trivial
    refine AWp.ret ?_
    try dsimp only [thenQ, blockQ]
    apply endC.ret
    · rfl
    · conv => lhs; simp [resAV, Tryd.results56]
    · rw [hw3, hE]; rfl
    · simp [moEnd, memGet, tmObj]
  by_cases g9 : 9 < g
  · rw [if_pos (show g < 0 ∨ 9 < g by omega)] at hE
    repeat (first | refine AWp.seq ?_ | refine AWp.block ?_)
    apply AWp.reg [] []
    · conv => lhs; simp [g0, g9]
    · trivial
    refine AWp.cy ?_
    repeat (first | refine AWp.seq ?_ | refine AWp.block ?_)
    apply AWp.reg [] []
    · conv => lhs; simp
    · trivial
    refine AWp.ret ?_
    try dsimp only [thenQ, blockQ]
    apply endC.ret
    · rfl
    · conv => lhs; simp [resAV, Tryd.results56]
    · rw [hw3, hE]; rfl
    · simp [moEnd, memGet, tmObj]
  rw [if_neg (show ¬ (g < 0 ∨ 9 < g) by omega)] at hE
  repeat (first | refine AWp.seq ?_ | refine AWp.block ?_)
  apply AWp.reg [] []
  · conv => lhs; simp [g0, g9]
  · trivial
  refine AWp.cn ?_
  refine AWp.skip ?_
  repeat (first | refine AWp.seq ?_ | refine AWp.block ?_)
  apply AWp.reg [] []
  · conv => lhs; simp [tmObj]
  · exact ⟨hi, fun i a _ => Cs.row_len a⟩
  repeat (first | refine AWp.seq ?_ | refine AWp.block ?_)
  refine AWp.loop (σ := fun u : {j : Nat // j ≤ i ∧ ∀ d ∈ cs.take j, d.tag ≠ g} => ⟨235, [(0, .mp 1000), (2, strsAV names), (3, .d (.int deep)), (5, .ptr 5 0), (177, .d (.sl (cs.map Cs.row))), (178, .d (.int cs.length)), (179, .d (.int i)), (17, .ptr 17 0), (195, .d (.sl (List.take i (cs.map Cs.row)))), (196, .d (.int i)), (197, .d (.int u.1))], [(5, tmObj 7 n a b vs xs cs), (17, csObj g ws xk xn xa xb xv xx xc), (1000, some (wrObj f))]⟩)
    (μ := fun u => i - u.1) ⟨0, Nat.zero_le _, by simp⟩ (Le.sub (by simp [Nat.min_eq_left hi]) (by simp [tmObj, csObj])) (fun ⟨j, hj, hj2⟩ => ?_)
  dsimp only
  repeat (first | refine AWp.seq ?_ | refine AWp.block ?_)
  apply AWp.reg [] []
  · conv => lhs; simp
  · trivial
  repeat (first | refine AWp.seq ?_ | refine AWp.block ?_)
  refine AWp.cond rfl (fun h3 => ?_) (fun h3 => ?_)
  · have hj1 : j < i := by have := of_decide_eq_true h3; omega
    have hjl : j < cs.length := by omega
    have k1 : cs[j]? = some cs[j] := List.getElem?_eq_getElem hjl
    have k2 : cs[j] ∈ cs.take i := List.mem_take_iff_getElem.2 ⟨j, by omega, rfl⟩
    generalize cs[j] = d at k1 k2
    obtain ⟨g', ws', y⟩ := d
    obtain ⟨yk, yn, ya, yb, yv, yx, yc⟩ := y
    refine AWp.skip ?_
    refine AWp.rg [] [] ?_ (hr := by conv => lhs; simp [hj1, k1, Cs.row, Tm.row, Tm.rows_eq, Cs.rows_eq, tmObj])
    by_cases hg : g' = g
    · subst hg
      repeat (first | refine AWp.seq ?_ | refine AWp.block ?_)
      apply AWp.reg [] []
      · conv => lhs; simp [csObj]
      · trivial
      refine AWp.cy ?_
      repeat (first | refine AWp.seq ?_ | refine AWp.block ?_)
      apply AWp.reg [] []
      · conv => lhs; simp
      · trivial
      refine AWp.ret ?_
      try dsimp only [thenQ, blockQ]
      apply endC.ret
      · rfl
      · conv => lhs; simp [resAV, Tryd.results56]
      · rw [if_pos (by
          have : (((cs.take i).map Cs.tag).reverse).contains g' = true := by
            rw [List.contains_iff_mem, List.mem_reverse]
            exact List.mem_map.2 ⟨_, k2, rfl⟩
          rw [this]; rfl)] at hE
        rw [hw3, hE]; rfl
      · simp [moEnd, memGet, tmObj]
    · repeat (first | refine AWp.seq ?_ | refine AWp.block ?_)
      apply AWp.reg [] []
      · conv => lhs; simp [hg, csObj]
      · trivial
      refine AWp.cn ?_
      refine AWp.skip ?_
      refine AWp.rg [] [] ?_
      refine ⟨⟨j + 1, by omega, ?_⟩, by simp; omega, Le.sub (by simp [tmObj]) (by simp [tmObj, csObj])⟩
      intro d hd
      rw [List.take_add_one, k1] at hd
      rcases List.mem_append.1 hd with hd | hd
      · exact hj2 d hd
      · simp at hd; subst hd; exact hg
  have hj1 : j = i := by have := of_decide_eq_false h3; omega
  subst hj1
  have hct : (((cs.take j).map Cs.tag).reverse).contains g = false := by
    rw [← Bool.not_eq_true, List.contains_iff_mem, List.mem_reverse]
    intro hmm
    obtain ⟨d, hd, he⟩ := List.mem_map.1 hmm
    exact hj2 d hd he
  rw [hct] at hE
  simp only [Bool.false_or] at hE
  clear h3
  refine AWp.exit ?_
  cases ht : twB ws with
  | true =>
    rw [ht] at htw hE
    repeat (first | refine AWp.seq ?_ | refine AWp.block ?_)
    apply AWp.reg [] [.p (fun _ => .d (.bool true)) none]
    · conv => lhs; simp [csObj]
    · exact htw
    refine AWp.cy ?_
    repeat (first | refine AWp.seq ?_ | refine AWp.block ?_)
    apply AWp.reg [] []
    · conv => lhs; simp
    · trivial
    refine AWp.ret ?_
    try dsimp only [thenQ, blockQ]
    apply endC.ret
    · rfl
    · conv => lhs; simp [resAV, Tryd.results56]
    · rw [hw3, hE]; rfl
    · simp [moEnd, memGet, tmObj]
  | false =>
  rw [ht] at htw hE
  cases hbb : badB ws with
  | true =>
    rw [hbb] at hbd hE
    repeat (first | refine AWp.seq ?_ | refine AWp.block ?_)
    apply AWp.reg [] [.p (fun _ => .d (.bool false)) none, .p (fun _ => .d (.bool true)) none]
    · conv => lhs; simp [csObj]
    · exact ⟨htw, hbd⟩
    refine AWp.cy ?_
    repeat (first | refine AWp.seq ?_ | refine AWp.block ?_)
    apply AWp.reg [] []
    · conv => lhs; simp
    · trivial
    refine AWp.ret ?_
    try dsimp only [thenQ, blockQ]
    apply endC.ret
    · rfl
    · conv => lhs; simp [resAV, Tryd.results56]
    · rw [hw3, hE]; rfl
    · simp [moEnd, memGet, tmObj]
  | false =>
  rw [hbb] at hbd hE
  simp only [Bool.or_self, Bool.false_eq_true, if_false] at hE
  repeat (first | refine AWp.seq ?_ | refine AWp.block ?_)
  apply AWp.reg [] [.p (fun _ => .d (.bool false)) none, .p (fun _ => .d (.bool false)) none]
  · conv => lhs; simp [csObj]
  · exact ⟨htw, hbd⟩
  refine AWp.cn ?_
  refine AWp.skip ?_
  by_cases hl6 : 6 < ws.length
  · rw [if_pos hl6] at hE
    have hl6' : (6 : Int) < ws.length := by omega
    repeat (first | refine AWp.seq ?_ | refine AWp.block ?_)
    apply AWp.reg [] []
    · conv => lhs; simp [csObj, hl6, hl6']
    · trivial
    refine AWp.cy ?_
    repeat (first | refine AWp.seq ?_ | refine AWp.block ?_)
    apply AWp.reg [] []
    · conv => lhs; simp
    · trivial
    refine AWp.ret ?_
    try dsimp only [thenQ, blockQ]
    apply endC.ret
    · rfl
    · conv => lhs; simp [resAV, Tryd.results56]
    · rw [hw3, hE]; rfl
    · simp [moEnd, memGet, tmObj]
  rw [if_neg hl6] at hE
  subst hE
  have hl6' : ¬ (6 : Int) < ws.length := by omega
  repeat (first | refine AWp.seq ?_ | refine AWp.block ?_)
  apply AWp.reg [] []
  · conv => lhs; simp [csObj, hl6, hl6']
  · trivial
  refine AWp.cn ?_
  refine AWp.skip ?_
  have hx := hx (by omega)
  obtain ⟨nw, hnw⟩ : ∃ nw, nw = names ++ ws := ⟨_, rfl⟩
  have hnw2 : List.take (names.length + ws.length) (List.map strR names ++ List.map strR ws) = List.map strR nw := by rw [hnw, List.map_append, List.take_of_length_le (by simp)]
  rw [← hnw] at hx
  apply AWp.keep [0, 2, 3, 5, 177, 178, 179, 17] [5, 17, 1000]
  · conv => lhs; simp [keepF, frGet]
  · conv => lhs; simp [keepM, memGet]
  repeat (first | refine AWp.seq ?_ | refine AWp.block ?_)
  apply AWp.draw [8] [.c [] [.mp 1000, tmAV (.mk xk xn xa xb xv xx xc), strsAV nw, .d (.int (deep + 1))] [(1000, wrObj f)] (.d (.int E)) [(1000, wrObj f)]] mixed
  · conv => lhs; simp [csObj, hnw2, tmAV]
  · kernel_rfl
  · exact ⟨by simp [maxLen]; omega, by simp [maxLen]; omega, by simp [inI]; omega, hx⟩
  by_cases he : E = 0
  · subst he
    simp only [ne_eq, not_true_eq_false, if_false] at hw2
    repeat (first | refine AWp.seq ?_ | refine AWp.block ?_)
    apply AWp.reg [] []
    · conv => lhs; simp
    · trivial
    refine AWp.cn ?_
    refine AWp.skip ?_
    refine AWp.rg [] [] ?_
    refine ⟨⟨j + 1, hi1, hw2⟩, by simp; omega, Le.sub (by simp [tmObj]) (by simp [tmObj])⟩
  · rw [if_pos he] at hw3
    repeat (first | refine AWp.seq ?_ | refine AWp.block ?_)
    apply AWp.reg [] []
    · conv => lhs; simp [he]
    · trivial
    refine AWp.cy ?_
    repeat (first | refine AWp.seq ?_ | refine AWp.block ?_)
    apply AWp.reg [] []
    · conv => lhs; simp
    · trivial
    refine AWp.ret ?_
    try dsimp only [thenQ, blockQ]
    apply endC.ret
    · rfl
    · conv => lhs; simp [resAV, Tryd.results56]
    · rw [hw3]; rfl
    · simp [moEnd, memGet, tmObj]
theorem cs_Wrong (f : Arity) (t : Tm) (names : List ByteArray) (hO : t.Ok) (hn : names.length ≤ 1048576) :
    CSpec Tryd.prog 56 [.mp 1000, tmAV t, strsAV names, .d (.int 0)] [(1000, wrObj f)] (.d (.int (t.wrong f names 0))) [(1000, wrObj f)] :=
  cs_Wrong_at f _ t names 0 (Nat.lt_succ_self _) hO (by omega) (by omega) (by omega)



theorem wr_sum (a b : Nat) : wr (wr (a : Int) + wr (b : Int)) = wr ((a + b : Nat) : Int) := by rw [wr_add, wr_add']; congr 1
@[simp] theorem wr_one : wr 1 = 1 := rfl
theorem szs_append : ∀ (l r : List Tm), Tm.szs (l ++ r) = Tm.szs l + Tm.szs r
  | [], r => by simp [Tm.szs]
  | x :: l, r => by simp only [List.cons_append, Tm.szs, szs_append l r]; omega
theorem cszs_append : ∀ (l r : List Cs), Cs.szs (l ++ r) = Cs.szs l + Cs.szs r
  | [], r => by simp [Cs.szs]
  | x :: l, r => by simp only [List.cons_append, Cs.szs, cszs_append l r]; omega
theorem szs_snoc (l : List Tm) (x : Tm) : Tm.szs (l ++ (some x).toList) = Tm.szs l + x.sz := by rw [szs_append]; simp [Tm.szs]
theorem cszs_snoc (l : List Cs) (x : Cs) : Cs.szs (l ++ (some x).toList) = Cs.szs l + x.sz := by rw [cszs_append]; simp [Cs.szs]
theorem Tm.szs_take_le (l : List Tm) (i : Nat) : Tm.szs (l.take i) ≤ Tm.szs l := by
  have := szs_append (l.take i) (l.drop i)
  rw [List.take_append_drop] at this
  omega
theorem Cs.szs_take_le (l : List Cs) (i : Nat) : Cs.szs (l.take i) ≤ Cs.szs l := by
  have := cszs_append (l.take i) (l.drop i)
  rw [List.take_append_drop] at this
  omega
def siMem (k n : Int) (a b : ByteArray) (vs : List ByteArray) (xs : List Tm) (cs : List Cs) : List (Nat × Option AObj) :=
  [(1, some (.blk 34 [.d (.int k), .d (.int n), .d (.str a), .d (.str b), .d (strsD vs), .d (.sl (xs.map Tm.row)), .d (.sl (cs.map Cs.row))]))]
set_option maxRecDepth 20000 in
set_option maxHeartbeats 8000000 in
theorem sp_refSize_at : ∀ (N : Nat) (t : Tm), t.sz < N → t.Ok → PSpec Tryd.prog 55 [tmAV t] (fun _ => .d (.int (wr t.sz))) none := by
  intro N
  induction N with
  | zero => intro s h; omega
  | succ N ih =>
  intro t hN hO
  obtain ⟨k, n, a, b, vs, xs, cs⟩ := t
  obtain ⟨o1, o2, o3, o4, o5⟩ := hO.vars
  refine PSpec.of Tryd.func55 rfl rfl rfl (Nat.le_of_ble_eq_true rfl) ?_
  show AWp _ _ (endQ _ Tryd.f55 _ _ _) (startAS 34 _)
  repeat (first | refine AWp.seq ?_ | refine AWp.block ?_)
  apply AWp.reg [] []
  · conv => lhs; simp
  · trivial
  repeat (first | refine AWp.seq ?_ | refine AWp.block ?_)
  apply AWp.reg [] []
  · conv => lhs; simp
  · trivial
  repeat (first | refine AWp.seq ?_ | refine AWp.block ?_)
  apply AWp.reg [] []
  · conv => lhs; simp
  · trivial
  repeat (first | refine AWp.seq ?_ | refine AWp.block ?_)
  refine AWp.loop (σ := fun u : {i : Nat // i ≤ xs.length} => ⟨34, [(1, .ptr 1 0), (3, .d (.int (wr ((1 + Tm.szs (xs.take u.1) : Nat) : Int)))), (9, .d (.sl (xs.map Tm.row))), (10, .d (.int xs.length)), (11, .d (.int u.1))], siMem k n a b vs xs cs⟩)
    (μ := fun u => xs.length - u.1) ⟨0, Nat.zero_le _⟩ (Le.sub (by simp [Tm.szs]) (by simp [siMem])) (fun ⟨i, hi⟩ => ?_)
  dsimp only
  repeat (first | refine AWp.seq ?_ | refine AWp.block ?_)
  apply AWp.reg [] []
  · conv => lhs; simp
  · trivial
  repeat (first | refine AWp.seq ?_ | refine AWp.block ?_)
  refine AWp.cond rfl (fun h => ?_) (fun h => ?_)
  · have hi1 : i < xs.length := by have := of_decide_eq_true h; omega
    have h1 : xs[i]? = some xs[i] := List.getElem?_eq_getElem hi1
    have hmem : xs[i] ∈ xs := List.getElem_mem hi1
    generalize xs[i] = x at h1 hmem
    have hp := ih x (by have := Tm.sz_arg (k := k) (n := n) (a := a) (b := b) (vs := vs) (cs := cs) hmem; omega) (hO.arg hmem)
    have ht : Tm.szs (xs.take (i + 1)) = Tm.szs (xs.take i) + x.sz := by rw [List.take_add_one, h1]; exact szs_snoc _ _
    have hle := Tm.szs_take_le xs (i + 1)
    refine AWp.skip ?_
    generalize x.sz = z at hp ht
    generalize Tm.szs (xs.take i) = y at ht ⊢
    obtain ⟨xk, xn, xa, xb, xv, xx, xc⟩ := x
    refine AWp.rg [] [] ?_ (hr := by conv => lhs; simp [h1, Tm.row, Tm.rows_eq, Cs.rows_eq])
    repeat (first | refine AWp.seq ?_ | refine AWp.block ?_)
    apply AWp.reg [3] [.p (fun _ => .d (.int (wr z))) none]
    · conv => lhs; simp
    · exact hp
    refine AWp.rg [] [] ?_
    refine ⟨⟨i + 1, hi1⟩, by simp; omega, ?_⟩
    dsimp only
    rw [ht]
    have hw : ∀ u v w : Nat, w = u + v → wr (wr (u : Int) + wr (v : Int)) = wr (w : Int) := fun u v w e => by rw [wr_sum, e]
    refine Le.sub ?_ (by simp [siMem])
    simp
    exact hw _ _ _ (by omega)
  have hi1 : i = xs.length := by have := of_decide_eq_false h; omega
  subst hi1
  refine AWp.exit ?_
  rw [List.take_length]
  clear h
  repeat (first | refine AWp.seq ?_ | refine AWp.block ?_)
  apply AWp.reg [] []
  · conv => lhs; simp [siMem]
  · trivial
  repeat (first | refine AWp.seq ?_ | refine AWp.block ?_)
  refine AWp.loop (σ := fun u : {i : Nat // i ≤ cs.length} => ⟨34, [(1, .ptr 1 0), (3, .d (.int (wr ((1 + Tm.szs xs + Cs.szs (cs.take u.1) : Nat) : Int)))), (21, .d (.sl (cs.map Cs.row))), (22, .d (.int cs.length)), (23, .d (.int u.1))], siMem k n a b vs xs cs⟩)
    (μ := fun u => cs.length - u.1) ⟨0, Nat.zero_le _⟩ (Le.sub (by simp [Cs.szs]) (by simp [siMem])) (fun ⟨i, hi⟩ => ?_)
  dsimp only
  repeat (first | refine AWp.seq ?_ | refine AWp.block ?_)
  apply AWp.reg [] []
  · conv => lhs; simp
  · trivial
  repeat (first | refine AWp.seq ?_ | refine AWp.block ?_)
  refine AWp.cond rfl (fun h => ?_) (fun h => ?_)
  · have hi1 : i < cs.length := by have := of_decide_eq_true h; omega
    have h1 : cs[i]? = some cs[i] := List.getElem?_eq_getElem hi1
    have hmem : cs[i] ∈ cs := List.getElem_mem hi1
    generalize cs[i] = x at h1 hmem
    have ht : Cs.szs (cs.take (i + 1)) = Cs.szs (cs.take i) + x.sz := by rw [List.take_add_one, h1]; exact cszs_snoc _ _
    have hle := Cs.szs_take_le cs (i + 1)
    obtain ⟨g, ws, x⟩ := x
    obtain ⟨oc1, oc2⟩ := (hO.case hmem).body
    have hp := ih x (by have := Tm.sz_case (k := k) (n := n) (a := a) (b := b) (vs := vs) (xs := xs) hmem; omega) oc1
    rw [show (Cs.mk g ws x).sz = x.sz from rfl] at ht
    refine AWp.skip ?_
    generalize x.sz = z at hp ht
    generalize Cs.szs (cs.take i) = y at ht ⊢
    obtain ⟨xk, xn, xa, xb, xv, xx, xc⟩ := x
    refine AWp.rg [] [] ?_ (hr := by conv => lhs; simp [h1, Cs.row, Tm.row, Tm.rows_eq, Cs.rows_eq])
    repeat (first | refine AWp.seq ?_ | refine AWp.block ?_)
    apply AWp.reg [4] [.p (fun _ => .d (.int (wr z))) none]
    · conv => lhs; simp
    · exact hp
    refine AWp.rg [] [] ?_
    refine ⟨⟨i + 1, hi1⟩, by simp; omega, ?_⟩
    dsimp only
    rw [ht]
    have hw : ∀ u v w : Nat, w = u + v → wr (wr (u : Int) + wr (v : Int)) = wr (w : Int) := fun u v w e => by rw [wr_sum, e]
    refine Le.sub ?_ (by simp [siMem])
    simp
    exact hw _ _ _ (by omega)
  have hi1 : i = cs.length := by have := of_decide_eq_false h; omega
  subst hi1
  refine AWp.exit ?_
  rw [List.take_length]
  repeat (first | refine AWp.seq ?_ | refine AWp.block ?_)
  apply AWp.reg [] []
  · conv => lhs; simp
  · trivial
  refine AWp.ret ?_
  try dsimp only [thenQ, blockQ]
  apply endQ.ret
  · rfl
  · conv => lhs; simp [resAV, Tryd.results55]
  rfl
theorem sp_refSize (t : Tm) (h : t.Ok) : PSpec Tryd.prog 55 [tmAV t] (fun _ => .d (.int (wr t.sz))) none := sp_refSize_at _ t (Nat.lt_succ_self _) h
end Go.Proofs.YtapiiklnnkkdlaaDoor
