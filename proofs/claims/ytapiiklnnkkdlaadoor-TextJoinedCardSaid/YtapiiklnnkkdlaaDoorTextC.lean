import Derived.Test.YtapiiklnnkkdlaaDoorTextQ
import Derived.Test.YtapiiklnnkkdlaaDoorNumA
/- xcref1's P: Next, want, name, tag. Printed by a small program. -/
namespace Go.Proofs.YtapiiklnnkkdlaaDoor
open Go.RowKit
attribute [local simp] runD mkRc ldOf stOf stOk ldArg noAny dstOk guardOk opEff opEff0 effOp pureOp callOp zEff evA constAV scalAV Value.oneCell' frGet memGet startAS frOf isGoCall idIn AS.after nextR opnIds objIds AV.ids idsL AObj.ids frNo memNo opnAny isAny mkVal rdCells wrCells fldAddr idxAddr srcRows litRows toD1 toDs setAt sliceAV optI partAV bldAV fillAV binAV binI AV.cells callEff calleeOf frKill memKill AV.kill AObj.kill AV.has AV.hasL Op.operands Call.operands keepF keepM viewIds cChk renOf moGet moWs moQ cEff moLike moHave AV.ren renL AObj.ren AObj.like kept startC moMem AV.frz frz1 frzL frSub memSub frzs AS.frz frFrz memFrz AObj.frz takeMap takeLen bleF Nat.ble_eq memAny objAny mapOp D.keyOk rowAV valRow extOp wrapOp phO
set_option linter.unusedVariables false
set_option linter.unusedSimpArgs false
theorem size_zero {b : ByteArray} (h : b.size = 0) : b = ByteArray.empty := by
  obtain ⟨⟨l⟩⟩ := b
  rcases l with _ | ⟨x, l⟩
  · rfl
  · simp [ByteArray.size] at h
@[simp] theorem mk_size (a : Array UInt8) : (ByteArray.mk a).size = a.size := rfl
@[simp] theorem le_maxLen1 : 1 ≤ maxLen := by decide
@[simp] theorem le_maxLen2 : 2 ≤ maxLen := by decide
@[simp] theorem le_maxLen3 : 3 ≤ maxLen := by decide
@[simp] theorem le_maxLen5 : 5 ≤ maxLen := by decide
theorem sharp_of {w : ByteArray} {c : UInt8} (h : w[0]? = some c) : sharp w = decide ((c.toNat : Int) = 35) := by
  unfold sharp
  have h1 := drop_of h
  rw [List.drop_zero] at h1
  rw [h1, Bool.eq_iff_iff, beq_iff_eq, decide_eq_true_eq]
  omega
set_option maxRecDepth 20000 in
set_option maxHeartbeats 16000000 in
theorem cs_Next (s : ByteArray) (a : Nat) (e : Int) (ha : a ≤ s.size) (hs : s.size ≤ 1500) : CSpec Tryd.prog 135 [.ptr 1000 0] [(1000, pO s a e)] (.d (.str (pkW s a))) [(1000, pO s (nxS s (a, e)).1 (nxS s (a, e)).2)] := by
  have hpk := cs_Peek s a e ha hs
  have hsz := pkW_size ha
  have h1 := pkA_le ha
  have h2 := pkE_le h1.2
  unfold nxS
  dsimp only
  generalize pkW s a = W at *
  generalize pkA s a = A at *
  generalize pkE s A = E2 at *
  have hE3 : (A : Int) + (W.size : Int) = (E2 : Int) := by omega
  unfold pO at *
  refine CSpec.of Tryd.func135 rfl rfl (Nat.le_of_ble_eq_true rfl) ?_
  show AWp _ _ (endC _ Tryd.f135 _ _) (startC 21 _ _)
  refine AWp.rg [] [] ?_
  refine AWp.rg [] [.c [] [.ptr 1000 0] [(1000, .blk 102 [.d (.str s), .d (.int (a : Int)), .d (.int e)])] (.d (.str W)) [(1000, .blk 102 [.d (.str s), .d (.int (A : Int)), .d (.int e)])]] ?_
  by_cases q1 : W = ⟨#[]⟩
  · have q1t := eq_true q1
    refine AWp.rg [] [] ?_ (hr := by conv => lhs; simp [q1t])
    refine AWp.cy ?_
    have hz : W.size = 0 := by rw [q1]; rfl
    have hbd := cs_bad s A e 8
    rw [if_pos hz]
    refine AWp.rg [] [.c [] [.ptr 1000 0, .d (.int 8)] [(1000, .blk 102 [.d (.str s), .d (.int (A : Int)), .d (.int e)])] (.tuple []) [(1000, .blk 102 [.d (.str s), .d (.int (A : Int)), .d (.int (badE e 8))])]] ?_ (hr := by conv => lhs; simp [q1t])
    refine AWp.rg [] [] ?_ (hr := by conv => lhs; simp [hE3, q1t])
    refine AWp.rg [] [] ?_ (hr := by conv => lhs; simp [hE3, q1t])
    refine AWp.ret ?_
    try dsimp only [thenQ, blockQ]
    apply endC.ret
    · rfl
    · conv => lhs; simp [resAV, Tryd.results135]
    · first | rfl | simp
    · simp [moEnd, memGet]
  refine AWp.rg [] [] ?_ (hr := by conv => lhs; simp [q1])
  refine AWp.cn ?_
  refine AWp.skip ?_
  have hz : W.size ≠ 0 := fun h => q1 (size_zero h)
  rw [if_neg hz]
  refine AWp.rg [] [] ?_ (hr := by conv => lhs; simp [hE3, q1])
  refine AWp.rg [] [] ?_ (hr := by conv => lhs; simp [hE3, q1])
  refine AWp.ret ?_
  try dsimp only [thenQ, blockQ]
  apply endC.ret
  · rfl
  · conv => lhs; simp [resAV, Tryd.results135]
  · first | rfl | simp
  · simp [moEnd, memGet]
set_option maxRecDepth 20000 in
set_option maxHeartbeats 16000000 in
theorem cs_want (s w : ByteArray) (a : Nat) (e : Int) (ha : a ≤ s.size) (hs : s.size ≤ 1500) : CSpec Tryd.prog 91 [.ptr 1000 0, .d (.str w)] [(1000, pO s a e)] (.tuple []) [(1000, pO s (wantS s w (a, e)).1 (wantS s w (a, e)).2)] := by
  have hnx := cs_Next s a e ha hs
  have hadv := nxS_adv (s := s) (p := (a, e)) ha
  have hA2 := hadv.sz
  unfold wantS
  dsimp only
  generalize pkW s a = W at *
  generalize nxS s (a, e) = p2 at *
  obtain ⟨A2, e2⟩ := p2
  dsimp only at *
  unfold pO at *
  refine CSpec.of Tryd.func91 rfl rfl (Nat.le_of_ble_eq_true rfl) ?_
  show AWp _ _ (endC _ Tryd.f91 _ _) (startC 10 _ _)
  by_cases q1 : W = w
  · have q1t := eq_true q1
    refine AWp.rg [] [.c [] [.ptr 1000 0] [(1000, .blk 102 [.d (.str s), .d (.int (a : Int)), .d (.int e)])] (.d (.str W)) [(1000, .blk 102 [.d (.str s), .d (.int (A2 : Int)), .d (.int e2)])]] ?_ (hr := by conv => lhs; simp [q1t])
    refine AWp.cn ?_
    refine AWp.skip ?_
    rw [if_pos q1]
    try dsimp only [thenQ, blockQ]
    apply endC.normal
    · rfl
    · conv => lhs; simp [resAV, Tryd.results91]
    · rfl
    · simp [moEnd, memGet]
  refine AWp.rg [] [.c [] [.ptr 1000 0] [(1000, .blk 102 [.d (.str s), .d (.int (a : Int)), .d (.int e)])] (.d (.str W)) [(1000, .blk 102 [.d (.str s), .d (.int (A2 : Int)), .d (.int e2)])]] ?_ (hr := by conv => lhs; simp [q1])
  refine AWp.cy ?_
  have hbd := cs_bad s A2 e2 2
  rw [if_neg q1]
  refine AWp.rg [] [.c [] [.ptr 1000 0, .d (.int 2)] [(1000, .blk 102 [.d (.str s), .d (.int (A2 : Int)), .d (.int e2)])] (.tuple []) [(1000, .blk 102 [.d (.str s), .d (.int (A2 : Int)), .d (.int (badE e2 2))])]] ?_ (hr := by conv => lhs; simp [q1])
  try dsimp only [thenQ, blockQ]
  apply endC.normal
  · rfl
  · conv => lhs; simp [resAV, Tryd.results91]
  · rfl
  · simp [moEnd, memGet]
set_option maxRecDepth 20000 in
set_option maxHeartbeats 16000000 in
theorem cs_pname (s : ByteArray) (a : Nat) (e : Int) (ha : a ≤ s.size) (hs : s.size ≤ 1500) : CSpec Tryd.prog 92 [.ptr 1000 0] [(1000, pO s a e)] (.d (.str (namP s (a, e)).1)) [(1000, pO s (namP s (a, e)).2.1 (namP s (a, e)).2.2)] := by
  have hnx := cs_Next s a e ha hs
  have hadv := nxS_adv (s := s) (p := (a, e)) ha
  have hA2 := hadv.sz
  have hWs := pkW_size ha
  have h1 := pkA_le ha
  have h2 := pkE_le h1.2
  have hWs2 : (pkW s a).size ≤ 1500 := by omega
  clear hWs h1 h2
  unfold namP
  dsimp only
  generalize pkW s a = W at *
  generalize nxS s (a, e) = p2 at *
  obtain ⟨A2, e2⟩ := p2
  dsimp only at *
  unfold pO at *
  refine CSpec.of Tryd.func92 rfl rfl (Nat.le_of_ble_eq_true rfl) ?_
  show AWp _ _ (endC _ Tryd.f92 _ _) (startC 12 _ _)
  refine AWp.rg [] [] ?_
  refine AWp.rg [] [.c [] [.ptr 1000 0] [(1000, .blk 102 [.d (.str s), .d (.int (a : Int)), .d (.int e)])] (.d (.str W)) [(1000, .blk 102 [.d (.str s), .d (.int (A2 : Int)), .d (.int e2)])]] ?_
  have hna := sp_Name W (by omega)
  generalize nameB W = q at *
  cases q with
  | true =>
    refine AWp.rg [] [.p (fun _ => .d (.bool true)) none] ?_
    refine AWp.cn ?_
    refine AWp.skip ?_
    refine AWp.rg [] [] ?_
    refine AWp.ret ?_
    try simp only [if_true, Bool.false_eq_true, if_false]
    try dsimp only [thenQ, blockQ]
    apply endC.ret
    · rfl
    · conv => lhs; simp [resAV, Tryd.results92]
    · first | rfl | simp
    · simp [moEnd, memGet]
  | false =>
    refine AWp.rg [] [.p (fun _ => .d (.bool false)) none] ?_
    refine AWp.cy ?_
    have hbd := cs_bad s A2 e2 7
    refine AWp.rg [] [.c [] [.ptr 1000 0, .d (.int 7)] [(1000, .blk 102 [.d (.str s), .d (.int (A2 : Int)), .d (.int e2)])] (.tuple []) [(1000, .blk 102 [.d (.str s), .d (.int (A2 : Int)), .d (.int (badE e2 7))])]] ?_
    refine AWp.rg [] [] ?_
    refine AWp.ret ?_
    try simp only [if_true, Bool.false_eq_true, if_false]
    try dsimp only [thenQ, blockQ]
    apply endC.ret
    · rfl
    · conv => lhs; simp [resAV, Tryd.results92]
    · first | rfl | simp
    · simp [moEnd, memGet]
set_option maxRecDepth 20000 in
set_option maxHeartbeats 16000000 in
theorem cs_tag (s : ByteArray) (a : Nat) (e : Int) (ha : a ≤ s.size) (hs : s.size ≤ 1500) : CSpec Tryd.prog 139 [.ptr 1000 0] [(1000, pO s a e)] (.d (.int (tagP false s (a, e)).1)) [(1000, pO s (tagP false s (a, e)).2.1 (tagP false s (a, e)).2.2)] := by
  have hnx := cs_Next s a e ha hs
  have hadv := nxS_adv (s := s) (p := (a, e)) ha
  have hA2 := hadv.sz
  have hWs := pkW_size ha
  have h1 := pkA_le ha
  have h2 := pkE_le h1.2
  have hWs2 : (pkW s a).size ≤ 1500 := by omega
  clear hWs h1 h2
  rw [tagP_ref]
  dsimp only
  generalize pkW s a = W at *
  generalize nxS s (a, e) = p2 at *
  obtain ⟨A2, e2⟩ := p2
  dsimp only at *
  unfold pO at *
  refine CSpec.of Tryd.func139 rfl rfl (Nat.le_of_ble_eq_true rfl) ?_
  show AWp _ _ (endC _ Tryd.f139 _ _) (startC 26 _ _)
  refine AWp.rg [] [] ?_
  refine AWp.rg [] [.c [] [.ptr 1000 0] [(1000, .blk 102 [.d (.str s), .d (.int (a : Int)), .d (.int e)])] (.d (.str W)) [(1000, .blk 102 [.d (.str s), .d (.int (A2 : Int)), .d (.int e2)])]] ?_
  obtain ⟨M, hM⟩ : ∃ M : Int, (W.size : Int) = M := ⟨_, rfl⟩
  by_cases hl : 1 < M
  · have h1c : W[0]? = some W[0] := by rw [getElem?_pos]
    generalize W[0] = c at h1c
    rw [sharp_of h1c, show decide (1 < W.size) = true from decide_eq_true (by omega), Bool.true_and]
    obtain ⟨cn, hcn⟩ : ∃ n : Int, (c.toNat : Int) = n := ⟨_, rfl⟩
    rw [hcn]
    by_cases q1 : cn = 35
    · have q1t := eq_true q1
      refine AWp.rg [] [] ?_ (hr := by conv => lhs; simp [hM, h1c, hcn, hl, q1t])
      refine AWp.cy ?_
      rw [show decide (cn = 35) = true from decide_eq_true q1, Bool.true_and]
      have hX0 : (W.extract 1 W.size).size ≤ 1500 := by rw [ByteArray.size_extract]; omega
      have hnu := sp_Number (W.extract 1 W.size) (by omega)
      have hX : W.extract 1 M.toNat = W.extract 1 W.size := by rw [← hM, Int.toNat_natCast]
      generalize W.extract 1 W.size = X at *
      generalize numP X = nq at *
      obtain ⟨n, q⟩ := nq
      dsimp only at hnu ⊢
      refine AWp.rg [] [.p (fun _ => .tuple [.d (.int n), .d (.bool q)]) none] ?_ (hr := by conv => lhs; simp [hM, h1c, hcn, hX, hl, q1t])
      cases q with
      | true =>
        refine AWp.rg [] [] ?_ (hr := by conv => lhs; simp [hM, h1c, hcn, hX, hl, q1t])
        refine AWp.cy ?_
        refine AWp.rg [] [] ?_ (hr := by conv => lhs; simp [hM, h1c, hcn, hX, hl, q1t])
        refine AWp.ret ?_
        try simp only [if_true, Bool.false_eq_true, if_false]
        try dsimp only [thenQ, blockQ]
        apply endC.ret
        · rfl
        · conv => lhs; simp [resAV, Tryd.results139]
        · first | rfl | simp
        · simp [moEnd, memGet]
      | false =>
        refine AWp.rg [] [] ?_ (hr := by conv => lhs; simp [hM, h1c, hcn, hX, hl, q1t])
        refine AWp.cn ?_
        refine AWp.skip ?_
        have hbd := cs_bad s A2 e2 2
        refine AWp.rg [] [.c [] [.ptr 1000 0, .d (.int 2)] [(1000, .blk 102 [.d (.str s), .d (.int (A2 : Int)), .d (.int e2)])] (.tuple []) [(1000, .blk 102 [.d (.str s), .d (.int (A2 : Int)), .d (.int (badE e2 2))])]] ?_ (hr := by conv => lhs; simp [hM, h1c, hcn, hX, hl, q1t])
        refine AWp.rg [] [] ?_ (hr := by conv => lhs; simp [hM, h1c, hcn, hX, hl, q1t])
        refine AWp.ret ?_
        try simp only [if_true, Bool.false_eq_true, if_false]
        try dsimp only [thenQ, blockQ]
        apply endC.ret
        · rfl
        · conv => lhs; simp [resAV, Tryd.results139]
        · first | rfl | simp
        · simp [moEnd, memGet]
    refine AWp.rg [] [] ?_ (hr := by conv => lhs; simp [hM, h1c, hcn, hl, q1])
    refine AWp.cn ?_
    refine AWp.skip ?_
    rw [show decide (cn = 35) = false from decide_eq_false q1, Bool.false_and]
    have hbd := cs_bad s A2 e2 2
    refine AWp.rg [] [.c [] [.ptr 1000 0, .d (.int 2)] [(1000, .blk 102 [.d (.str s), .d (.int (A2 : Int)), .d (.int e2)])] (.tuple []) [(1000, .blk 102 [.d (.str s), .d (.int (A2 : Int)), .d (.int (badE e2 2))])]] ?_ (hr := by conv => lhs; simp [hM, h1c, hcn, hl, q1])
    refine AWp.rg [] [] ?_ (hr := by conv => lhs; simp [hM, h1c, hcn, hl, q1])
    refine AWp.ret ?_
    try simp only [if_true, Bool.false_eq_true, if_false]
    try dsimp only [thenQ, blockQ]
    apply endC.ret
    · rfl
    · conv => lhs; simp [resAV, Tryd.results139]
    · first | rfl | simp
    · simp [moEnd, memGet]
  rw [show decide (1 < W.size) = false from decide_eq_false (by omega), Bool.false_and, Bool.false_and]
  refine AWp.rg [] [] ?_ (hr := by conv => lhs; simp [hM, hl])
  refine AWp.cn ?_
  refine AWp.skip ?_
  have hbd := cs_bad s A2 e2 2
  refine AWp.rg [] [.c [] [.ptr 1000 0, .d (.int 2)] [(1000, .blk 102 [.d (.str s), .d (.int (A2 : Int)), .d (.int e2)])] (.tuple []) [(1000, .blk 102 [.d (.str s), .d (.int (A2 : Int)), .d (.int (badE e2 2))])]] ?_ (hr := by conv => lhs; simp [hM, hl])
  refine AWp.rg [] [] ?_ (hr := by conv => lhs; simp [hM, hl])
  refine AWp.ret ?_
  try simp only [if_true, Bool.false_eq_true, if_false]
  try dsimp only [thenQ, blockQ]
  apply endC.ret
  · rfl
  · conv => lhs; simp [resAV, Tryd.results139]
  · first | rfl | simp
  · simp [moEnd, memGet]

abbrev rO (l : List ByteArray) (e : Int) : AObj := .blk 95 [.d (strsD l), .d (.int e)]
theorem hdT_at {l : List ByteArray} {w : ByteArray} (h : l[0]? = some w) : hdT l = w := by
  cases l with
  | nil => simp at h
  | cons x r => simpa [hdT] using h
theorem nxT_at {l : List ByteArray} {w : ByteArray} {e : Int} (h : l[0]? = some w) : nxT (l, e) = (l.drop 1, e) := by
  cases l with
  | nil => simp at h
  | cons x r => rfl
set_option maxRecDepth 20000 in
set_option maxHeartbeats 16000000 in
theorem cs_tfail (l : List ByteArray) (e x : Int) : CSpec Tryd.prog 128 [.ptr 1000 0, .d (.int x)] [(1000, rO l e)] (.tuple []) [(1000, rO l (badE e x))] := by
  unfold rO
  by_cases he : e = 0
  · subst he
    rw [show badE 0 x = x from rfl]
    refine CSpec.of Tryd.func128 rfl rfl (Nat.le_of_ble_eq_true rfl) ?_
    show AWp _ _ (endC _ Tryd.f128 _ _) (startC 13 _ _)
    refine AWp.rg [] [] ?_
    refine AWp.cy ?_
    refine AWp.rg [] [] ?_
    try dsimp only [thenQ, blockQ]
    apply endC.normal
    · rfl
    · conv => lhs; simp [resAV, Tryd.results128]
    · rfl
    · simp [moEnd, memGet]
  rw [show badE e x = e from if_neg he]
  refine CSpec.of Tryd.func128 rfl rfl (Nat.le_of_ble_eq_true rfl) ?_
  show AWp _ _ (endC _ Tryd.f128 _ _) (startC 13 _ _)
  refine AWp.rg [] [] ?_ (hr := by conv => lhs; simp [he])
  refine AWp.cn ?_
  refine AWp.skip ?_
  try dsimp only [thenQ, blockQ]
  apply endC.normal
  · rfl
  · conv => lhs; simp [resAV, Tryd.results128]
  · rfl
  · simp [moEnd, memGet]
set_option maxRecDepth 20000 in
set_option maxHeartbeats 16000000 in
theorem cs_tnext (l : List ByteArray) (e : Int) (hl : l.length ≤ 1600) : CSpec Tryd.prog 129 [.ptr 1000 0] [(1000, rO l e)] (.d (.str (hdT l))) [(1000, rO l e)] := by
  unfold rO
  obtain ⟨A, hA⟩ : ∃ A : Int, (l.length : Int) = A := ⟨_, rfl⟩
  refine CSpec.of Tryd.func129 rfl rfl (Nat.le_of_ble_eq_true rfl) ?_
  show AWp _ _ (endC _ Tryd.f129 _ _) (startC 15 _ _)
  refine AWp.rg [] [] ?_ (hr := by conv => lhs; simp [hA])
  by_cases q1 : A = 0
  · have q1t := eq_true q1
    refine AWp.rg [] [] ?_ (hr := by conv => lhs; simp [hA, q1t])
    refine AWp.cy ?_
    obtain rfl : l = [] := List.eq_nil_of_length_eq_zero (by have := q1; omega)
    refine AWp.rg [] [] ?_ (hr := by conv => lhs; simp [hA, q1t])
    refine AWp.ret ?_
    try dsimp only [thenQ, blockQ]
    apply endC.ret
    · rfl
    · conv => lhs; simp [resAV, Tryd.results129]
    · first | rfl | simp
    · simp [moEnd, memGet]
  refine AWp.rg [] [] ?_ (hr := by conv => lhs; simp [hA, q1])
  refine AWp.cn ?_
  refine AWp.skip ?_
  have hlp : 0 < l.length := by have := q1; omega
  obtain ⟨w, h0w⟩ : ∃ w, l[0]? = some w := ⟨l[0], List.getElem?_eq_getElem hlp⟩
  rw [hdT_at h0w]
  refine AWp.rg [] [] ?_ (hr := by conv => lhs; simp [h0w, q1])
  refine AWp.ret ?_
  try dsimp only [thenQ, blockQ]
  apply endC.ret
  · rfl
  · conv => lhs; simp [resAV, Tryd.results129]
  · first | rfl | simp
  · simp [moEnd, memGet]
set_option maxRecDepth 20000 in
set_option maxHeartbeats 16000000 in
theorem cs_take (l : List ByteArray) (e : Int) (hl : l.length ≤ 1600) : CSpec Tryd.prog 127 [.ptr 1000 0] [(1000, rO l e)] (.d (.str (hdT l))) [(1000, rO (nxT (l, e)).1 (nxT (l, e)).2)] := by
  unfold rO
  obtain ⟨A, hA⟩ : ∃ A : Int, (l.length : Int) = A := ⟨_, rfl⟩
  refine CSpec.of Tryd.func127 rfl rfl (Nat.le_of_ble_eq_true rfl) ?_
  show AWp _ _ (endC _ Tryd.f127 _ _) (startC 27 _ _)
  refine AWp.rg [] [] ?_ (hr := by conv => lhs; simp [hA])
  by_cases q1 : A = 0
  · have q1t := eq_true q1
    refine AWp.rg [] [] ?_ (hr := by conv => lhs; simp [hA, q1t])
    refine AWp.cy ?_
    obtain rfl : l = [] := List.eq_nil_of_length_eq_zero (by have := q1; omega)
    have hf := cs_tfail [] e 8
    unfold rO at hf
    rw [show nxT (([] : List ByteArray), e) = ([], badE e 8) from rfl]
    dsimp only
    refine AWp.rg [] [.c [] [.ptr 1000 0, .d (.int 8)] [(1000, .blk 95 [.d (.sl (List.map strR [])), .d (.int e)])] (.tuple []) [(1000, .blk 95 [.d (.sl (List.map strR [])), .d (.int (badE e 8))])]] ?_ (hr := by conv => lhs; simp [q1t])
    refine AWp.rg [] [] ?_ (hr := by conv => lhs; simp [q1t])
    refine AWp.ret ?_
    try dsimp only [thenQ, blockQ]
    apply endC.ret
    · rfl
    · conv => lhs; simp [resAV, Tryd.results127]
    · first | rfl | simp
    · simp [moEnd, memGet]
  refine AWp.rg [] [] ?_ (hr := by conv => lhs; simp [hA, q1])
  refine AWp.cn ?_
  refine AWp.skip ?_
  have hlp : 0 < l.length := by have := q1; omega
  obtain ⟨w, h0w⟩ : ∃ w, l[0]? = some w := ⟨l[0], List.getElem?_eq_getElem hlp⟩
  rw [hdT_at h0w]
  rw [nxT_at h0w]
  obtain ⟨r, hr⟩ : ∃ r, r = l.drop 1 := ⟨_, rfl⟩
  rw [← hr]
  have hdr : List.drop 1 (List.map strR l) = List.map strR r := by rw [hr, List.map_drop]
  have hdl : 1 ≤ l.length := hlp
  have htr : List.take (l.length - 1) (List.map strR r) = List.map strR r := List.take_of_length_le (by rw [List.length_map, hr, List.length_drop]; omega)
  refine AWp.rg [] [] ?_ (hr := by conv => lhs; simp [h0w, q1])
  refine AWp.rg [] [] ?_ (hr := by conv => lhs; simp [h0w, hdr, htr, q1])
  refine AWp.rg [] [] ?_ (hr := by conv => lhs; simp [h0w, hdr, htr, q1])
  refine AWp.ret ?_
  try dsimp only [thenQ, blockQ]
  apply endC.ret
  · rfl
  · conv => lhs; simp [resAV, Tryd.results127]
  · first | rfl | simp
  · simp [moEnd, memGet]
set_option maxRecDepth 20000 in
set_option maxHeartbeats 16000000 in
theorem cs_must (l : List ByteArray) (w : ByteArray) (e : Int) (hl : l.length ≤ 1600) : CSpec Tryd.prog 86 [.ptr 1000 0, .d (.str w)] [(1000, rO l e)] (.tuple []) [(1000, rO (wantT w (l, e)).1 (wantT w (l, e)).2)] := by
  unfold wantT badT
  have htk := cs_take l e hl
  generalize nxT (l, e) = p2 at htk ⊢
  obtain ⟨l2, e2⟩ := p2
  generalize hdT l = W at htk ⊢
  dsimp only at htk
  unfold rO at *
  refine CSpec.of Tryd.func86 rfl rfl (Nat.le_of_ble_eq_true rfl) ?_
  show AWp _ _ (endC _ Tryd.f86 _ _) (startC 12 _ _)
  refine AWp.rg [] [.c [] [.ptr 1000 0] [(1000, .blk 95 [.d (strsD l), .d (.int e)])] (.d (.str W)) [(1000, .blk 95 [.d (strsD l2), .d (.int e2)])]] ?_
  by_cases q1 : W = w
  · refine AWp.rg [] [] ?_ (hr := by conv => lhs; simp [q1])
    refine AWp.cn ?_
    refine AWp.skip ?_
    rw [if_pos q1]
    try dsimp only [thenQ, blockQ]
    apply endC.normal
    · rfl
    · conv => lhs; simp [resAV, Tryd.results86]
    · rfl
    · simp [moEnd, memGet]
  refine AWp.rg [] [] ?_ (hr := by conv => lhs; simp [q1])
  refine AWp.cy ?_
  have hf := cs_tfail l2 e2 2
  refine AWp.rg [] [.c [] [.ptr 1000 0, .d (.int 2)] [(1000, .blk 95 [.d (strsD l2), .d (.int e2)])] (.tuple []) [(1000, .blk 95 [.d (strsD l2), .d (.int (badE e2 2))])]] ?_ (hr := by conv => lhs; simp [q1])
  rw [if_neg q1]
  try dsimp only [thenQ, blockQ]
  apply endC.normal
  · rfl
  · conv => lhs; simp [resAV, Tryd.results86]
  · rfl
  · simp [moEnd, memGet]
set_option maxRecDepth 20000 in
set_option maxHeartbeats 16000000 in
theorem cs_tname (l : List ByteArray) (e : Int) (hl : l.length ≤ 1600) (hNa : ∀ s : ByteArray, s.size ≤ 1600 → PSpec Tryd.prog 43 [.d (.str s)] (fun _ => .d (.bool (nameB s))) none) (hW : (hdT l).size ≤ 1600) : CSpec Tryd.prog 87 [.ptr 1000 0] [(1000, rO l e)] (.d (.str (namT (l, e)).1)) [(1000, rO (namT (l, e)).2.1 (namT (l, e)).2.2)] := by
  have hna := hNa (hdT l) hW
  unfold namT badT
  dsimp only
  have htk := cs_take l e hl
  generalize nxT (l, e) = p2 at htk ⊢
  obtain ⟨l2, e2⟩ := p2
  generalize hdT l = W at htk hna ⊢
  dsimp only at htk
  generalize nameB W = q at hna ⊢
  unfold rO at *
  refine CSpec.of Tryd.func87 rfl rfl (Nat.le_of_ble_eq_true rfl) ?_
  show AWp _ _ (endC _ Tryd.f87 _ _) (startC 12 _ _)
  refine AWp.rg [] [] ?_
  refine AWp.rg [] [.c [] [.ptr 1000 0] [(1000, .blk 95 [.d (strsD l), .d (.int e)])] (.d (.str W)) [(1000, .blk 95 [.d (strsD l2), .d (.int e2)])]] ?_
  cases q with
  | true =>
    refine AWp.rg [] [.p (fun _ => .d (.bool true)) none] ?_
    refine AWp.cn ?_
    refine AWp.skip ?_
    refine AWp.rg [] [] ?_
    refine AWp.ret ?_
    try dsimp only [thenQ, blockQ]
    apply endC.ret
    · rfl
    · conv => lhs; simp [resAV, Tryd.results87]
    · first | rfl | simp
    · simp [moEnd, memGet]
  | false =>
    refine AWp.rg [] [.p (fun _ => .d (.bool false)) none] ?_
    refine AWp.cy ?_
    have hf := cs_tfail l2 e2 7
    refine AWp.rg [] [.c [] [.ptr 1000 0, .d (.int 7)] [(1000, .blk 95 [.d (strsD l2), .d (.int e2)])] (.tuple []) [(1000, .blk 95 [.d (strsD l2), .d (.int (badE e2 7))])]] ?_
    refine AWp.rg [] [] ?_
    refine AWp.ret ?_
    try dsimp only [thenQ, blockQ]
    apply endC.ret
    · rfl
    · conv => lhs; simp [resAV, Tryd.results87]
    · first | rfl | simp
    · simp [moEnd, memGet]
theorem nameB_size {s : ByteArray} (h : s.size < 1 ∨ 8 < s.size) : nameB s = false := by
  unfold nameB
  rw [Bool.and_eq_false_iff]
  right
  rw [Bool.and_eq_false_iff, decide_eq_false_iff_not, decide_eq_false_iff_not]
  omega
theorem nameB_all {s : ByteArray} (h : ∀ j < s.size, ∀ c, s[j]? = some c → chOk j c = true) (h1 : 1 ≤ s.size) (h8 : s.size ≤ 8) : nameB s = true := by
  rw [nameB_good h]
  simp only [Bool.and_eq_true, decide_eq_true_eq]
  omega
theorem chOk_iff {i : Nat} {c : UInt8} : chOk i c = true ↔ (97 ≤ (c.toNat : Int) ∧ (c.toNat : Int) ≤ 122) ∨ ((48 ≤ (c.toNat : Int) ∧ (c.toNat : Int) ≤ 57) ∧ i ≠ 0) := by
  unfold chOk
  simp only [Bool.or_eq_true, Bool.and_eq_true, decide_eq_true_eq, Bool.not_eq_true', beq_eq_false_iff_ne]
theorem chOk0 {c : UInt8} : chOk 0 c = (decide ((97 : Int) ≤ c.toNat) && decide ((c.toNat : Int) ≤ 122)) := by
  unfold chOk
  simp
set_option maxRecDepth 20000 in
set_option maxHeartbeats 16000000 in
theorem sp_tName (s : ByteArray) (hs : s.size ≤ 9223372036854775806) : PSpec Tryd.prog 43 [.d (.str s)] (fun _ => .d (.bool (nameB s))) none := by
  obtain ⟨N, hN⟩ : ∃ N : Int, (s.size : Int) = N := ⟨_, rfl⟩
  refine PSpec.of Tryd.func43 rfl rfl rfl (Nat.le_of_ble_eq_true rfl) ?_
  show AWp _ _ (endQ _ Tryd.f43 _ _ _) (startAS 50 _)
  refine AWp.rg [] [] ?_ (hr := by conv => lhs; simp [hN])
  by_cases hz : N < 1
  · have hbad := nameB_size (s := s) (by omega)
    rw [hbad]
    refine AWp.rg [] [] ?_ (hr := by conv => lhs; simp [hN, hz])
    refine AWp.cy ?_
    refine AWp.rg [] [] ?_ (hr := by conv => lhs; simp [hN, hz])
    refine AWp.ret ?_
    try dsimp only [thenQ, blockQ]
    apply endQ.ret
    · rfl
    · conv => lhs; simp [resAV, Tryd.results43]
    rfl
  have hj0 : 0 < s.size := by omega
  have h1c : s[0]? = some s[0] := by rw [getElem?_pos]
  generalize s[0] = c at h1c
  obtain ⟨cn, hcn⟩ : ∃ n : Int, (c.toNat : Int) = n := ⟨_, rfl⟩
  by_cases q1 : 8 < N
  · refine AWp.rg [] [] ?_ (hr := by conv => lhs; simp [hN, h1c, hcn, hz, q1])
    refine AWp.cy ?_
    have hbad := nameB_size (s := s) (by omega)
    rw [hbad]
    refine AWp.rg [] [] ?_ (hr := by conv => lhs; simp [hN, h1c, hcn, hz, q1])
    refine AWp.ret ?_
    try dsimp only [thenQ, blockQ]
    apply endQ.ret
    · rfl
    · conv => lhs; simp [resAV, Tryd.results43]
    rfl
  by_cases q2 : cn < 97
  · refine AWp.rg [] [] ?_ (hr := by conv => lhs; simp [hN, h1c, hcn, hz, q1, q2])
    refine AWp.cy ?_
    have hbad := nameB_bad h1c hj0 (by rw [chOk0]; simp; omega)
    rw [hbad]
    refine AWp.rg [] [] ?_ (hr := by conv => lhs; simp [hN, h1c, hcn, hz, q1, q2])
    refine AWp.ret ?_
    try dsimp only [thenQ, blockQ]
    apply endQ.ret
    · rfl
    · conv => lhs; simp [resAV, Tryd.results43]
    rfl
  by_cases q3 : 122 < cn
  · refine AWp.rg [] [] ?_ (hr := by conv => lhs; simp [hN, h1c, hcn, hz, q1, q2, q3])
    refine AWp.cy ?_
    have hbad := nameB_bad h1c hj0 (by rw [chOk0]; simp; omega)
    rw [hbad]
    refine AWp.rg [] [] ?_ (hr := by conv => lhs; simp [hN, h1c, hcn, hz, q1, q2, q3])
    refine AWp.ret ?_
    try dsimp only [thenQ, blockQ]
    apply endQ.ret
    · rfl
    · conv => lhs; simp [resAV, Tryd.results43]
    rfl
  refine AWp.rg [] [] ?_ (hr := by conv => lhs; simp [hN, h1c, hcn, hz, q1, q2, q3])
  refine AWp.cn ?_
  refine AWp.skip ?_
  have hc0 : 97 ≤ cn ∧ cn ≤ 122 := by omega
  have hN8 : N ≤ 8 ∧ 1 ≤ N := by omega
  refine AWp.rg [] [] ?_ (hr := by conv => lhs; simp [hN])
  repeat (first | refine AWp.seq ?_ | refine AWp.block ?_)
  refine AWp.loop (σ := fun u : {u : Nat // (u ≤ s.size ∧ ∀ j < u, ∀ c, s[j]? = some c → chOk j c = true)} => ⟨50, [(0, .d (.str s)), (23, .d (.int N)), (24, .d (.int (u.1 : Int)))], []⟩)
    (μ := fun u => s.size - u.1) ⟨0, ⟨by omega, by simp⟩⟩ (Le.sub (by simp) (by simp)) (fun ⟨i, hw⟩ => ?_)
  dsimp only
  obtain ⟨hil, hgo⟩ := hw
  by_cases q4 : (i : Int) < N
  · refine AWp.rg [] [] ?_ (hr := by conv => lhs; simp [hN, q4])
    refine AWp.cy ?_
    refine AWp.skip ?_
    have hj1 : i < s.size := by omega
    have h1d : s[i]? = some s[i] := by rw [getElem?_pos]
    generalize s[i] = d at h1d
    have step : chOk i d = true → ∀ j < i + 1, ∀ c, s[j]? = some c → chOk j c = true := fun hc j hj c' hc' => by
      rcases Nat.lt_or_ge j i with h | h
      · exact hgo j h c' hc'
      · obtain rfl : j = i := by omega
        rw [h1d] at hc'
        injection hc' with e
        rw [← e]; exact hc
    have hi0 : i = 0 → d = c := fun e => by
      rw [e, h1c] at h1d
      injection h1d with e2
      exact e2.symm
    obtain ⟨dn, hdn⟩ : ∃ n : Int, (d.toNat : Int) = n := ⟨_, rfl⟩
    have hi1 : i = 0 → dn = cn := fun e => by rw [← hdn, hi0 e, hcn]
    refine AWp.rg [] [] ?_ (hr := by conv => lhs; simp [hN, q4])
    by_cases q5 : dn < 97
    · by_cases q6 : dn < 48
      · refine AWp.rg [] [] ?_ (hr := by conv => lhs; simp [hN, h1d, hdn, q4, q5, q6])
        refine AWp.cy ?_
        have hbad := nameB_bad h1d hj1 (by rw [Bool.eq_false_iff, ne_eq, chOk_iff]; omega)
        rw [hbad]
        refine AWp.rg [] [] ?_ (hr := by conv => lhs; simp [hN, h1d, hdn, q4, q5, q6])
        refine AWp.ret ?_
        try dsimp only [thenQ, blockQ]
        apply endQ.ret
        · rfl
        · conv => lhs; simp [resAV, Tryd.results43]
        rfl
      by_cases q7 : 57 < dn
      · refine AWp.rg [] [] ?_ (hr := by conv => lhs; simp [hN, h1d, hdn, q4, q5, q6, q7])
        refine AWp.cy ?_
        have hbad := nameB_bad h1d hj1 (by rw [Bool.eq_false_iff, ne_eq, chOk_iff]; omega)
        rw [hbad]
        refine AWp.rg [] [] ?_ (hr := by conv => lhs; simp [hN, h1d, hdn, q4, q5, q6, q7])
        refine AWp.ret ?_
        try dsimp only [thenQ, blockQ]
        apply endQ.ret
        · rfl
        · conv => lhs; simp [resAV, Tryd.results43]
        rfl
      refine AWp.rg [] [] ?_ (hr := by conv => lhs; simp [hN, h1d, hdn, q4, q5, q6, q7])
      refine AWp.cn ?_
      refine AWp.skip ?_
      refine AWp.rg [] [] ?_ (hr := by conv => lhs; simp [hN, h1d, hdn, q4, q5, q6, q7])
      refine ⟨⟨i + 1, ⟨by omega, step (by rw [chOk_iff]; omega)⟩⟩, by dsimp only; omega, ?_⟩
      dsimp only
      exact Le.sub (by simp [hN]) (by simp [hN])
    by_cases q8 : 122 < dn
    · have q9 : ¬ (dn < 48) := by omega
      have q10 : (57 < dn) := by omega
      refine AWp.rg [] [] ?_ (hr := by conv => lhs; simp [hN, h1d, hdn, q4, q5, q8, q9, q10])
      refine AWp.cy ?_
      have hbad := nameB_bad h1d hj1 (by rw [Bool.eq_false_iff, ne_eq, chOk_iff]; omega)
      rw [hbad]
      refine AWp.rg [] [] ?_ (hr := by conv => lhs; simp [hN, h1d, hdn, q4, q5, q8, q9, q10])
      refine AWp.ret ?_
      try dsimp only [thenQ, blockQ]
      apply endQ.ret
      · rfl
      · conv => lhs; simp [resAV, Tryd.results43]
      rfl
    refine AWp.rg [] [] ?_ (hr := by conv => lhs; simp [hN, h1d, hdn, q4, q5, q8])
    refine AWp.cn ?_
    refine AWp.skip ?_
    refine AWp.rg [] [] ?_ (hr := by conv => lhs; simp [hN, h1d, hdn, q4, q5, q8])
    refine ⟨⟨i + 1, ⟨by omega, step (by rw [chOk_iff]; omega)⟩⟩, by dsimp only; omega, ?_⟩
    dsimp only
    exact Le.sub (by simp [hN]) (by simp [hN])
  refine AWp.rg [] [] ?_ (hr := by conv => lhs; simp [hN, q4])
  refine AWp.cn ?_
  refine AWp.exit ?_
  obtain rfl : i = s.size := by omega
  rw [nameB_all hgo (by omega) (by omega)]
  refine AWp.rg [] [] ?_ (hr := by conv => lhs; simp [hN, q4])
  refine AWp.ret ?_
  try dsimp only [thenQ, blockQ]
  apply endQ.ret
  · rfl
  · conv => lhs; simp [resAV, Tryd.results43]
  rfl
end Go.Proofs.YtapiiklnnkkdlaaDoor

namespace Go.Proofs.YtapiiklnnkkdlaaDoor
open Go.RowKit
set_option linter.unusedVariables false
set_option linter.unusedSimpArgs false
set_option maxRecDepth 100000 in
set_option maxHeartbeats 4000000 in
theorem tnumber_calls (s : ByteArray) (hs : s.size ≤ 281474976710656) (w : World) (hg : GI w) : Calls Tryd.prog 130 #[.string s] w fun e w' => e = .returned (.tuple #[.int .i64 (numP s).1, .bool (numP s).2]) ∧ Below w.heap.size w w' := by
  have gi : ∀ w' : World, Below w.heap.size w w' → GI w' := fun w' hB => hg.keep fun b hb => hB.block b (hg.lt hb)
  unfold numP
  rcases h : Lib.atoiAll s.data.toList with v | _ | _
  · have hv := Lib.atoiAll_bounds h
    go_enter Tryd.func130, Tryd.ntmps130
    go_wp2_with (first
      | (go_at_call 167; refine (Tryd.strconv_Atoi_ok s (by omega) v h _).mono ?_; rintro e w1 ⟨rfl, hw⟩; have hB : Below w.heap.size w w1 := by
          rcases hw with rfl | ⟨t, rfl⟩
          · exact Below.refl _ _
          · exact Lib.bytesWorld_below _ _ _
         clear hw; have hG := (gi _ hB).pow)
      | (go_at_call 97; refine (Tryd.strconv_Itoa v hv.1 hv.2 _ (by assumption)).mono ?_; rintro e w2 ⟨rfl, k, os, rfl⟩))
    go_ret2
    refine ⟨?_, hB.trans ⟨rfl, rfl, rfl, by simp [Go.Sort.grow, World.drewN], fun b hb => ?_⟩⟩
    · have e1 : (Lib.itoa v == s.toList) = decide ((⟨(Lib.itoa v).toArray⟩ : ByteArray) = s) := by
        have h2 := ByteArray.beq_toList (⟨(Lib.itoa v).toArray⟩ : ByteArray) s
        rwa [ByteArray.toList_eq (⟨(Lib.itoa v).toArray⟩ : ByteArray)] at h2
      show _ = Ending.returned (Value.tuple #[Value.int IntKind.i64 v, Value.bool (decide ((⟨(Lib.itoa v).toArray⟩ : ByteArray) = s))])
      rw [← e1]
      rfl
    simp only [Go.Sort.grow, World.drewN]
    rw [Array.getElem?_append_left (Nat.lt_of_lt_of_le hb hB.size)]
  · obtain ⟨tp, p, hvar⟩ := hg.syn
    go_enter Tryd.func130, Tryd.ntmps130
    go_wp2_with (go_at_call 167; refine (Tryd.strconv_Atoi_syntax_var s hs h tp p _ hvar).mono ?_; rintro e w' ⟨N, rfl, _, _, hB⟩)
    go_ret2
    exact ⟨rfl, hB⟩
  · obtain ⟨tp, p, hvar⟩ := hg.rng
    go_enter Tryd.func130, Tryd.ntmps130
    go_wp2_with (go_at_call 167; refine (Tryd.strconv_Atoi_range_var s hs h tp p _ hvar).mono ?_; rintro e w' ⟨N, rfl, _, _, hB⟩)
    go_ret2
    exact ⟨rfl, hB⟩
theorem sp_number (s : ByteArray) (hs : s.size ≤ 281474976710656) : PSpec Tryd.prog 130 [.d (.str s)] (fun _ => .tuple [.d (.int (numP s).1), .d (.bool (numP s).2)]) none := by
  refine ⟨⟨_, Tryd.func130, rfl, rfl⟩, fun d => rfl, fun _ d => rfl, by simp, fun d w ok vals hgi hok hl hv => ?_⟩
  match vals, hl with
  | ⟨[v]⟩, _ =>
  obtain ⟨rfl, _⟩ := (hv 0 _ v rfl rfl).d_inv.str_inv
  refine (tnumber_calls s hs w hgi).mono ?_
  rintro e w' ⟨rfl, hB⟩
  obtain ⟨h1, h2⟩ := numP_in s
  exact ⟨_, ok, noG, rfl, hB, fun b h => h, fun b h => .inl h, .tuple _ _ rfl (fun i c v hc hv => by
    rcases i with _ | _ | i <;> simp at hc hv <;> subst hc hv
    · exact .d _ _ (.int _ h1 h2)
    · exact .d _ _ (.bool _)), by simp⟩

structure Tst (p q : TS) : Prop where
  le : q.1.length ≤ p.1.length
  suf : ∀ w ∈ q.1, w ∈ p.1
  er : p.2 ≠ 0 → q.2 = p.2
structure Tav (p q : TS) : Prop extends Tst p q where
  on : q.2 ≠ 0 ∨ q.1.length < p.1.length
theorem Tst.rf (p : TS) : Tst p p := ⟨Nat.le_refl _, fun _ h => h, fun _ => rfl⟩
theorem Tst.trans {p q r : TS} (h : Tst p q) (h2 : Tst q r) : Tst p r := ⟨Nat.le_trans h2.le h.le, fun w hw => h.suf w (h2.suf w hw), fun e => by have h3 := h.er e; rw [h2.er (by rw [h3]; exact e), h3]⟩
theorem Tav.then {p q r : TS} (h : Tav p q) (h2 : Tst q r) : Tav p r := ⟨h.toTst.trans h2, by
  rcases h.on with h3 | h3
  · exact .inl (by rw [h2.er h3]; exact h3)
  · exact .inr (Nat.lt_of_le_of_lt h2.le h3)⟩
theorem Tst.bad {p q : TS} {x : Int} (h : Tst p q) : Tst p (badT x q) := ⟨h.le, h.suf, fun e => by
  have h2 := h.er e
  unfold badT
  dsimp only
  rw [badE_er (by rw [h2]; exact e), h2]⟩
theorem Tav.bad {p q : TS} {x : Int} (h : Tav p q) : Tav p (badT x q) := ⟨h.toTst.bad, by
  rcases h.on with h3 | h3
  · exact .inl (by unfold badT; dsimp only; rw [badE_er h3]; exact h3)
  · exact .inr h3⟩
theorem nxT_av (p : TS) : Tav p (nxT p) := by
  obtain ⟨l, e⟩ := p
  cases l with
  | nil => exact ⟨⟨Nat.le_refl _, fun _ h => h, fun h => badE_er h⟩, .inl (badE_ne (by decide))⟩
  | cons w r => exact ⟨⟨by simp [nxT], fun w h => List.mem_cons_of_mem _ h, fun _ => rfl⟩, .inr (by simp [nxT])⟩
theorem wantT_av (w : ByteArray) (p : TS) : Tav p (wantT w p) := by
  unfold wantT
  split
  · exact nxT_av p
  · exact (nxT_av p).bad
theorem namT_av (p : TS) : Tav p (namT p).2 := by
  unfold namT
  dsimp only
  split
  · exact nxT_av p
  · exact (nxT_av p).bad
theorem tagT_av (p : TS) : Tav p (tagT p).2 := by
  unfold tagT
  split
  · dsimp only
    split
    · exact nxT_av p
    · exact (nxT_av p).bad
  · exact (nxT_av p).bad
theorem manyT_st {α : Type} {one : TS → α × TS} (ho : ∀ p, Tav p (one p).2) : ∀ (n : Nat) (p : TS), Tst p (manyT one n p).2
  | 0, p => Tst.rf p
  | n + 1, p => by
    rw [manyT]
    split
    · split
      · exact (wantT_av _ p).toTst
      · exact (ho p).toTst.trans (manyT_st ho n _)
    · exact (wantT_av _ p).toTst
theorem casT_av {N : Nat} {one : TS → Tm × TS} (ho : ∀ p, Tav p (one p).2) (p : TS) : Tav p (casT N one p).2 := by
  unfold casT
  dsimp only
  exact (wantT_av lbr p).then ((tagT_av _).toTst.trans ((wantT_av lbr _).toTst.trans ((manyT_st namT_av N _).trans ((ho _).toTst.trans (wantT_av rbr _).toTst))))
theorem atomT_av (p : TS) : Tav p (atomT p).2 := by
  unfold atomT
  split
  · exact nxT_av p
  · dsimp only
    split
    · exact nxT_av p
    · exact (nxT_av p).bad
theorem formT_av {N : Nat} {one : TS → Tm × TS} (ho : ∀ p, Tav p (one p).2) (p : TS) : Tav p (formT N one p).2 := by
  unfold formT
  split
  · exact (tagT_av p).then (manyT_st ho N _)
  split
  · exact (nxT_av p).then ((namT_av _).toTst.trans ((ho _).toTst.trans ((ho _).toTst.trans (wantT_av rbr _).toTst)))
  split
  · exact (nxT_av p).then ((ho _).toTst.trans (manyT_st (casT_av ho) N _))
  split
  · exact (nxT_av p).then ((ho _).toTst.trans ((ho _).toTst.trans (wantT_av rbr _).toTst))
  · exact (namT_av p).then (manyT_st ho N _)
theorem ts_av (N n : Nat) : ∀ p, Tav p (Tm.ts N n p).2 := by
  induction n with
  | zero => intro p; rw [Tm.ts]; exact ⟨(Tst.rf p).bad, .inl (badE_ne (by decide))⟩
  | succ n ih =>
    intro p
    rw [Tm.ts]
    split
    · exact (nxT_av p).then (formT_av ih _).toTst
    · exact atomT_av p
theorem fnT_av (N : Nat) (p : TS) : Tav p (fnT N p).2 := by
  unfold fnT
  dsimp only
  exact (wantT_av lbr p).then ((wantT_av wFn _).toTst.trans ((namT_av _).toTst.trans ((wantT_av lbr _).toTst.trans ((manyT_st namT_av N _).trans ((ts_av N 25 _).toTst.trans (wantT_av rbr _).toTst)))))
structure Lok (l : List ByteArray) : Prop where
  len : l.length ≤ 1600
  sz : ∀ w ∈ l, w.size ≤ 1600
theorem Lok.of {p q : TS} (h : Lok p.1) (h2 : Tst p q) : Lok q.1 := ⟨Nat.le_trans h2.le h.len, fun w hw => h.sz w (h2.suf w hw)⟩
theorem Lok.hd {l : List ByteArray} (h : Lok l) : (hdT l).size ≤ 1600 := by
  cases l with
  | nil => show 0 ≤ 1600; omega
  | cons w r => exact h.sz w (List.mem_cons_self ..)
theorem manyT_one {α : Type} {one : TS → α × TS} {m : Nat} {p : TS} {us : List α} {R : List α × TS} (he : p.2 = 0) (hw : ¬ hdT p.1 = rbr) : (R = (us ++ (manyT one (m + 1) p).1, (manyT one (m + 1) p).2)) = (R = (us ++ ((one p).1 :: (manyT one m (one p).2).1), (manyT one m (one p).2).2)) := by
  rw [manyT, if_pos he, if_neg hw]
theorem manyT_end {α : Type} {one : TS → α × TS} {m : Nat} {p : TS} {us : List α} {R : List α × TS} (he : p.2 = 0) (hw : hdT p.1 = rbr) : (R = (us ++ (manyT one (m + 1) p).1, (manyT one (m + 1) p).2)) = (R = (us ++ [], wantT rbr p)) := by
  rw [manyT, if_pos he, if_pos hw]
theorem manyT_err {α : Type} {one : TS → α × TS} {m : Nat} {p : TS} {us : List α} {R : List α × TS} (he : ¬ p.2 = 0) : (R = (us ++ (manyT one (m + 1) p).1, (manyT one (m + 1) p).2)) = (R = (us ++ [], wantT rbr p)) := by
  rw [manyT, if_neg he]
end Go.Proofs.YtapiiklnnkkdlaaDoor
