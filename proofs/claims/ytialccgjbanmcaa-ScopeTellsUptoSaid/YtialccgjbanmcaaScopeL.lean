/- Chapter 2's laws, by the abstract machine. Printed by walk_scope.py. -/
import Derived.Test.YtialccgjbanmcaaCheckD
namespace Go.Proofs.Ytialccgjbanmcaa
open Go.RowKit
attribute [local simp] runD mkRc dstOk guardOk opEff opEff0 effOp pureOp callOp zEff evA constAV frGet memGet startAS frOf isGoCall idIn AS.after nextR opnIds objIds AV.ids idsL AObj.ids frNo memNo opnAny isAny mkVal rdCells wrCells fldAddr idxAddr srcRows litRows toD1 toDs setAt sliceAV optI partAV bldAV fillAV binAV binI AV.cells callEff calleeOf frKill memKill AV.kill AObj.kill AV.has AV.hasL Op.operands Call.operands keepF keepM viewIds cChk renOf moGet moWs moQ cEff moLike moHave AV.ren renL AObj.ren AObj.like kept startC moMem AV.frz frz1 frzL frSub memSub frzs AS.frz frFrz memFrz AObj.frz takeMap takeLen bleF Nat.ble_eq memAny objAny mapOp D.keyOk rowAV valRow extOp wrapOp frLow memLow memLow1 objLow memEmpty Low LowL
set_option linter.unusedVariables false
set_option linter.unusedSimpArgs false

abbrev mt : ByteArray := ⟨#[]⟩
def noN (s : ByteArray) (l : List ByteArray) : List ByteArray := l.filter fun x => decide (x ≠ s)
theorem noN_nil (s : ByteArray) : noN s [] = [] := rfl
theorem noN_len (s : ByteArray) (l : List ByteArray) : (noN s l).length ≤ l.length := List.length_filter_le _ _
theorem noN_append (s : ByteArray) (a b : List ByteArray) : noN s (a ++ b) = noN s a ++ noN s b := List.filter_append ..
theorem free_let (s : ByteArray) (t : Tm) : (Tm.mk 6 0 s mt [] [.mk 2 0 mt mt [] [] [], t] []).free = noN s t.free := by
  have e : woN t.free [s] = noN s t.free := by
    unfold woN noN hasB
    refine List.filter_congr fun x _ => ?_
    by_cases h : x = s
    · subst h; simp
    · have h' : ¬ s = x := fun e => h e.symm
      simp [h, h']
  have e2 : (Tm.mk 2 0 mt mt [] [] []).free = [] := by simp [Tm.free, Tm.frees, Cs.frees]
  have hn : (noN s t.free).Nodup := t.free_nodup.sublist List.filter_sublist
  rw [Tm.free, if_neg (by decide), if_pos (by simp), Tm.freeL, Tm.freeB, e, e2, show addN [] [] = ([] : List ByteArray) from rfl, addN_nil hn]


theorem sp_name (s : ByteArray) : PSpec Try.prog 52 [.d (.str s)] (fun _ => tmAV (.mk 1 0 s mt [] [] [])) none := by
  refine PSpec.of Try.func52 rfl rfl rfl (Nat.le_of_ble_eq_true rfl) ?_
  show AWp _ _ (endQ _ Try.f52 _ _ _) (startAS 5 _)
  repeat (first | refine AWp.seq ?_ | refine AWp.block ?_)
  apply AWp.reg [] []
  · conv => lhs; simp
  · trivial
  repeat (first | refine AWp.seq ?_ | refine AWp.block ?_)
  apply AWp.reg [] []
  · conv => lhs; simp
  · trivial
  refine AWp.ret ?_
  try dsimp only [thenQ, blockQ]
  apply endQ.ret
  · rfl
  · conv => lhs; simp [resAV, Try.results52]
  · rfl
theorem sp_let (s : ByteArray) (a b : Tm) : PSpec Try.prog 30 [.d (.str s), tmAV a, tmAV b] (fun _ => tmAV (.mk 6 0 s mt [] [a, b] [])) none := by
  obtain ⟨ak, an, aa, ab, av, ax, ac⟩ := a
  obtain ⟨xk, xn, xa, xb, xv, xx, xc⟩ := b
  refine PSpec.of Try.func30 rfl rfl rfl (Nat.le_of_ble_eq_true rfl) ?_
  show AWp _ _ (endQ _ Try.f30 _ _ _) (startAS 12 _)
  repeat (first | refine AWp.seq ?_ | refine AWp.block ?_)
  apply AWp.reg [] []
  · conv => lhs; simp
  · trivial
  repeat (first | refine AWp.seq ?_ | refine AWp.block ?_)
  apply AWp.reg [3] []
  · conv => lhs; simp [Tm.row, Tm.rows_eq, Cs.rows_eq]
  · trivial
  refine AWp.ret ?_
  try dsimp only [thenQ, blockQ]
  apply endQ.ret
  · rfl
  · conv => lhs; simp [resAV, Try.results30]
  · simp [Tm.row, Tm.rows_eq, Cs.rows_eq, resVal, AV.nilD, nilDL]
    rfl

abbrev alY : ByteArray := ⟨#[121]⟩
abbrev alX : ByteArray := ⟨#[120]⟩
abbrev alW : ByteArray := ⟨#[119]⟩
abbrev alZ : ByteArray := ⟨#[122]⟩
abbrev alF : ByteArray := ⟨#[102]⟩
abbrev alV (s : ByteArray) : Tm := .mk 1 0 s mt [] [] []
abbrev alL (s : ByteArray) (a b : Tm) : Tm := .mk 6 0 s mt [] [a, b] []
abbrev alT : Tm := alL alX (alV alY) (alL alZ (alV alX) (alV alW))
abbrev al1 : Fn := ⟨alF, [alY, alW], alT⟩
abbrev al2 : Fn := ⟨alF, [], alT⟩
theorem bsz1 (c : UInt8) : (⟨#[c]⟩ : ByteArray).size = 1 := rfl
theorem bsz0 : mt.size = 0 := rfl
theorem one_max (c : UInt8) : ((⟨#[c]⟩ : ByteArray).size ≤ maxLen) = True := by rw [bsz1]; simp [maxLen]
theorem alT_ok : alT.Ok := by
  simp only [Tm.Ok, Tm.Oks, Cs.Oks, bsz1, bsz0, List.length_nil, List.length_cons]
  repeat' apply And.intro
  all_goals first | trivial | omega | (intro s h; cases h)
theorem alT_sz : alT.sz = 5 := by kernel_rfl
theorem alT_free : alT.free = [alY, alW] := by kernel_rfl
theorem al1_ok : FnsOk [al1] := ⟨by simp, fun f hf => by
  rw [List.mem_singleton] at hf
  subst hf
  exact ⟨by rw [bsz1]; omega, by simp only [List.length_cons, List.length_nil]; omega, fun s hs => by
    rcases List.mem_cons.1 hs with rfl | hs
    · rw [bsz1]; omega
    · rw [List.mem_singleton.1 hs, bsz1]; omega, alT_ok⟩⟩
theorem al2_ok : FnsOk [al2] := ⟨by simp, fun f hf => by
  rw [List.mem_singleton] at hf
  subst hf
  exact ⟨by rw [bsz1]; omega, by simp only [List.length_nil]; omega, fun s hs => (by cases hs), alT_ok⟩⟩
theorem al1_check : checkE [al1] = 0 := by kernel_rfl
theorem al2_check : checkE [al2] = 6 := by kernel_rfl

set_option maxRecDepth 20000 in
set_option maxHeartbeats 16000000 in
theorem sp_alive : PSpec Try.prog 29 [] (fun _ => .d (.bool true)) none := by
  have n1 := sp_name alY
  have n2 := sp_name alX
  have n3 := sp_name alW
  have l1 := sp_let alZ (alV alX) (alV alW)
  have l2 := sp_let alX (alV alY) (alL alZ (alV alX) (alV alW))
  have hf := sp_Free alT ⟨alT_ok, by rw [alT_sz]; omega⟩
  rw [alT_free] at hf
  have hsz := sp_scSize alT alT_ok
  rw [alT_sz, show wr ((5 : Nat) : Int) = 5 from rfl] at hsz
  have how := sp_Own alT alT_ok
  have hsm := sp_scSame alT alT alT_ok
  rw [eqB_self] at hsm
  have hc1 := sp_scCheck [al1] al1_ok
  rw [al1_check] at hc1
  have hc2 := sp_scCheck [al2] al2_ok
  rw [al2_check] at hc2
  have hfn := sp_Fns [al1] al1_ok
  simp only [fnsAV, List.map_cons, List.map_nil, Fn.row, Tm.row, Tm.rows_eq, Cs.rows_eq] at hc1 hc2 hfn
  refine PSpec.of Try.func29 rfl rfl rfl (Nat.le_of_ble_eq_true rfl) ?_
  show AWp _ _ (endQ _ Try.f29 _ _ _) (startAS 60 _)
  repeat (first | refine AWp.seq ?_ | refine AWp.block ?_)
  apply AWp.reg [] []
  · conv => lhs; simp
  · trivial
  repeat (first | refine AWp.seq ?_ | refine AWp.block ?_)
  apply AWp.reg [] [.p (fun _ => tmAV (alV alY)) none, .p (fun _ => tmAV (alV alX)) none, .p (fun _ => tmAV (alV alW)) none, .p (fun _ => tmAV (alL alZ (alV alX) (alV alW))) none, .p (fun _ => tmAV alT) none]
  · conv => lhs; simp
  · (repeat' apply And.intro) <;> first | omega | assumption | trivial | (simp [inI, maxLen]; done) | (simp [inI, maxLen]; omega)
  repeat (first | refine AWp.seq ?_ | refine AWp.block ?_)
  apply AWp.reg [1] [.p (fun d => .arr d 0 2) (some (.arr 9 1 ([alY, alW].map strR)))]
  · conv => lhs; simp
  · (repeat' apply And.intro) <;> first | omega | assumption | trivial | (simp [inI, maxLen]; done) | (simp [inI, maxLen]; omega)
  repeat (first | refine AWp.seq ?_ | refine AWp.block ?_)
  apply AWp.reg [0] []
  · conv => lhs; simp [one_max, Fn.row, Tm.row, Tm.rows_eq, Cs.rows_eq]
  · (repeat' apply And.intro) <;> first | omega | assumption | trivial | (simp [inI, maxLen]; done) | (simp [inI, maxLen]; omega)
  repeat (first | refine AWp.seq ?_ | refine AWp.block ?_)
  apply AWp.draw [28, 35, 41] [.p (fun _ => .d (.int 5)) none, .p (fun _ => tmAV alT) none, .p (fun _ => .d (.bool true)) none, .p (fun _ => .d (.int 0)) none, .p (fun _ => .d (.int 6)) none, .p (fun _ => .d (.sl [Fn.row al1])) none] mixed
  · conv => lhs; simp [one_max, Fn.row, Tm.row, Tm.rows_eq, Cs.rows_eq]
  · kernel_rfl
  · (repeat' apply And.intro) <;> first | omega | assumption | trivial | (simp [inI, maxLen]; done) | (simp [inI, maxLen]; omega)
  refine AWp.ret ?_
  try dsimp only [thenQ, blockQ]
  apply endQ.ret
  · rfl
  · conv => lhs; simp [resAV, Try.results29]
  · rfl

set_option maxRecDepth 20000 in
set_option maxHeartbeats 16000000 in
theorem sp_ScopeTells (l : List Fn) (a b : Tm) (hl : FnsOk l) (ha : a.Fit) : PSpec Try.prog 4 [fnsAV l, tmAV a, tmAV b] (fun _ => .d (.bool true)) none := by
  have h1 := sp_Own a ha.ok
  have h2 := sp_refSame a a ha.ok
  have h3 := sp_Fns l hl
  have h4 := sp_SameFns l l hl.len hl.fn
  have h5 := sp_scSame a b ha.ok
  have h6 := sp_refSame a b ha.ok
  have h7 := sp_scSame a a ha.ok
  have h8 := sp_scSize a ha.ok
  have h9 := sp_refSize a ha.ok
  have hA := sp_Free a ha
  have hB := sp_refFree a ha
  have hnl := Tm.free_len a
  have hsz := ha.sz
  have hC := sp_SameNames a.free a.free (by omega)
  have hD := sp_scCheck l hl
  have hE := sp_refCheck l hl
  rw [eqB_self] at h2 h4 h7 hC
  generalize eqB a b = x at h5 h6
  obtain ⟨S, hS⟩ : ∃ S, S = wr a.sz := ⟨_, rfl⟩
  obtain ⟨T, hT⟩ : ∃ T, T = wr a.sz := ⟨_, rfl⟩
  have hST : (S = T) = True := eq_true (hS.trans hT.symm)
  rw [← hS] at h8
  rw [← hT] at h9
  generalize a.free = need at hA hB hC hnl
  obtain ⟨E, hEE⟩ : ∃ E, E = checkE l := ⟨_, rfl⟩
  obtain ⟨G, hG⟩ : ∃ G, G = checkE l := ⟨_, rfl⟩
  have hEG : (E = G) = True := eq_true (hEE.trans hG.symm)
  rw [← hEE] at hD
  rw [← hG] at hE
  obtain ⟨xk, xn, xa, xb, xv, xx, xc⟩ := a
  obtain ⟨yk, yn, ya, yb, yv, yx, yc⟩ := b
  refine PSpec.of Try.func4 rfl rfl rfl (Nat.le_of_ble_eq_true rfl) ?_
  show AWp _ _ (endQ _ Try.f4 _ _ _) (startAS 54 _)
  repeat (first | refine AWp.seq ?_ | refine AWp.block ?_)
  apply AWp.reg [] []
  · conv => lhs; simp
  · trivial
  repeat (first | refine AWp.seq ?_ | refine AWp.block ?_)
  apply AWp.draw [36, 38] [.p (fun _ => tmAV (.mk xk xn xa xb xv xx xc)) none, .p (fun _ => .d (.bool true)) none, .p (fun _ => fnsAV l) none, .p (fun _ => .d (.bool true)) none, .p (fun _ => .d (.bool x)) none, .p (fun _ => .d (.bool x)) none, .p (fun _ => .d (.bool true)) none, .p (fun _ => .d (.int S)) none, .p (fun _ => .d (.int T)) none, .p (fun d => .arr d 0 need.length) (some (.arr 9 1 (need.map strR))), .p (fun d => .arr d 0 need.length) (some (.arr 9 1 (need.map strR))), .p (fun _ => .d (.bool true)) none] mixed
  · conv => lhs; simp [hST, Try.underlying4]
  · kernel_rfl
  · (repeat' apply And.intro) <;> first | omega | assumption | trivial | (simp [inI, maxLen]; done) | (simp [inI, maxLen]; omega)
  repeat (first | refine AWp.seq ?_ | refine AWp.block ?_)
  refine AWp.cond rfl (fun h => ?_) (fun h => ?_)
  · cases h
  refine AWp.skip ?_
  repeat (first | refine AWp.seq ?_ | refine AWp.block ?_)
  apply AWp.reg [] [.p (fun _ => .d (.int E)) none, .p (fun _ => .d (.int G)) none]
  · conv => lhs; simp [hEG]
  · (repeat' apply And.intro) <;> first | omega | assumption | trivial | (simp [inI, maxLen]; done) | (simp [inI, maxLen]; omega)
  refine AWp.ret ?_
  try dsimp only [thenQ, blockQ]
  apply endQ.ret
  · rfl
  · conv => lhs; simp [resAV, Try.results4]
  · rfl

set_option maxRecDepth 20000 in
set_option maxHeartbeats 16000000 in
theorem sp_ScopeNeeds (l : List Fn) (k p : Int) (hl : FnsOk l) : PSpec Try.prog 6 [fnsAV l, .d (.int k), .d (.int p)] (fun _ => .d (.bool true)) none := by
  have hll := hl.len
  obtain ⟨C, hC⟩ : ∃ C : Int, (l.length : Int) = C := ⟨_, rfl⟩
  refine PSpec.of Try.func6 rfl rfl rfl (Nat.le_of_ble_eq_true rfl) ?_
  show AWp _ _ (endQ _ Try.f6 _ _ _) (startAS 85 _)
  repeat (first | refine AWp.seq ?_ | refine AWp.block ?_)
  apply AWp.reg [] []
  · conv => lhs; simp [Fn.row, Tm.row, Tm.rows_eq, Cs.rows_eq, tmCells, hC]
  · (repeat' apply And.intro) <;> first | omega | assumption | trivial | (simp [inI, maxLen]; done) | (simp [inI, maxLen]; omega)
  have hal := sp_alive
  repeat (first | refine AWp.seq ?_ | refine AWp.block ?_)
  apply AWp.reg [] [.p (fun _ => .d (.bool true)) none]
  · conv => lhs; simp [Fn.row, Tm.row, Tm.rows_eq, Cs.rows_eq, tmCells, hC]
  · (repeat' apply And.intro) <;> first | omega | assumption | trivial | (simp [inI, maxLen]; done) | (simp [inI, maxLen]; omega)
  repeat (first | refine AWp.seq ?_ | refine AWp.block ?_)
  refine AWp.cond rfl (fun hc => ?_) (fun hc => ?_)
  · cases hc
  refine AWp.skip ?_
  have hck := sp_scCheck l hl
  obtain ⟨E, hE⟩ : ∃ E, E = checkE l := ⟨_, rfl⟩
  rw [← hE] at hck
  by_cases q1 : E = 0
  · rw [q1] at hck
    by_cases q2 : k < 0
    · repeat (first | refine AWp.seq ?_ | refine AWp.block ?_)
      apply AWp.reg [] [.p (fun _ => .d (.int E)) none]
      · conv => lhs; simp [Fn.row, Tm.row, Tm.rows_eq, Cs.rows_eq, tmCells, hC, q1, q2]
      · (repeat' apply And.intro) <;> first | omega | assumption | trivial | (simp [inI, maxLen]; done) | (simp [inI, maxLen]; omega)
      repeat (first | refine AWp.seq ?_ | refine AWp.block ?_)
      refine AWp.cond rfl (fun hc => ?_) (fun hc => ?_)
      rotate_left
      · cases hc
      repeat (first | refine AWp.seq ?_ | refine AWp.block ?_)
      apply AWp.reg [] []
      · conv => lhs; simp [Fn.row, Tm.row, Tm.rows_eq, Cs.rows_eq, tmCells, hC, q1, q2]
      · (repeat' apply And.intro) <;> first | omega | assumption | trivial | (simp [inI, maxLen]; done) | (simp [inI, maxLen]; omega)
      refine AWp.ret ?_
      try dsimp only [thenQ, blockQ]
      apply endQ.ret
      · rfl
      · conv => lhs; simp [resAV, Try.results6]
      · rfl
    by_cases q3 : C ≤ k
    · repeat (first | refine AWp.seq ?_ | refine AWp.block ?_)
      apply AWp.reg [] [.p (fun _ => .d (.int E)) none]
      · conv => lhs; simp [Fn.row, Tm.row, Tm.rows_eq, Cs.rows_eq, tmCells, hC, q1, q2, q3]
      · (repeat' apply And.intro) <;> first | omega | assumption | trivial | (simp [inI, maxLen]; done) | (simp [inI, maxLen]; omega)
      repeat (first | refine AWp.seq ?_ | refine AWp.block ?_)
      refine AWp.cond rfl (fun hc => ?_) (fun hc => ?_)
      rotate_left
      · cases hc
      repeat (first | refine AWp.seq ?_ | refine AWp.block ?_)
      apply AWp.reg [] []
      · conv => lhs; simp [Fn.row, Tm.row, Tm.rows_eq, Cs.rows_eq, tmCells, hC, q1, q2, q3]
      · (repeat' apply And.intro) <;> first | omega | assumption | trivial | (simp [inI, maxLen]; done) | (simp [inI, maxLen]; omega)
      refine AWp.ret ?_
      try dsimp only [thenQ, blockQ]
      apply endQ.ret
      · rfl
      · conv => lhs; simp [resAV, Try.results6]
      · rfl
    repeat (first | refine AWp.seq ?_ | refine AWp.block ?_)
    apply AWp.reg [] [.p (fun _ => .d (.int E)) none]
    · conv => lhs; simp [Fn.row, Tm.row, Tm.rows_eq, Cs.rows_eq, tmCells, hC, q1, q2, q3]
    · (repeat' apply And.intro) <;> first | omega | assumption | trivial | (simp [inI, maxLen]; done) | (simp [inI, maxLen]; omega)
    repeat (first | refine AWp.seq ?_ | refine AWp.block ?_)
    refine AWp.cond rfl (fun hc => ?_) (fun hc => ?_)
    · cases hc
    refine AWp.skip ?_
    have hE0 : checkE l = 0 := by omega
    have hrt := (check_zero hE0).2.2.2
    obtain ⟨kn, rfl⟩ : ∃ kn : Nat, k = kn := ⟨k.toNat, by omega⟩
    have hk1 : kn < l.length := by omega
    have h1l : l[kn]? = some l[kn] := List.getElem?_eq_getElem hk1
    have hml : l[kn] ∈ l := List.getElem_mem hk1
    generalize l[kn] = x at h1l hml
    have hr := hrt _ hml
    have hfo := hl.all _ hml
    obtain ⟨g, ps, bd⟩ := x
    obtain ⟨o1, o2, o3, o4⟩ := hfo
    obtain ⟨r1, r2, r3, r4, r5, r6⟩ := hr
    dsimp only at o1 o2 o3 o4 r1 r2 r3 r4 r5 r6
    have hfr := sp_Free bd ⟨o4, by omega⟩
    have hnd := wrong_free _ _ bd ps 0 (Nat.lt_succ_self _) r6
    have hnl := Tm.free_len bd
    obtain ⟨need, hneed⟩ : ∃ need, need = bd.free := ⟨_, rfl⟩
    rw [← hneed] at hfr hnd hnl
    obtain ⟨NL, hNL⟩ : ∃ NL : Int, (need.length : Int) = NL := ⟨_, rfl⟩
    obtain ⟨xk, xn, xa, xb, xv, xx, xc⟩ := bd
    repeat (first | refine AWp.seq ?_ | refine AWp.block ?_)
    apply AWp.reg [] []
    · conv => lhs; simp [Fn.row, Tm.row, Tm.rows_eq, Cs.rows_eq, tmCells, h1l, hNL, q1, q2, q3]
    · (repeat' apply And.intro) <;> first | omega | assumption | trivial | (simp [inI, maxLen]; done) | (simp [inI, maxLen]; omega)
    repeat (first | refine AWp.seq ?_ | refine AWp.block ?_)
    apply AWp.reg [2] [.p (fun d => .arr d 0 need.length) (some (.arr 9 1 (need.map strR)))]
    · conv => lhs; simp [Fn.row, Tm.row, Tm.rows_eq, Cs.rows_eq, tmCells, h1l, hNL, q1, q2, q3]
    · (repeat' apply And.intro) <;> first | omega | assumption | trivial | (simp [inI, maxLen]; done) | (simp [inI, maxLen]; omega)
    repeat (first | refine AWp.seq ?_ | refine AWp.block ?_)
    apply AWp.reg [] []
    · conv => lhs; simp [Fn.row, Tm.row, Tm.rows_eq, Cs.rows_eq, tmCells, h1l, hNL, q1, q2, q3]
    · (repeat' apply And.intro) <;> first | omega | assumption | trivial | (simp [inI, maxLen]; done) | (simp [inI, maxLen]; omega)
    repeat (first | refine AWp.seq ?_ | refine AWp.block ?_)
    refine AWp.loop (σ := fun u : {i : Nat // i ≤ need.length} => ⟨85, [(2, .d (.int p)), (7, .ptr 7 0), (8, strsAV need), (36, strsAV need), (37, .d (.int need.length)), (38, .d (.int u.1))], [(7, some (.blk 56 (.d (.str g) :: .d (strsD ps) :: tmCells xk xn xa xb xv xx xc)))]⟩)
      (μ := fun u => need.length - u.1) ⟨0, Nat.zero_le _⟩ (Le.sub (by simp [tmCells, hNL]) (by simp [tmCells, hNL])) (fun ⟨i, hi⟩ => ?_)
    dsimp only
    repeat (first | refine AWp.seq ?_ | refine AWp.block ?_)
    apply AWp.reg [] []
    · conv => lhs; simp
    · trivial
    repeat (first | refine AWp.seq ?_ | refine AWp.block ?_)
    refine AWp.cond rfl (fun hci => ?_) (fun hci => ?_)
    · have hi1 : i < need.length := by have := of_decide_eq_true hci; omega
      have h1s : need[i]? = some need[i] := List.getElem?_eq_getElem hi1
      have hms : need[i] ∈ need := List.getElem_mem hi1
      have hds : need.drop i = need[i] :: need.drop (i + 1) := List.drop_eq_getElem_cons hi1
      generalize need[i] = s at h1s hms hds
      have hHas := sp_Has ps s (by omega)
      rw [hasB_iff.2 (hnd s hms)] at hHas
      refine AWp.skip ?_
      repeat (first | refine AWp.seq ?_ | refine AWp.block ?_)
      apply AWp.reg [] []
      · conv => lhs; simp [Fn.row, Tm.row, Tm.rows_eq, Cs.rows_eq, tmCells, h1s, hNL, q1, q2, q3]
      · (repeat' apply And.intro) <;> first | omega | assumption | trivial | (simp [inI, maxLen]; done) | (simp [inI, maxLen]; omega)
      repeat (first | refine AWp.seq ?_ | refine AWp.block ?_)
      apply AWp.reg [] [.p (fun _ => .d (.bool true)) none]
      · conv => lhs; simp [Fn.row, Tm.row, Tm.rows_eq, Cs.rows_eq, tmCells, h1s, hNL, q1, q2, q3]
      · (repeat' apply And.intro) <;> first | omega | assumption | trivial | (simp [inI, maxLen]; done) | (simp [inI, maxLen]; omega)
      repeat (first | refine AWp.seq ?_ | refine AWp.block ?_)
      refine AWp.cond rfl (fun hc => ?_) (fun hc => ?_)
      · cases hc
      refine AWp.skip ?_
      repeat (first | refine AWp.seq ?_ | refine AWp.block ?_)
      apply AWp.reg [] []
      · conv => lhs; simp [Fn.row, Tm.row, Tm.rows_eq, Cs.rows_eq, tmCells, h1s, hNL, q1, q2, q3]
      · (repeat' apply And.intro) <;> first | omega | assumption | trivial | (simp [inI, maxLen]; done) | (simp [inI, maxLen]; omega)
      refine ⟨⟨i + 1, hi1⟩, by simp; omega, ?_⟩
      dsimp only
      exact Le.sub (by simp [hNL]) (by simp [tmCells])
    have hi1 : i = need.length := by have := of_decide_eq_false hci; omega
    subst hi1
    clear hci
    refine AWp.exit ?_
    by_cases q4 : p < 0
    · repeat (first | refine AWp.seq ?_ | refine AWp.block ?_)
      apply AWp.reg [] []
      · conv => lhs; simp [Fn.row, Tm.row, Tm.rows_eq, Cs.rows_eq, tmCells, hNL, q1, q2, q3, q4]
      · (repeat' apply And.intro) <;> first | omega | assumption | trivial | (simp [inI, maxLen]; done) | (simp [inI, maxLen]; omega)
      repeat (first | refine AWp.seq ?_ | refine AWp.block ?_)
      refine AWp.cond rfl (fun hc => ?_) (fun hc => ?_)
      rotate_left
      · cases hc
      repeat (first | refine AWp.seq ?_ | refine AWp.block ?_)
      apply AWp.reg [] []
      · conv => lhs; simp [Fn.row, Tm.row, Tm.rows_eq, Cs.rows_eq, tmCells, hNL, q1, q2, q3, q4]
      · (repeat' apply And.intro) <;> first | omega | assumption | trivial | (simp [inI, maxLen]; done) | (simp [inI, maxLen]; omega)
      refine AWp.ret ?_
      try dsimp only [thenQ, blockQ]
      apply endQ.ret
      · rfl
      · conv => lhs; simp [resAV, Try.results6]
      · rfl
    by_cases q5 : NL ≤ p
    · repeat (first | refine AWp.seq ?_ | refine AWp.block ?_)
      apply AWp.reg [] []
      · conv => lhs; simp [Fn.row, Tm.row, Tm.rows_eq, Cs.rows_eq, tmCells, hNL, q1, q2, q3, q4, q5]
      · (repeat' apply And.intro) <;> first | omega | assumption | trivial | (simp [inI, maxLen]; done) | (simp [inI, maxLen]; omega)
      repeat (first | refine AWp.seq ?_ | refine AWp.block ?_)
      refine AWp.cond rfl (fun hc => ?_) (fun hc => ?_)
      rotate_left
      · cases hc
      repeat (first | refine AWp.seq ?_ | refine AWp.block ?_)
      apply AWp.reg [] []
      · conv => lhs; simp [Fn.row, Tm.row, Tm.rows_eq, Cs.rows_eq, tmCells, hNL, q1, q2, q3, q4, q5]
      · (repeat' apply And.intro) <;> first | omega | assumption | trivial | (simp [inI, maxLen]; done) | (simp [inI, maxLen]; omega)
      refine AWp.ret ?_
      try dsimp only [thenQ, blockQ]
      apply endQ.ret
      · rfl
      · conv => lhs; simp [resAV, Try.results6]
      · rfl
    repeat (first | refine AWp.seq ?_ | refine AWp.block ?_)
    apply AWp.reg [] []
    · conv => lhs; simp [Fn.row, Tm.row, Tm.rows_eq, Cs.rows_eq, tmCells, hNL, q1, q2, q3, q4, q5]
    · (repeat' apply And.intro) <;> first | omega | assumption | trivial | (simp [inI, maxLen]; done) | (simp [inI, maxLen]; omega)
    repeat (first | refine AWp.seq ?_ | refine AWp.block ?_)
    refine AWp.cond rfl (fun hc => ?_) (fun hc => ?_)
    · cases hc
    refine AWp.skip ?_
    obtain ⟨pn, rfl⟩ : ∃ pn : Nat, p = pn := ⟨p.toNat, by omega⟩
    have hp1 : pn < need.length := by omega
    have hnp : need[pn]? = some need[pn] := List.getElem?_eq_getElem hp1
    have hmn : need[pn] ∈ need := List.getElem_mem hp1
    generalize need[pn] = s at hnp hmn
    repeat (first | refine AWp.seq ?_ | refine AWp.block ?_)
    apply AWp.reg [] []
    · conv => lhs; simp [Fn.row, Tm.row, Tm.rows_eq, Cs.rows_eq, tmCells, hNL, q1, q2, q3, q4, q5]
    · (repeat' apply And.intro) <;> first | omega | assumption | trivial | (simp [inI, maxLen]; done) | (simp [inI, maxLen]; omega)
    repeat (first | refine AWp.seq ?_ | refine AWp.block ?_)
    apply AWp.reg [] []
    · conv => lhs; simp [Fn.row, Tm.row, Tm.rows_eq, Cs.rows_eq, tmCells, hNL, q1, q2, q3, q4, q5]
    · (repeat' apply And.intro) <;> first | omega | assumption | trivial | (simp [inI, maxLen]; done) | (simp [inI, maxLen]; omega)
    repeat (first | refine AWp.seq ?_ | refine AWp.block ?_)
    refine AWp.le (Le.low [400] [] (fr := [(2, .d (.int pn)), (8, strsAV need), (11, .ptr 11 0), (62, strsAV ps), (63, .d (.int ps.length)), (64, .d (.int 0))]) (mem := [(400, some (.arr 9 1 ((noN s (ps.take 0)).map strR))), (11, some (.blk 56 (.d (.str g) :: .arr 400 0 (noN s (ps.take 0)).length :: tmCells xk xn xa xb xv xx xc)))]) rfl (by simp [tmCells, noN_nil]) (by simp [tmCells, noN_nil])) ?_
    refine AWp.loop (σ := fun u : {j : Nat // j ≤ ps.length} => ⟨85, [(2, .d (.int pn)), (8, strsAV need), (11, .ptr 11 0), (62, strsAV ps), (63, .d (.int ps.length)), (64, .d (.int u.1))], [(400, some (.arr 9 1 ((noN s (ps.take u.1)).map strR))), (11, some (.blk 56 (.d (.str g) :: .arr 400 0 (noN s (ps.take u.1)).length :: tmCells xk xn xa xb xv xx xc)))]⟩)
      (μ := fun u => ps.length - u.1) ⟨0, Nat.zero_le _⟩ (Le.refl _) (fun ⟨j, hi⟩ => ?_)
    dsimp only
    repeat (first | refine AWp.seq ?_ | refine AWp.block ?_)
    apply AWp.reg [] []
    · conv => lhs; simp
    · trivial
    repeat (first | refine AWp.seq ?_ | refine AWp.block ?_)
    refine AWp.cond rfl (fun hcj => ?_) (fun hcj => ?_)
    · have hi1 : j < ps.length := by have := of_decide_eq_true hcj; omega
      have h1y : ps[j]? = some ps[j] := List.getElem?_eq_getElem hi1
      have hmy : ps[j] ∈ ps := List.getElem_mem hi1
      have hdy : ps.drop j = ps[j] :: ps.drop (j + 1) := List.drop_eq_getElem_cons hi1
      generalize ps[j] = y at h1y hmy hdy
      have hnk := noN_len s (ps.take j)
      have htk : (ps.take j).length ≤ 6 := by simp; omega
      have hsn : noN s (ps.take (j + 1)) = noN s (ps.take j) ++ noN s [y] := by rw [List.take_add_one, h1y, noN_append]; rfl
      refine AWp.skip ?_
      repeat (first | refine AWp.seq ?_ | refine AWp.block ?_)
      apply AWp.reg [] []
      · conv => lhs; simp [Fn.row, Tm.row, Tm.rows_eq, Cs.rows_eq, tmCells, h1y, hnp, q1, q2, q3, q4, q5]
      · (repeat' apply And.intro) <;> first | omega | assumption | trivial | (simp [inI, maxLen]; done) | (simp [inI, maxLen]; omega)
      by_cases q6 : y = s
      · repeat (first | refine AWp.seq ?_ | refine AWp.block ?_)
        apply AWp.reg [] []
        · conv => lhs; simp [Fn.row, Tm.row, Tm.rows_eq, Cs.rows_eq, tmCells, hnp, q1, q2, q3, q4, q5, q6]
        · (repeat' apply And.intro) <;> first | omega | assumption | trivial | (simp [inI, maxLen]; done) | (simp [inI, maxLen]; omega)
        repeat (first | refine AWp.seq ?_ | refine AWp.block ?_)
        refine AWp.cond rfl (fun hc => ?_) (fun hc => ?_)
        · cases hc
        refine AWp.skip ?_
        repeat (first | refine AWp.seq ?_ | refine AWp.block ?_)
        apply AWp.reg [] []
        · conv => lhs; simp [Fn.row, Tm.row, Tm.rows_eq, Cs.rows_eq, tmCells, hnp, q1, q2, q3, q4, q5, q6]
        · (repeat' apply And.intro) <;> first | omega | assumption | trivial | (simp [inI, maxLen]; done) | (simp [inI, maxLen]; omega)
        rw [show noN s [y] = [] by simp [noN, q6], List.append_nil] at hsn
        refine ⟨⟨j + 1, hi1⟩, by simp; omega, ?_⟩
        dsimp only
        rw [hsn]
        exact Le.sub (by simp) (by simp [tmCells])
      repeat (first | refine AWp.seq ?_ | refine AWp.block ?_)
      apply AWp.reg [] []
      · conv => lhs; simp [Fn.row, Tm.row, Tm.rows_eq, Cs.rows_eq, tmCells, hnp, q1, q2, q3, q4, q5, q6]
      · (repeat' apply And.intro) <;> first | omega | assumption | trivial | (simp [inI, maxLen]; done) | (simp [inI, maxLen]; omega)
      repeat (first | refine AWp.seq ?_ | refine AWp.block ?_)
      refine AWp.cond rfl (fun hc => ?_) (fun hc => ?_)
      rotate_left
      · cases hc
      repeat (first | refine AWp.seq ?_ | refine AWp.block ?_)
      apply AWp.reg [] []
      · conv => lhs; simp [Fn.row, Tm.row, Tm.rows_eq, Cs.rows_eq, tmCells, hnp, q1, q2, q3, q4, q5, q6]
      · (repeat' apply And.intro) <;> first | omega | assumption | trivial | (simp [inI, maxLen]; done) | (simp [inI, maxLen]; omega)
      repeat (first | refine AWp.seq ?_ | refine AWp.block ?_)
      apply AWp.reg [] []
      · conv => lhs; simp [Fn.row, Tm.row, Tm.rows_eq, Cs.rows_eq, tmCells, hnp, q1, q2, q3, q4, q5, q6]
      · (repeat' apply And.intro) <;> first | omega | assumption | trivial | (simp [inI, maxLen]; done) | (simp [inI, maxLen]; omega)
      rw [show noN s [y] = [y] by simp [noN, q6]] at hsn
      refine ⟨⟨j + 1, hi1⟩, by simp; omega, ?_⟩
      dsimp only
      rw [hsn]
      exact Le.sub (by simp) (by simp [tmCells])
    have hi1 : j = ps.length := by have := of_decide_eq_false hcj; omega
    subst hi1
    clear hcj
    refine AWp.exit ?_
    rw [List.take_of_length_le (Nat.le_refl _)]
    apply AWp.frzs [400]
    · conv => lhs; simp [tmCells]
    obtain ⟨qs, hqs⟩ : ∃ qs, qs = noN s ps := ⟨_, rfl⟩
    rw [← hqs]
    have hql : qs.length ≤ 6 := by have := noN_len s ps; rw [hqs]; omega
    have hO : FnsOk [⟨g, qs, .mk xk xn xa xb xv xx xc⟩] := ⟨by simp, fun f hf => by
      rw [List.mem_singleton] at hf
      subst hf
      exact ⟨o1, by show qs.length ≤ _; omega, fun s' hs' => o3 s' (by show s' ∈ ps; rw [show qs = noN s ps from hqs] at hs'; exact (List.mem_filter.1 hs').1), o4⟩⟩
    have hck := sp_scCheck _ hO
    have hE2 : checkE [⟨g, qs, .mk xk xn xa xb xv xx xc⟩] ≠ 0 := fun e => by
      have h1 := (check_zero e).2.2.2 _ (List.mem_singleton.2 rfl)
      have h2 := h1.free s (by show s ∈ (Tm.mk xk xn xa xb xv xx xc).free; rw [← hneed]; exact hmn)
      have h2 : s ∈ noN s ps := by rw [← hqs]; exact h2
      have h3 := (List.mem_filter.1 h2).2
      simp at h3
    generalize checkE [⟨g, qs, .mk xk xn xa xb xv xx xc⟩] = E2 at hck hE2
    simp only [fnsAV, List.map_cons, List.map_nil, Fn.row, Tm.row, Tm.rows_eq, Cs.rows_eq] at hck
    repeat (first | refine AWp.seq ?_ | refine AWp.block ?_)
    apply AWp.reg [1] [.p (fun _ => .d (.int E2)) none]
    · conv => lhs; simp [Fn.row, Tm.row, Tm.rows_eq, Cs.rows_eq, tmCells, q1, q2, q3, q4, q5, hE2]
    · (repeat' apply And.intro) <;> first | omega | assumption | trivial | (simp [inI, maxLen]; done) | (simp [inI, maxLen]; omega)
    refine AWp.ret ?_
    try dsimp only [thenQ, blockQ]
    apply endQ.ret
    · rfl
    · conv => lhs; simp [resAV, Try.results6]
    · rfl
  repeat (first | refine AWp.seq ?_ | refine AWp.block ?_)
  apply AWp.reg [] [.p (fun _ => .d (.int E)) none]
  · conv => lhs; simp [Fn.row, Tm.row, Tm.rows_eq, Cs.rows_eq, tmCells, hC, q1]
  · (repeat' apply And.intro) <;> first | omega | assumption | trivial | (simp [inI, maxLen]; done) | (simp [inI, maxLen]; omega)
  repeat (first | refine AWp.seq ?_ | refine AWp.block ?_)
  refine AWp.cond rfl (fun hc => ?_) (fun hc => ?_)
  rotate_left
  · cases hc
  repeat (first | refine AWp.seq ?_ | refine AWp.block ?_)
  apply AWp.reg [] []
  · conv => lhs; simp [Fn.row, Tm.row, Tm.rows_eq, Cs.rows_eq, tmCells, hC, q1]
  · (repeat' apply And.intro) <;> first | omega | assumption | trivial | (simp [inI, maxLen]; done) | (simp [inI, maxLen]; omega)
  refine AWp.ret ?_
  try dsimp only [thenQ, blockQ]
  apply endQ.ret
  · rfl
  · conv => lhs; simp [resAV, Try.results6]
  · rfl

set_option maxRecDepth 20000 in
set_option maxHeartbeats 16000000 in
theorem sp_ScopeLet (t : Tm) (s : ByteArray) (hO : t.Ok) (hz : t.sz + 2 ≤ 1048576) (hs : s.size ≤ 140737488355328) : PSpec Try.prog 5 [tmAV t, .d (.str s)] (fun _ => .d (.bool true)) none := by
  have hfr := sp_Free t ⟨hO, by omega⟩
  have hnl := Tm.free_len t
  obtain ⟨need, hneed⟩ : ∃ need, need = t.free := ⟨_, rfl⟩
  rw [← hneed] at hfr hnl
  obtain ⟨xk, xn, xa, xb, xv, xx, xc⟩ := t
  refine PSpec.of Try.func5 rfl rfl rfl (Nat.le_of_ble_eq_true rfl) ?_
  show AWp _ _ (endQ _ Try.f5 _ _ _) (startAS 32 _)
  repeat (first | refine AWp.seq ?_ | refine AWp.block ?_)
  apply AWp.reg [] []
  · conv => lhs; simp [tmCells]
  · (repeat' apply And.intro) <;> first | omega | assumption | trivial | (simp [inI, maxLen]; done) | (simp [inI, maxLen]; omega)
  have hal := sp_alive
  repeat (first | refine AWp.seq ?_ | refine AWp.block ?_)
  apply AWp.reg [] [.p (fun _ => .d (.bool true)) none]
  · conv => lhs; simp [tmCells]
  · (repeat' apply And.intro) <;> first | omega | assumption | trivial | (simp [inI, maxLen]; done) | (simp [inI, maxLen]; omega)
  repeat (first | refine AWp.seq ?_ | refine AWp.block ?_)
  refine AWp.cond rfl (fun hc => ?_) (fun hc => ?_)
  · cases hc
  refine AWp.skip ?_
  repeat (first | refine AWp.seq ?_ | refine AWp.block ?_)
  apply AWp.reg [] []
  · conv => lhs; simp [tmCells]
  · (repeat' apply And.intro) <;> first | omega | assumption | trivial | (simp [inI, maxLen]; done) | (simp [inI, maxLen]; omega)
  repeat (first | refine AWp.seq ?_ | refine AWp.block ?_)
  apply AWp.reg [1] [.p (fun d => .arr d 0 need.length) (some (.arr 9 1 (need.map strR)))]
  · conv => lhs; simp [tmCells]
  · (repeat' apply And.intro) <;> first | omega | assumption | trivial | (simp [inI, maxLen]; done) | (simp [inI, maxLen]; omega)
  repeat (first | refine AWp.seq ?_ | refine AWp.block ?_)
  refine AWp.le (Le.low [400] [] (fr := [(1, .d (.str s)), (2, .ptr 2 0), (5, .arr 400 0 (noN s (need.take 0)).length), (11, strsAV need), (12, .d (.int need.length)), (13, .d (.int 0))]) (mem := [(400, some (.arr 9 1 ((noN s (need.take 0)).map strR))), (2, some (.blk 41 (tmCells xk xn xa xb xv xx xc)))]) rfl (by simp [tmCells, noN_nil]) (by simp [tmCells, noN_nil])) ?_
  refine AWp.loop (σ := fun u : {j : Nat // j ≤ need.length} => ⟨32, [(1, .d (.str s)), (2, .ptr 2 0), (5, .arr 400 0 (noN s (need.take u.1)).length), (11, strsAV need), (12, .d (.int need.length)), (13, .d (.int u.1))], [(400, some (.arr 9 1 ((noN s (need.take u.1)).map strR))), (2, some (.blk 41 (tmCells xk xn xa xb xv xx xc)))]⟩)
    (μ := fun u => need.length - u.1) ⟨0, Nat.zero_le _⟩ (Le.refl _) (fun ⟨j, hi⟩ => ?_)
  dsimp only
  repeat (first | refine AWp.seq ?_ | refine AWp.block ?_)
  apply AWp.reg [] []
  · conv => lhs; simp
  · trivial
  repeat (first | refine AWp.seq ?_ | refine AWp.block ?_)
  refine AWp.cond rfl (fun hcj => ?_) (fun hcj => ?_)
  · have hi1 : j < need.length := by have := of_decide_eq_true hcj; omega
    have h1y : need[j]? = some need[j] := List.getElem?_eq_getElem hi1
    have hmy : need[j] ∈ need := List.getElem_mem hi1
    have hdy : need.drop j = need[j] :: need.drop (j + 1) := List.drop_eq_getElem_cons hi1
    generalize need[j] = y at h1y hmy hdy
    have hnk := noN_len s (need.take j)
    have htk : (need.take j).length ≤ 1048576 := by simp; omega
    have hsn : noN s (need.take (j + 1)) = noN s (need.take j) ++ noN s [y] := by rw [List.take_add_one, h1y, noN_append]; rfl
    refine AWp.skip ?_
    repeat (first | refine AWp.seq ?_ | refine AWp.block ?_)
    apply AWp.reg [] []
    · conv => lhs; simp [h1y]
    · (repeat' apply And.intro) <;> first | omega | assumption | trivial | (simp [inI, maxLen]; done) | (simp [inI, maxLen]; omega)
    by_cases q1 : y = s
    · repeat (first | refine AWp.seq ?_ | refine AWp.block ?_)
      apply AWp.reg [] []
      · conv => lhs; simp [h1y, q1]
      · (repeat' apply And.intro) <;> first | omega | assumption | trivial | (simp [inI, maxLen]; done) | (simp [inI, maxLen]; omega)
      repeat (first | refine AWp.seq ?_ | refine AWp.block ?_)
      refine AWp.cond rfl (fun hc => ?_) (fun hc => ?_)
      · cases hc
      refine AWp.skip ?_
      repeat (first | refine AWp.seq ?_ | refine AWp.block ?_)
      apply AWp.reg [] []
      · conv => lhs; simp [h1y, q1]
      · (repeat' apply And.intro) <;> first | omega | assumption | trivial | (simp [inI, maxLen]; done) | (simp [inI, maxLen]; omega)
      rw [show noN s [y] = [] by simp [noN, q1], List.append_nil] at hsn
      refine ⟨⟨j + 1, hi1⟩, by simp; omega, ?_⟩
      dsimp only
      rw [hsn]
      exact Le.sub (by simp) (by simp [tmCells])
    repeat (first | refine AWp.seq ?_ | refine AWp.block ?_)
    apply AWp.reg [] []
    · conv => lhs; simp [h1y, q1]
    · (repeat' apply And.intro) <;> first | omega | assumption | trivial | (simp [inI, maxLen]; done) | (simp [inI, maxLen]; omega)
    repeat (first | refine AWp.seq ?_ | refine AWp.block ?_)
    refine AWp.cond rfl (fun hc => ?_) (fun hc => ?_)
    rotate_left
    · cases hc
    repeat (first | refine AWp.seq ?_ | refine AWp.block ?_)
    apply AWp.reg [] []
    · conv => lhs; simp [h1y, q1]
    · (repeat' apply And.intro) <;> first | omega | assumption | trivial | (simp [inI, maxLen]; done) | (simp [inI, maxLen]; omega)
    repeat (first | refine AWp.seq ?_ | refine AWp.block ?_)
    apply AWp.reg [] []
    · conv => lhs; simp [h1y, q1]
    · (repeat' apply And.intro) <;> first | omega | assumption | trivial | (simp [inI, maxLen]; done) | (simp [inI, maxLen]; omega)
    rw [show noN s [y] = [y] by simp [noN, q1]] at hsn
    refine ⟨⟨j + 1, hi1⟩, by simp; omega, ?_⟩
    dsimp only
    rw [hsn]
    exact Le.sub (by simp) (by simp [tmCells])
  have hi1 : j = need.length := by have := of_decide_eq_false hcj; omega
  subst hi1
  clear hcj
  refine AWp.exit ?_
  rw [List.take_of_length_le (Nat.le_refl _)]
  apply AWp.frzs [400]
  · conv => lhs; simp [tmCells]
  obtain ⟨qs, hqs⟩ : ∃ qs, qs = noN s need := ⟨_, rfl⟩
  rw [← hqs]
  have hql : qs.length ≤ 1048576 := by have := noN_len s need; rw [hqs]; omega
  have hlt : PSpec Try.prog 30 [.d (.str s), .agg [.d (.int 2), .d (.int 0), .d (.str ByteArray.empty), .d (.str ByteArray.empty), .lit (.slice none 0 0), .lit (.slice none 0 0), .lit (.slice none 0 0)], tmAV (.mk xk xn xa xb xv xx xc)] (fun _ => tmAV (.mk 6 0 s mt [] [.mk 2 0 mt mt [] [] [], .mk xk xn xa xb xv xx xc] [])) none :=
    PSpec.nilArgs (sp_let s (.mk 2 0 mt mt [] [] []) (.mk xk xn xa xb xv xx xc))
  have hfl := sp_Free (.mk 6 0 s mt [] [.mk 2 0 mt mt [] [] [], .mk xk xn xa xb xv xx xc] []) ⟨?_, ?_⟩
  rotate_left
  · have z : mt.size ≤ 140737488355328 := by rw [bsz0]; omega
    exact ⟨⟨hs, z, fun _ h => by cases h⟩, ⟨Nat.zero_le _, by show 2 ≤ 1172812402960; omega, Nat.zero_le _⟩, ⟨⟨⟨z, z, fun _ h => by cases h⟩, ⟨Nat.zero_le _, Nat.zero_le _, Nat.zero_le _⟩, trivial, trivial⟩, hO, trivial⟩, trivial⟩
  · simp only [Tm.sz, Tm.szs, Cs.szs] at hz ⊢
    omega
  rw [free_let, ← hneed, ← hqs] at hfl
  have hsm := sp_SameNames qs qs (by omega)
  rw [eqB_self] at hsm
  repeat (first | refine AWp.seq ?_ | refine AWp.block ?_)
  apply AWp.reg [4] [.p (fun _ => tmAV (.mk 6 0 s mt [] [.mk 2 0 mt mt [] [] [], .mk xk xn xa xb xv xx xc] [])) none, .p (fun d => .arr d 0 qs.length) (some (.arr 9 1 (qs.map strR))), .p (fun _ => .d (.bool true)) none]
  · conv => lhs; simp [tmCells]
  · (repeat' apply And.intro) <;> first | omega | assumption | trivial | (simp [inI, maxLen]; done) | (simp [inI, maxLen]; omega)
  refine AWp.ret ?_
  try dsimp only [thenQ, blockQ]
  apply endQ.ret
  · rfl
  · conv => lhs; simp [resAV, Try.results5]
  · rfl
end Go.Proofs.Ytialccgjbanmcaa
