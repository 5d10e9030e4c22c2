/- Values: copies, sameness, how many nodes, primitives. Printed by walk_eval_a.py. -/
import Derived.Test.YtialccgjbanmcaaScopeC
import Derived.Test.YtialccgjbanmcaaFreeA
namespace Go.Proofs.Ytialccgjbanmcaa
open Go.RowKit
attribute [local simp] runD mkRc dstOk guardOk opEff opEff0 effOp pureOp callOp zEff evA constAV frGet memGet startAS frOf isGoCall idIn AS.after nextR opnIds objIds AV.ids idsL AObj.ids frNo memNo opnAny isAny mkVal rdCells wrCells fldAddr idxAddr srcRows litRows toD1 toDs setAt sliceAV optI partAV bldAV fillAV binAV binI AV.cells callEff calleeOf frKill memKill AV.kill AObj.kill AV.has AV.hasL Op.operands Call.operands keepF keepM viewIds cChk renOf moGet moWs moQ cEff moLike moHave AV.ren renL AObj.ren AObj.like kept startC moMem AV.frz frz1 frzL frSub memSub frzs AS.frz frFrz memFrz AObj.frz takeMap takeLen bleF Nat.ble_eq memAny objAny mapOp D.keyOk rowAV valRow extOp wrapOp phO frLow memLow memLow1 objLow memEmpty Low LowL
set_option linter.unusedVariables false
set_option linter.unusedSimpArgs false

/-- A number, or a constructor of others. -/
inductive Vl where
  | mk (con : Bool) (n : Int) (kids : List Vl)
def Vl.con : Vl → Bool | .mk c _ _ => c
def Vl.n : Vl → Int | .mk _ n _ => n
def Vl.kids : Vl → List Vl | .mk _ _ k => k
mutual
def Vl.row : Vl → List D
  | .mk c n ks => [.bool c, .int n, .sl (Vl.rows ks)]
def Vl.rows : List Vl → List (List D)
  | [] => []
  | t :: r => t.row :: Vl.rows r
end
theorem Vl.rows_eq (l : List Vl) : Vl.rows l = l.map Vl.row := by
  induction l with
  | nil => rfl
  | cons t r ih => simp only [Vl.rows, List.map_cons, ih]
mutual
def Vl.sz : Vl → Nat
  | .mk _ _ ks => 1 + Vl.szs ks
def Vl.szs : List Vl → Nat
  | [] => 0
  | t :: r => t.sz + Vl.szs r
end
theorem Vl.szs_mem {t : Vl} : ∀ {l : List Vl}, t ∈ l → t.sz ≤ Vl.szs l
  | [], h => by cases h
  | x :: l, h => by
    simp only [Vl.szs]
    rcases List.mem_cons.1 h with rfl | h
    · omega
    · have := Vl.szs_mem h; omega
mutual
def Vl.Ok : Vl → Prop
  | .mk _ n ks => (-9223372036854775808 ≤ n ∧ n ≤ 9223372036854775807) ∧ ks.length ≤ 3518437208883 ∧ Vl.Oks ks
def Vl.Oks : List Vl → Prop
  | [] => True
  | t :: r => t.Ok ∧ Vl.Oks r
end
theorem Vl.Oks_iff : ∀ {l : List Vl}, Vl.Oks l ↔ ∀ t ∈ l, t.Ok
  | [] => by simp [Vl.Oks]
  | t :: r => by simp [Vl.Oks, Vl.Oks_iff (l := r)]
theorem Vl.Ok.kid {c : Bool} {n : Int} {ks : List Vl} (h : (Vl.mk c n ks).Ok) {x : Vl} (hx : x ∈ ks) : x.Ok := Vl.Oks_iff.1 h.2.2 x hx
theorem Vl.sz_kid {c : Bool} {n : Int} {ks : List Vl} {x : Vl} (hx : x ∈ ks) : x.sz < (Vl.mk c n ks).sz := by
  have := Vl.szs_mem hx
  simp only [Vl.sz]
  omega
abbrev vlCells (c : Bool) (n : Int) (ks : List Vl) : List AV := [.d (.bool c), .d (.int n), .d (.sl (ks.map Vl.row))]
abbrev vlAV : Vl → AV
  | .mk c n ks => .agg [.d (.bool c), .d (.int n), .d (.sl (ks.map Vl.row))]
theorem vlAV_eq (t : Vl) : vlAV t = .agg (t.row.map .d) := by
  cases t
  simp only [vlAV, Vl.row, Vl.rows_eq, List.map_cons, List.map_nil]
abbrev vlsAV (l : List Vl) : AV := .d (.sl (l.map Vl.row))
theorem vl_inv : ∀ (t : TypeId) (ds : List D), RT Try.prog t ds → (t = 26 → ∃ x : Vl, ds = x.row ∧ x.Ok) ∧ (t = 24 → ∃ x : List Vl, ds = [.sl (x.map Vl.row)] ∧ x.length ≤ 3518437208883 ∧ ∀ y ∈ x, y.Ok) := by
  intro t ds h
  induction h with
  | int n h lo hi =>
    refine ⟨?_, ?_⟩ <;> (rintro rfl; first | (rw [Try.underlying26] at h; cases h) | (rw [Try.underlying24] at h; cases h))
  | bool b h =>
    refine ⟨?_, ?_⟩ <;> (rintro rfl; first | (rw [Try.underlying26] at h; cases h) | (rw [Try.underlying24] at h; cases h))
  | str s h hs =>
    refine ⟨?_, ?_⟩ <;> (rintro rfl; first | (rw [Try.underlying26] at h; cases h) | (rw [Try.underlying24] at h; cases h))
  | sl rows h hl hr ih =>
    refine ⟨?_, ?_⟩
    · rintro rfl; rw [Try.underlying26] at h; cases h
    · rintro rfl
      rw [Try.underlying24] at h
      cases h
      obtain ⟨l, rfl, hp⟩ := rows_inv (row := Vl.row) (p := Vl.Ok) fun r hr' => (ih r hr').1 rfl
      refine ⟨l, rfl, ?_, hp⟩
      rw [List.length_map, show Try.prog.bytesOf 26 = 40 by kernel_rfl] at hl
      unfold reachBytes at hl
      omega
  | struct parts h hl hf ih =>
    refine ⟨?_, ?_⟩
    · rintro rfl
      rw [Try.underlying26] at h
      cases h
      match parts, hl with
      | [p0, p1, p2], _ =>
        obtain ⟨c, rfl⟩ := (hf 0 _ p0 rfl rfl).bool_inv Try.underlying4
        obtain ⟨n, rfl, hn⟩ := (hf 1 _ p1 rfl rfl).int_inv Try.underlying3
        obtain ⟨xs, rfl, hx, hxs⟩ := (ih 2 _ p2 rfl rfl).2 rfl
        exact ⟨.mk c n xs, by simp [Vl.row, Vl.rows_eq], hn, hx, Vl.Oks_iff.2 hxs⟩
    · rintro rfl; rw [Try.underlying24] at h; cases h
theorem vl_arg {c : AV} (h : ArgRT Try.prog 26 c) : ∃ t : Vl, c = vlAV t ∧ t.Ok := by
  obtain ⟨ds, rfl, hd⟩ := h.agg_inv Try.underlying26
  obtain ⟨t, rfl, ht⟩ := (vl_inv _ _ hd).1 rfl
  exact ⟨t, (vlAV_eq t).symm, ht⟩

set_option maxRecDepth 20000 in
set_option maxHeartbeats 8000000 in
theorem sp_evOwn_at : ∀ (N : Nat) (t : Vl), t.sz < N → t.Ok → PSpec Try.prog 8 [vlAV t] (fun _ => vlAV t) none := by
  intro N
  induction N with
  | zero => intro t h; omega
  | succ N ih =>
  intro t hN hO
  obtain ⟨c, n, ks⟩ := t
  have o2 := hO.2.1
  refine PSpec.of Try.func8 rfl rfl rfl (Nat.le_of_ble_eq_true rfl) ?_
  show AWp _ _ (endQ _ Try.f8 _ _ _) (startAS 22 _)
  repeat (first | refine AWp.seq ?_ | refine AWp.block ?_)
  apply AWp.reg [] []
  · conv => lhs; simp [Vl.row, Vl.rows_eq, vlCells]
  · (repeat' apply And.intro) <;> first | omega | assumption | trivial | (simp [inI, maxLen]; done) | (simp [inI, maxLen]; omega)
  repeat (first | refine AWp.seq ?_ | refine AWp.block ?_)
  apply AWp.reg [] []
  · conv => lhs; simp [Vl.row, Vl.rows_eq, vlCells]
  · (repeat' apply And.intro) <;> first | omega | assumption | trivial | (simp [inI, maxLen]; done) | (simp [inI, maxLen]; omega)
  repeat (first | refine AWp.seq ?_ | refine AWp.block ?_)
  apply AWp.reg [] []
  · conv => lhs; simp [Vl.row, Vl.rows_eq, vlCells]
  · (repeat' apply And.intro) <;> first | omega | assumption | trivial | (simp [inI, maxLen]; done) | (simp [inI, maxLen]; omega)
  repeat (first | refine AWp.seq ?_ | refine AWp.block ?_)
  refine AWp.le (Le.low [400] [] (fr := [(1, .ptr 1 0), (2, .ptr 2 0), (3, .arr 400 0 0), (7, .d (.sl (ks.map Vl.row))), (8, .d (.int ks.length)), (9, .d (.int 0))]) (mem := [(400, some (.arr 26 3 ((ks.map Vl.row).take 0))), (1, some (.blk 26 (vlCells c n ks))), (2, some (.blk 26 [.d (.bool false), .d (.int 0), .lit (.slice none 0 0)]))]) rfl (by simp [vlCells]) (by simp [vlCells])) ?_
  refine AWp.loop (σ := fun u : {i : Nat // i ≤ ks.length} => ⟨22, [(1, .ptr 1 0), (2, .ptr 2 0), (3, .arr 400 0 u.1), (7, .d (.sl (ks.map Vl.row))), (8, .d (.int ks.length)), (9, .d (.int u.1))], [(400, some (.arr 26 3 ((ks.map Vl.row).take u.1))), (1, some (.blk 26 (vlCells c n ks))), (2, some (.blk 26 [.d (.bool false), .d (.int 0), .lit (.slice none 0 0)]))]⟩)
    (μ := fun u => ks.length - u.1) ⟨0, Nat.zero_le _⟩ (Le.refl _) (fun ⟨i, hi⟩ => ?_)
  dsimp only
  repeat (first | refine AWp.seq ?_ | refine AWp.block ?_)
  apply AWp.reg [] []
  · conv => lhs; simp
  · trivial
  repeat (first | refine AWp.seq ?_ | refine AWp.block ?_)
  refine AWp.cond rfl (fun hci => ?_) (fun hci => ?_)
  · have hi1 : i < ks.length := by have := of_decide_eq_true hci; omega
    have h1y : ks[i]? = some ks[i] := List.getElem?_eq_getElem hi1
    have hmy : ks[i] ∈ ks := List.getElem_mem hi1
    have hdy : ks.drop i = ks[i] :: ks.drop (i + 1) := List.drop_eq_getElem_cons hi1
    generalize ks[i] = y at h1y hmy hdy
    have hp := ih y (by have := Vl.sz_kid (c := c) (n := n) hmy; omega) (hO.kid hmy)
    have ht : (ks.map Vl.row).take (i + 1) = (ks.map Vl.row).take i ++ [y.row] := by rw [List.take_add_one, List.getElem?_map, h1y]; rfl
    have hl : ((ks.map Vl.row).take i).length = i := by simp; omega
    obtain ⟨yc, yn, yk⟩ := y
    refine AWp.skip ?_
    repeat (first | refine AWp.seq ?_ | refine AWp.block ?_)
    apply AWp.reg [] []
    · conv => lhs; simp [Vl.row, Vl.rows_eq, h1y]
    · (repeat' apply And.intro) <;> first | omega | assumption | trivial | (simp [inI, maxLen]; done) | (simp [inI, maxLen]; omega)
    repeat (first | refine AWp.seq ?_ | refine AWp.block ?_)
    apply AWp.reg [] [.p (fun _ => vlAV (.mk yc yn yk)) none]
    · conv => lhs; simp [Vl.row, Vl.rows_eq, h1y]
    · (repeat' apply And.intro) <;> first | omega | assumption | trivial | (simp [inI, maxLen]; done) | (simp [inI, maxLen]; omega)
    repeat (first | refine AWp.seq ?_ | refine AWp.block ?_)
    apply AWp.reg [] []
    · conv => lhs; simp [Vl.row, Vl.rows_eq, h1y]
    · (repeat' apply And.intro) <;> first | omega | assumption | trivial | (simp [inI, maxLen]; done) | (simp [inI, maxLen]; omega)
    refine ⟨⟨i + 1, hi1⟩, by simp; omega, ?_⟩
    dsimp only
    rw [ht]
    exact Le.sub (by simp [Nat.min_eq_left hi]) (by simp [vlCells, Vl.row, Vl.rows_eq])
  have hi1 : i = ks.length := by have := of_decide_eq_false hci; omega
  subst hi1
  clear hci
  rw [show (ks.map Vl.row).take ks.length = ks.map Vl.row from List.take_of_length_le (by simp)]
  refine AWp.exit ?_
  repeat (first | refine AWp.seq ?_ | refine AWp.block ?_)
  apply AWp.reg [] []
  · conv => lhs; simp [Vl.row, Vl.rows_eq, vlCells]
  · (repeat' apply And.intro) <;> first | omega | assumption | trivial | (simp [inI, maxLen]; done) | (simp [inI, maxLen]; omega)
  repeat (first | refine AWp.seq ?_ | refine AWp.block ?_)
  apply AWp.reg [] []
  · conv => lhs; simp [Vl.row, Vl.rows_eq, vlCells]
  · (repeat' apply And.intro) <;> first | omega | assumption | trivial | (simp [inI, maxLen]; done) | (simp [inI, maxLen]; omega)
  refine AWp.ret ?_
  try dsimp only [thenQ, blockQ]
  apply endQ.retF [400]
  · rfl
  · conv => lhs; simp
  · conv => lhs; simp [resAV, Try.results8]
  · rfl
theorem sp_evOwn (t : Vl) (h : t.Ok) : PSpec Try.prog 8 [vlAV t] (fun _ => vlAV t) none := sp_evOwn_at _ t (Nat.lt_succ_self _) h

set_option maxRecDepth 20000 in
set_option maxHeartbeats 4000000 in
theorem sp_EqualFuncVl (K : Nat) (a b : List Vl) (hla : a.length ≤ 8796093022207) (hk : ∀ x ∈ a, ∀ y, PSpec Try.prog K [vlAV x, vlAV y] (fun _ => .d (.bool (eqB x y))) none) : PSpec Try.prog 32 [vlsAV a, vlsAV b, .d (.fn K)] (fun _ => .d (.bool (eqB a b))) none := by
  refine PSpec.of Try.func32 rfl rfl rfl (Nat.le_of_ble_eq_true rfl) ?_
  show AWp _ _ (endQ _ Try.f32 _ _ _) (startAS 32 _)
  repeat (first | refine AWp.seq ?_ | refine AWp.block ?_)
  apply AWp.reg [] []
  · conv => lhs; simp
  · trivial
  by_cases hl : a.length = b.length
  rotate_left
  · have hl' : ¬ ((a.length : Int) = b.length) := by omega
    repeat (first | refine AWp.seq ?_ | refine AWp.block ?_)
    apply AWp.reg [] []
    · conv => lhs; simp [hl, hl']
    · trivial
    repeat (first | refine AWp.seq ?_ | refine AWp.block ?_)
    refine AWp.cond rfl (fun h => ?_) (fun h => ?_)
    · repeat (first | refine AWp.seq ?_ | refine AWp.block ?_)
      apply AWp.reg [] []
      · conv => lhs; simp
      · trivial
      refine AWp.ret ?_
      try dsimp only [thenQ, blockQ]
      apply endQ.ret
      · rfl
      · conv => lhs; simp [resAV, Try.results32]
      rw [eqB_ne (fun e => hl (by rw [e]))]; rfl
    · cases h
  repeat (first | refine AWp.seq ?_ | refine AWp.block ?_)
  apply AWp.reg [] []
  · conv => lhs; simp [hl]
  · trivial
  repeat (first | refine AWp.seq ?_ | refine AWp.block ?_)
  refine AWp.cond rfl (fun h => ?_) (fun h => ?_)
  · cases h
  refine AWp.skip ?_
  repeat (first | refine AWp.seq ?_ | refine AWp.block ?_)
  apply AWp.reg [] []
  · conv => lhs; simp
  · trivial
  repeat (first | refine AWp.seq ?_ | refine AWp.block ?_)
  refine AWp.loop (σ := fun u : {i : Nat // i ≤ a.length ∧ a.take i = b.take i} => ⟨32, [(1, vlsAV b), (2, .d (.fn K)), (15, vlsAV a), (16, .d (.int a.length)), (17, .d (.int u.1))], []⟩)
    (μ := fun u => a.length - u.1) ⟨0, Nat.zero_le _, rfl⟩ (Le.sub (by simp [hl]) (by simp)) (fun ⟨i, hi, ht⟩ => ?_)
  dsimp only
  repeat (first | refine AWp.seq ?_ | refine AWp.block ?_)
  apply AWp.reg [] []
  · conv => lhs; simp
  · trivial
  repeat (first | refine AWp.seq ?_ | refine AWp.block ?_)
  refine AWp.cond rfl (fun h => ?_) (fun h => ?_)
  · have hi1 : i < a.length := by have := of_decide_eq_true h; omega
    have h1 : a[i]? = some a[i] := List.getElem?_eq_getElem hi1
    have h2 : b[i]? = some (b[i]'(by omega)) := List.getElem?_eq_getElem (by omega)
    have hmem : a[i] ∈ a := List.getElem_mem hi1
    generalize a[i] = x at h1 hmem
    generalize b[i]'(by omega) = y at h2
    have hte := take_eq h1 h2 ht
    have hp := hk x hmem y
    have hbad : x ≠ y → eqB a b = false := fun h => eqB_ne (take_ne h1 h2 h)
    obtain ⟨B, hB⟩ : ∃ B, B = eqB x y := ⟨_, rfl⟩
    rw [← hB] at hp
    have hBf : B = false → x ≠ y := fun e q => by rw [hB, q, eqB_self] at e; cases e
    have hBt : B = true → x = y := fun e => eqB_iff.1 (by rw [← hB]; exact e)
    obtain ⟨_, _, _⟩ := x
    obtain ⟨_, _, _⟩ := y
    refine AWp.skip ?_
    repeat (first | refine AWp.seq ?_ | refine AWp.block ?_)
    apply AWp.reg [] []
    · conv => lhs; simp [h1, Vl.row, Vl.rows_eq]
    · first | trivial | omega | (simp [inI, maxLen]; done) | (simp [inI, maxLen]; omega)
    repeat (first | refine AWp.seq ?_ | refine AWp.block ?_)
    apply AWp.reg [] []
    · conv => lhs; simp [h2, Vl.row, Vl.rows_eq]
    · first | trivial | omega | (simp [inI, maxLen]; done) | (simp [inI, maxLen]; omega)
    cases B with
    | true =>
      have hxy := hBt rfl
      repeat (first | refine AWp.seq ?_ | refine AWp.block ?_)
      apply AWp.reg [] [.p (fun _ => .d (.bool true)) none]
      · conv => lhs; simp
      · exact hp
      repeat (first | refine AWp.seq ?_ | refine AWp.block ?_)
      refine AWp.cond rfl (fun h3 => ?_) (fun h3 => ?_)
      · simp at h3
      refine AWp.skip ?_
      repeat (first | refine AWp.seq ?_ | refine AWp.block ?_)
      apply AWp.reg [] []
      · conv => lhs; simp
      · first | trivial | omega | (simp [inI, maxLen]; done) | (simp [inI, maxLen]; omega)
      refine ⟨⟨i + 1, hi1, hte.2 hxy⟩, by simp; omega, Le.sub (by simp) (by simp)⟩
    | false =>
      have hxy := hBf rfl
      repeat (first | refine AWp.seq ?_ | refine AWp.block ?_)
      apply AWp.reg [] [.p (fun _ => .d (.bool false)) none]
      · conv => lhs; simp
      · exact hp
      repeat (first | refine AWp.seq ?_ | refine AWp.block ?_)
      refine AWp.cond rfl (fun h3 => ?_) (fun h3 => ?_)
      · repeat (first | refine AWp.seq ?_ | refine AWp.block ?_)
        apply AWp.reg [] []
        · conv => lhs; simp
        · trivial
        refine AWp.ret ?_
        try dsimp only [thenQ, blockQ]
        apply endQ.ret
        · rfl
        · conv => lhs; simp [resAV, Try.results32]
        rw [hbad hxy]; rfl
      · simp at h3
  · have hi1 : i = a.length := by have := of_decide_eq_false h; omega
    subst hi1
    rw [List.take_length, hl, List.take_length] at ht
    subst ht
    refine AWp.exit ?_
    repeat (first | refine AWp.seq ?_ | refine AWp.block ?_)
    apply AWp.reg [] []
    · conv => lhs; simp
    · trivial
    refine AWp.ret ?_
    try dsimp only [thenQ, blockQ]
    apply endQ.ret
    · rfl
    · conv => lhs; simp [resAV, Try.results32]
    rw [eqB_self]; rfl

set_option maxRecDepth 20000 in
set_option maxHeartbeats 8000000 in
theorem sp_evSame_at : ∀ (N : Nat) (s t : Vl), s.sz < N → s.Ok → PSpec Try.prog 9 [vlAV s, vlAV t] (fun _ => .d (.bool (eqB s t))) none := by
  intro N
  induction N with
  | zero => intro s t h; omega
  | succ N ih =>
  intro s t hN hO
  obtain ⟨c, n, ks⟩ := s
  obtain ⟨c', n', ks'⟩ := t
  have hq := sp_EqualFuncVl 9 ks ks' (by have := hO.2.1; omega) (fun x hx y => ih x y (by have := Vl.sz_kid (c := c) (n := n) hx; omega) (hO.kid hx))
  refine PSpec.of Try.func9 rfl rfl rfl (Nat.le_of_ble_eq_true rfl) ?_
  show AWp _ _ (endQ _ Try.f9 _ _ _) (startAS 24 _)
  repeat (first | refine AWp.seq ?_ | refine AWp.block ?_)
  apply AWp.reg [] []
  · conv => lhs; simp
  · trivial
  by_cases e1 : c = c'
  · subst e1
    by_cases e2 : n = n'
    · subst e2
      have hB : eqB (Vl.mk c n ks) (Vl.mk c n ks') = eqB ks ks' := by
        by_cases e : ks = ks'
        · subst e; rw [eqB_self, eqB_self]
        · rw [eqB_ne e, eqB_ne (fun h => e (by cases h; rfl))]
      rw [hB]
      repeat (first | refine AWp.seq ?_ | refine AWp.block ?_)
      apply AWp.reg [] [.p (fun _ => .d (.bool (eqB ks ks'))) none]
      · conv => lhs; simp [Try.underlying4]
      · (repeat' apply And.intro) <;> first | omega | assumption | trivial | (simp [inI, maxLen]; done) | (simp [inI, maxLen]; omega)
      refine AWp.ret ?_
      try dsimp only [thenQ, blockQ]
      apply endQ.ret
      · rfl
      · conv => lhs; simp [resAV, Try.results9]
      · rfl
    · rw [eqB_ne (fun h => e2 (by cases h; rfl))]
      repeat (first | refine AWp.seq ?_ | refine AWp.block ?_)
      apply AWp.reg [] []
      · conv => lhs; simp [e2, Try.underlying4]
      · (repeat' apply And.intro) <;> first | omega | assumption | trivial | (simp [inI, maxLen]; done) | (simp [inI, maxLen]; omega)
      refine AWp.ret ?_
      try dsimp only [thenQ, blockQ]
      apply endQ.ret
      · rfl
      · conv => lhs; simp [resAV, Try.results9]
      · rfl
  · rw [eqB_ne (fun h => e1 (by cases h; rfl))]
    have e1' : (c == c') = false := by simp [e1]
    repeat (first | refine AWp.seq ?_ | refine AWp.block ?_)
    apply AWp.reg [] []
    · conv => lhs; simp [e1', Try.underlying4]
    · (repeat' apply And.intro) <;> first | omega | assumption | trivial | (simp [inI, maxLen]; done) | (simp [inI, maxLen]; omega)
    refine AWp.ret ?_
    try dsimp only [thenQ, blockQ]
    apply endQ.ret
    · rfl
    · conv => lhs; simp [resAV, Try.results9]
    · rfl
theorem sp_evSame (s t : Vl) (h : s.Ok) : PSpec Try.prog 9 [vlAV s, vlAV t] (fun _ => .d (.bool (eqB s t))) none := sp_evSame_at _ s t (Nat.lt_succ_self _) h

set_option maxRecDepth 20000 in
set_option maxHeartbeats 8000000 in
theorem sp_refSameValue_at : ∀ (N : Nat) (s t : Vl), s.sz < N → s.Ok → PSpec Try.prog 7 [vlAV s, vlAV t] (fun _ => .d (.bool (eqB s t))) none := by
  intro N
  induction N with
  | zero => intro s t h; omega
  | succ N ih =>
  intro s t hN hO
  obtain ⟨c, n, ks⟩ := s
  obtain ⟨c', n', ks'⟩ := t
  have o2 := hO.2.1
  refine PSpec.of Try.func7 rfl rfl rfl (Nat.le_of_ble_eq_true rfl) ?_
  show AWp _ _ (endQ _ Try.f7 _ _ _) (startAS 46 _)
  repeat (first | refine AWp.seq ?_ | refine AWp.block ?_)
  apply AWp.reg [] []
  · conv => lhs; simp
  · trivial
  by_cases e1 : c = c'
  rotate_left
  · have e1' : (c == c') = false := by simp [e1]
    repeat (first | refine AWp.seq ?_ | refine AWp.block ?_)
    apply AWp.reg [] []
    · conv => lhs; simp [e1', Try.underlying4]
    · (repeat' apply And.intro) <;> first | omega | assumption | trivial | (simp [inI, maxLen]; done) | (simp [inI, maxLen]; omega)
    repeat (first | refine AWp.seq ?_ | refine AWp.block ?_)
    refine AWp.cond rfl (fun h => ?_) (fun h => ?_)
    rotate_left
    · cases h
    repeat (first | refine AWp.seq ?_ | refine AWp.block ?_)
    apply AWp.reg [] []
    · conv => lhs; simp
    · trivial
    refine AWp.ret ?_
    try dsimp only [thenQ, blockQ]
    apply endQ.ret
    · rfl
    · conv => lhs; simp [resAV, Try.results7]
    · rw [eqB_ne (fun h => e1 (by cases h; rfl))]; rfl
  subst e1
  by_cases e2 : n = n'
  rotate_left
  · repeat (first | refine AWp.seq ?_ | refine AWp.block ?_)
    apply AWp.reg [] []
    · conv => lhs; simp [e2, Try.underlying4]
    · (repeat' apply And.intro) <;> first | omega | assumption | trivial | (simp [inI, maxLen]; done) | (simp [inI, maxLen]; omega)
    repeat (first | refine AWp.seq ?_ | refine AWp.block ?_)
    refine AWp.cond rfl (fun h => ?_) (fun h => ?_)
    rotate_left
    · cases h
    repeat (first | refine AWp.seq ?_ | refine AWp.block ?_)
    apply AWp.reg [] []
    · conv => lhs; simp
    · trivial
    refine AWp.ret ?_
    try dsimp only [thenQ, blockQ]
    apply endQ.ret
    · rfl
    · conv => lhs; simp [resAV, Try.results7]
    · rw [eqB_ne (fun h => e2 (by cases h; rfl))]; rfl
  subst e2
  by_cases e3 : ks.length = ks'.length
  rotate_left
  · have e3' : ¬ ((ks.length : Int) = ks'.length) := by omega
    repeat (first | refine AWp.seq ?_ | refine AWp.block ?_)
    apply AWp.reg [] []
    · conv => lhs; simp [e3, e3']
    · (repeat' apply And.intro) <;> first | omega | assumption | trivial | (simp [inI, maxLen]; done) | (simp [inI, maxLen]; omega)
    repeat (first | refine AWp.seq ?_ | refine AWp.block ?_)
    refine AWp.cond rfl (fun h => ?_) (fun h => ?_)
    rotate_left
    · cases h
    repeat (first | refine AWp.seq ?_ | refine AWp.block ?_)
    apply AWp.reg [] []
    · conv => lhs; simp
    · trivial
    refine AWp.ret ?_
    try dsimp only [thenQ, blockQ]
    apply endQ.ret
    · rfl
    · conv => lhs; simp [resAV, Try.results7]
    · rw [eqB_ne (fun h => e3 (by cases h; rfl))]; rfl
  repeat (first | refine AWp.seq ?_ | refine AWp.block ?_)
  apply AWp.reg [] []
  · conv => lhs; simp [e3, Try.underlying4]
  · (repeat' apply And.intro) <;> first | omega | assumption | trivial | (simp [inI, maxLen]; done) | (simp [inI, maxLen]; omega)
  repeat (first | refine AWp.seq ?_ | refine AWp.block ?_)
  refine AWp.cond rfl (fun h => ?_) (fun h => ?_)
  · cases h
  refine AWp.skip ?_
  repeat (first | refine AWp.seq ?_ | refine AWp.block ?_)
  apply AWp.reg [] []
  · conv => lhs; simp
  · trivial
  repeat (first | refine AWp.seq ?_ | refine AWp.block ?_)
  refine AWp.loop (σ := fun u : {i : Nat // i ≤ ks.length ∧ ks.take i = ks'.take i} => ⟨46, [(2, .ptr 2 0), (3, .ptr 3 0), (29, .d (.int ks.length)), (30, .d (.int u.1))], [(2, some (.blk 26 (vlCells c n ks))), (3, some (.blk 26 (vlCells c n ks')))]⟩)
    (μ := fun u => ks.length - u.1) ⟨0, Nat.zero_le _, rfl⟩ (Le.sub (by simp [e3]) (by simp [vlCells])) (fun ⟨i, hi, ht⟩ => ?_)
  dsimp only
  clear h
  repeat (first | refine AWp.seq ?_ | refine AWp.block ?_)
  apply AWp.reg [] []
  · conv => lhs; simp
  · trivial
  repeat (first | refine AWp.seq ?_ | refine AWp.block ?_)
  refine AWp.cond rfl (fun h => ?_) (fun h => ?_)
  · have hi1 : i < ks.length := by have := of_decide_eq_true h; omega
    have h1 : ks[i]? = some ks[i] := List.getElem?_eq_getElem hi1
    have h2 : ks'[i]? = some (ks'[i]'(by omega)) := List.getElem?_eq_getElem (by omega)
    have hmem : ks[i] ∈ ks := List.getElem_mem hi1
    generalize ks[i] = x at h1 hmem
    generalize ks'[i]'(by omega) = y at h2
    have hte := take_eq h1 h2 ht
    have hp := ih x y (by have := Vl.sz_kid (c := c) (n := n) hmem; omega) (hO.kid hmem)
    obtain ⟨B, hB⟩ : ∃ B, B = eqB x y := ⟨_, rfl⟩
    rw [← hB] at hp
    have hBf : B = false → x ≠ y := fun e q => by rw [hB, q, eqB_self] at e; cases e
    have hBt : B = true → x = y := fun e => eqB_iff.1 (by rw [← hB]; exact e)
    have hbad : x ≠ y → eqB (Vl.mk c n ks) (Vl.mk c n ks') = false := fun h => eqB_ne (fun e => take_ne h1 h2 h (by cases e; rfl))
    obtain ⟨xc, xn, xk⟩ := x
    obtain ⟨yc, yn, yk⟩ := y
    refine AWp.skip ?_
    repeat (first | refine AWp.seq ?_ | refine AWp.block ?_)
    apply AWp.reg [] []
    · conv => lhs; simp
    · trivial
    cases B with
    | true =>
      have hxy := hBt rfl
      repeat (first | refine AWp.seq ?_ | refine AWp.block ?_)
      apply AWp.draw [] [.p (fun _ => .d (.bool true)) none] mixed
      · conv => lhs; simp [h1, h2, Vl.row, Vl.rows_eq, vlCells]
      · kernel_rfl
      · (repeat' apply And.intro) <;> first | omega | assumption | trivial | (simp [inI, maxLen]; done) | (simp [inI, maxLen]; omega)
      repeat (first | refine AWp.seq ?_ | refine AWp.block ?_)
      refine AWp.cond rfl (fun h3 => ?_) (fun h3 => ?_)
      · cases h3
      refine AWp.skip ?_
      repeat (first | refine AWp.seq ?_ | refine AWp.block ?_)
      apply AWp.reg [] []
      · conv => lhs; simp
      · (repeat' apply And.intro) <;> first | omega | assumption | trivial | (simp [inI, maxLen]; done) | (simp [inI, maxLen]; omega)
      refine ⟨⟨i + 1, hi1, hte.2 hxy⟩, by simp; omega, Le.sub (by simp) (by simp [vlCells])⟩
    | false =>
      have hxy := hBf rfl
      repeat (first | refine AWp.seq ?_ | refine AWp.block ?_)
      apply AWp.draw [] [.p (fun _ => .d (.bool false)) none] mixed
      · conv => lhs; simp [h1, h2, Vl.row, Vl.rows_eq, vlCells]
      · kernel_rfl
      · (repeat' apply And.intro) <;> first | omega | assumption | trivial | (simp [inI, maxLen]; done) | (simp [inI, maxLen]; omega)
      repeat (first | refine AWp.seq ?_ | refine AWp.block ?_)
      refine AWp.cond rfl (fun h3 => ?_) (fun h3 => ?_)
      rotate_left
      · cases h3
      repeat (first | refine AWp.seq ?_ | refine AWp.block ?_)
      apply AWp.reg [] []
      · conv => lhs; simp
      · trivial
      refine AWp.ret ?_
      try dsimp only [thenQ, blockQ]
      apply endQ.ret
      · rfl
      · conv => lhs; simp [resAV, Try.results7]
      · rw [hbad hxy]; rfl
  · have hi1 : i = ks.length := by have := of_decide_eq_false h; omega
    subst hi1
    rw [List.take_length, e3, List.take_length] at ht
    subst ht
    refine AWp.exit ?_
    repeat (first | refine AWp.seq ?_ | refine AWp.block ?_)
    apply AWp.reg [] []
    · conv => lhs; simp
    · trivial
    refine AWp.ret ?_
    try dsimp only [thenQ, blockQ]
    apply endQ.ret
    · rfl
    · conv => lhs; simp [resAV, Try.results7]
    · rw [eqB_self]; rfl
theorem sp_refSameValue (s t : Vl) (h : s.Ok) : PSpec Try.prog 7 [vlAV s, vlAV t] (fun _ => .d (.bool (eqB s t))) none := sp_refSameValue_at _ s t (Nat.lt_succ_self _) h

mutual
/-- How many nodes, up to a bound: what is left. -/
def Vl.left : Vl → Int → Int
  | .mk _ _ ks, l => Vl.lefts ks (l - 1)
def Vl.lefts : List Vl → Int → Int
  | [], l => l
  | x :: r, l => Vl.lefts r (if 0 ≤ l then x.left l else l)
end
theorem Vl.lefts_neg : ∀ (r : List Vl) (l : Int), l < 0 → Vl.lefts r l = l
  | [], l, h => rfl
  | x :: r, l, h => by rw [Vl.lefts, if_neg (by omega), Vl.lefts_neg r l h]
mutual
theorem Vl.left_lo : ∀ (v : Vl) (l : Int), 0 ≤ l → -1 ≤ v.left l ∧ v.left l ≤ l
  | .mk _ _ ks, l, h => by
    have := Vl.lefts_lo ks (l - 1) (by omega)
    rw [Vl.left]
    omega
theorem Vl.lefts_lo : ∀ (r : List Vl) (l : Int), -1 ≤ l → -1 ≤ Vl.lefts r l ∧ Vl.lefts r l ≤ l
  | [], l, h => by rw [Vl.lefts]; omega
  | x :: r, l, h => by
    rw [Vl.lefts]
    split
    · have h1 := Vl.left_lo x l (by omega)
      have h2 := Vl.lefts_lo r (x.left l) h1.1
      omega
    · exact Vl.lefts_lo r l h
end
theorem Vl.lefts_snoc (l : List Vl) (x : Vl) : ∀ k : Int, Vl.lefts (l ++ [x]) k = if 0 ≤ Vl.lefts l k then x.left (Vl.lefts l k) else Vl.lefts l k := by
  induction l with
  | nil => intro k; rfl
  | cons y r ih => intro k; simp only [List.cons_append, Vl.lefts]; exact ih _
theorem Vl.lefts_take {l : List Vl} {i : Nat} {x : Vl} (hx : l[i]? = some x) (k : Int) : Vl.lefts (l.take (i + 1)) k = if 0 ≤ Vl.lefts (l.take i) k then x.left (Vl.lefts (l.take i) k) else Vl.lefts (l.take i) k := by
  rw [List.take_add_one, hx]
  exact Vl.lefts_snoc _ _ _

theorem one_sub (m : Int) : m - (m - 1) = 1 := by omega
set_option maxRecDepth 20000 in
set_option maxHeartbeats 8000000 in
theorem sp_Nodes_at : ∀ (N : Nat) (t : Vl) (m : Int), t.sz < N → t.Ok → 0 ≤ m → m ≤ 1000000 → PSpec Try.prog 11 [vlAV t, .d (.int m)] (fun _ => .d (.int (m - t.left m))) none := by
  intro N
  induction N with
  | zero => intro t m h; omega
  | succ N ih =>
  intro t m hN hO hm0 hm1
  obtain ⟨c, n, ks⟩ := t
  have o2 := hO.2.1
  refine PSpec.of Try.func11 rfl rfl rfl (Nat.le_of_ble_eq_true rfl) ?_
  show AWp _ _ (endQ _ Try.f11 _ _ _) (startAS 28 _)
  repeat (first | refine AWp.seq ?_ | refine AWp.block ?_)
  apply AWp.reg [] []
  · conv => lhs; simp [Vl.row, Vl.rows_eq]
  · (repeat' apply And.intro) <;> first | omega | assumption | trivial | (simp [inI, maxLen]; done) | (simp [inI, maxLen]; omega)
  repeat (first | refine AWp.seq ?_ | refine AWp.block ?_)
  apply AWp.reg [] []
  · conv => lhs; simp [Vl.row, Vl.rows_eq]
  · (repeat' apply And.intro) <;> first | omega | assumption | trivial | (simp [inI, maxLen]; done) | (simp [inI, maxLen]; omega)
  repeat (first | refine AWp.seq ?_ | refine AWp.block ?_)
  apply AWp.reg [] []
  · conv => lhs; simp [Vl.row, Vl.rows_eq]
  · (repeat' apply And.intro) <;> first | omega | assumption | trivial | (simp [inI, maxLen]; done) | (simp [inI, maxLen]; omega)
  repeat (first | refine AWp.seq ?_ | refine AWp.block ?_)
  refine AWp.loop (σ := fun u : {i : Nat // i ≤ ks.length ∧ Vl.lefts ks (m - 1) = Vl.lefts (ks.drop i) (Vl.lefts (ks.take i) (m - 1))} => ⟨28, [(1, .d (.int m)), (5, .d (.int (m - Vl.lefts (ks.take u.1) (m - 1)))), (9, .d (.sl (ks.map Vl.row))), (10, .d (.int ks.length)), (11, .d (.int u.1))], []⟩)
    (μ := fun u => ks.length - u.1) ⟨0, Nat.zero_le _, rfl⟩ (Le.sub (by simp [Vl.lefts, one_sub]) (by simp [Vl.lefts, one_sub])) (fun ⟨i, hi, hwi⟩ => ?_)
  dsimp only
  repeat (first | refine AWp.seq ?_ | refine AWp.block ?_)
  apply AWp.reg [] []
  · conv => lhs; simp
  · trivial
  repeat (first | refine AWp.seq ?_ | refine AWp.block ?_)
  refine AWp.cond rfl (fun hci => ?_) (fun hci => ?_)
  · have hi1 : i < ks.length := by have := of_decide_eq_true hci; omega
    have h1y : ks[i]? = some ks[i] := List.getElem?_eq_getElem hi1
    have hmy : ks[i] ∈ ks := List.getElem_mem hi1
    have hdy : ks.drop i = ks[i] :: ks.drop (i + 1) := List.drop_eq_getElem_cons hi1
    generalize ks[i] = y at h1y hmy hdy
    have hlo := Vl.lefts_lo (ks.take i) (m - 1) (by omega)
    have hst := Vl.lefts_take h1y (m - 1)
    obtain ⟨L, hL⟩ : ∃ L, L = Vl.lefts (ks.take i) (m - 1) := ⟨_, rfl⟩
    rw [← hL] at hlo hst hwi ⊢
    rw [hdy] at hwi
    have hp := fun h : 0 ≤ L => ih y L (by have := Vl.sz_kid (c := c) (n := n) hmy; omega) (hO.kid hmy) h (by omega)
    have hylo := fun h : 0 ≤ L => Vl.left_lo y L h
    generalize hE : y.left L = E at hp hylo hst
    obtain ⟨yc, yn, yk⟩ := y
    obtain ⟨A, hA⟩ : ∃ A, A = m - L := ⟨_, rfl⟩
    rw [← hA]
    refine AWp.skip ?_
    repeat (first | refine AWp.seq ?_ | refine AWp.block ?_)
    apply AWp.reg [] []
    · conv => lhs; simp [Vl.row, Vl.rows_eq, h1y]
    · (repeat' apply And.intro) <;> first | omega | assumption | trivial | (simp [inI, maxLen]; done) | (simp [inI, maxLen]; omega)
    by_cases q1 : m < A
    · repeat (first | refine AWp.seq ?_ | refine AWp.block ?_)
      apply AWp.reg [] []
      · conv => lhs; simp [Vl.row, Vl.rows_eq, h1y, q1]
      · (repeat' apply And.intro) <;> first | omega | assumption | trivial | (simp [inI, maxLen]; done) | (simp [inI, maxLen]; omega)
      repeat (first | refine AWp.seq ?_ | refine AWp.block ?_)
      refine AWp.cond rfl (fun hc => ?_) (fun hc => ?_)
      rotate_left
      · cases hc
      repeat (first | refine AWp.seq ?_ | refine AWp.block ?_)
      apply AWp.reg [] []
      · conv => lhs; simp [Vl.row, Vl.rows_eq, h1y, q1]
      · (repeat' apply And.intro) <;> first | omega | assumption | trivial | (simp [inI, maxLen]; done) | (simp [inI, maxLen]; omega)
      refine AWp.ret ?_
      rw [Vl.lefts_neg _ L (by omega)] at hwi
      try dsimp only [thenQ, blockQ]
      apply endQ.ret
      · rfl
      · conv => lhs; simp [resAV, Try.results11]
      · rw [Vl.left, hwi, hA]; rfl
    repeat (first | refine AWp.seq ?_ | refine AWp.block ?_)
    apply AWp.reg [] []
    · conv => lhs; simp [Vl.row, Vl.rows_eq, h1y, q1]
    · (repeat' apply And.intro) <;> first | omega | assumption | trivial | (simp [inI, maxLen]; done) | (simp [inI, maxLen]; omega)
    repeat (first | refine AWp.seq ?_ | refine AWp.block ?_)
    refine AWp.cond rfl (fun hc => ?_) (fun hc => ?_)
    · cases hc
    refine AWp.skip ?_
    have hL0 : 0 ≤ L := by omega
    have hp := hp hL0
    have hylo := hylo hL0
    have hmA : m - A = L := by omega
    repeat (first | refine AWp.seq ?_ | refine AWp.block ?_)
    apply AWp.reg [] [.p (fun _ => .d (.int (L - E))) none]
    · conv => lhs; simp [Vl.row, Vl.rows_eq, h1y, hmA, q1]
    · (repeat' apply And.intro) <;> first | omega | assumption | trivial | (simp [inI, maxLen]; done) | (simp [inI, maxLen]; omega)
    repeat (first | refine AWp.seq ?_ | refine AWp.block ?_)
    apply AWp.reg [] []
    · conv => lhs; simp [Vl.row, Vl.rows_eq, h1y, hmA, q1]
    · (repeat' apply And.intro) <;> first | omega | assumption | trivial | (simp [inI, maxLen]; done) | (simp [inI, maxLen]; omega)
    rw [Vl.lefts, if_pos hL0, hE] at hwi
    rw [if_pos hL0] at hst
    rw [← hst] at hwi
    refine ⟨⟨i + 1, hi1, hwi⟩, by simp; omega, ?_⟩
    dsimp only
    rw [hst, show m - E = A + (L - E) by omega]
    exact Le.sub (by simp) (by simp)
  have hi1 : i = ks.length := by have := of_decide_eq_false hci; omega
  subst hi1
  clear hci
  rw [List.drop_length, List.take_length] at hwi
  rw [List.take_length]
  simp only [Vl.lefts] at hwi
  refine AWp.exit ?_
  repeat (first | refine AWp.seq ?_ | refine AWp.block ?_)
  apply AWp.reg [] []
  · conv => lhs; simp [Vl.row, Vl.rows_eq]
  · (repeat' apply And.intro) <;> first | omega | assumption | trivial | (simp [inI, maxLen]; done) | (simp [inI, maxLen]; omega)
  refine AWp.ret ?_
  try dsimp only [thenQ, blockQ]
  apply endQ.ret
  · rfl
  · conv => lhs; simp [resAV, Try.results11]
  · rw [Vl.left]; rfl

abbrev fwObj : AObj := .blk 60 [.clo 33 [.ptr 1000 0, .ptr 1001 0]]
set_option maxRecDepth 20000 in
set_option maxHeartbeats 8000000 in
theorem cs_Few1_at : ∀ (N : Nat) (t : Vl) (m : Int), t.sz < N → t.Ok → 0 ≤ m → m ≤ 1000000 → CSpec Try.prog 33 [vlAV t, .ptr 1000 0, .ptr 1001 0] [(1000, .blk 3 [.d (.int m)]), (1001, fwObj)] (.tuple []) [(1000, .blk 3 [.d (.int (t.left m))]), (1001, fwObj)] := by
  intro N
  induction N with
  | zero => intro t m h; omega
  | succ N ih =>
  intro t m hN hO hm0 hm1
  obtain ⟨c, n, ks⟩ := t
  have o2 := hO.2.1
  refine CSpec.of Try.func33 rfl rfl (Nat.le_of_ble_eq_true rfl) ?_
  show AWp _ _ (endC _ Try.f33 _ _) (startC 21 _ _)
  repeat (first | refine AWp.seq ?_ | refine AWp.block ?_)
  apply AWp.reg [] []
  · conv => lhs; simp [Vl.row, Vl.rows_eq, fwObj]
  · (repeat' apply And.intro) <;> first | omega | assumption | trivial | (simp [inI, maxLen]; done) | (simp [inI, maxLen]; omega)
  repeat (first | refine AWp.seq ?_ | refine AWp.block ?_)
  apply AWp.reg [] []
  · conv => lhs; simp [Vl.row, Vl.rows_eq, fwObj]
  · (repeat' apply And.intro) <;> first | omega | assumption | trivial | (simp [inI, maxLen]; done) | (simp [inI, maxLen]; omega)
  repeat (first | refine AWp.seq ?_ | refine AWp.block ?_)
  apply AWp.reg [] []
  · conv => lhs; simp [Vl.row, Vl.rows_eq, fwObj]
  · (repeat' apply And.intro) <;> first | omega | assumption | trivial | (simp [inI, maxLen]; done) | (simp [inI, maxLen]; omega)
  repeat (first | refine AWp.seq ?_ | refine AWp.block ?_)
  refine AWp.loop (σ := fun u : {i : Nat // i ≤ ks.length} => ⟨21, [(1, .ptr 1000 0), (2, .ptr 1001 0), (9, .d (.sl (ks.map Vl.row))), (10, .d (.int ks.length)), (11, .d (.int u.1))], [(1000, some (.blk 3 [.d (.int (Vl.lefts (ks.take u.1) (m - 1)))])), (1001, some fwObj)]⟩)
    (μ := fun u => ks.length - u.1) ⟨0, Nat.zero_le _⟩ (Le.sub (by simp [Vl.lefts, fwObj]) (by simp [Vl.lefts, fwObj])) (fun ⟨i, hi⟩ => ?_)
  dsimp only
  repeat (first | refine AWp.seq ?_ | refine AWp.block ?_)
  apply AWp.reg [] []
  · conv => lhs; simp
  · trivial
  repeat (first | refine AWp.seq ?_ | refine AWp.block ?_)
  refine AWp.cond rfl (fun hci => ?_) (fun hci => ?_)
  · have hi1 : i < ks.length := by have := of_decide_eq_true hci; omega
    have h1y : ks[i]? = some ks[i] := List.getElem?_eq_getElem hi1
    have hmy : ks[i] ∈ ks := List.getElem_mem hi1
    have hdy : ks.drop i = ks[i] :: ks.drop (i + 1) := List.drop_eq_getElem_cons hi1
    generalize ks[i] = y at h1y hmy hdy
    have hlo := Vl.lefts_lo (ks.take i) (m - 1) (by omega)
    have hst := Vl.lefts_take h1y (m - 1)
    obtain ⟨L, hL⟩ : ∃ L, L = Vl.lefts (ks.take i) (m - 1) := ⟨_, rfl⟩
    rw [← hL] at hlo hst ⊢
    have hp := fun h : 0 ≤ L => ih y L (by have := Vl.sz_kid (c := c) (n := n) hmy; omega) (hO.kid hmy) h (by omega)
    generalize hE : y.left L = E at hp hst
    obtain ⟨yc, yn, yk⟩ := y
    refine AWp.skip ?_
    repeat (first | refine AWp.seq ?_ | refine AWp.block ?_)
    apply AWp.reg [] []
    · conv => lhs; simp [Vl.row, Vl.rows_eq, fwObj, h1y]
    · (repeat' apply And.intro) <;> first | omega | assumption | trivial | (simp [inI, maxLen]; done) | (simp [inI, maxLen]; omega)
    by_cases q1 : 0 ≤ L
    · repeat (first | refine AWp.seq ?_ | refine AWp.block ?_)
      apply AWp.reg [] []
      · conv => lhs; simp [Vl.row, Vl.rows_eq, fwObj, h1y, q1]
      · (repeat' apply And.intro) <;> first | omega | assumption | trivial | (simp [inI, maxLen]; done) | (simp [inI, maxLen]; omega)
      repeat (first | refine AWp.seq ?_ | refine AWp.block ?_)
      refine AWp.cond rfl (fun hc => ?_) (fun hc => ?_)
      rotate_left
      · cases hc
      have hL0 : 0 ≤ L := by omega
      have hp := hp hL0
      repeat (first | refine AWp.seq ?_ | refine AWp.block ?_)
      apply AWp.reg [] [.c [] [vlAV (.mk yc yn yk), .ptr 1000 0, .ptr 1001 0] [(1000, .blk 3 [.d (.int L)]), (1001, fwObj)] (.tuple []) [(1000, .blk 3 [.d (.int E)]), (1001, fwObj)]]
      · conv => lhs; simp [Vl.row, Vl.rows_eq, fwObj, h1y, q1]
      · (repeat' apply And.intro) <;> first | omega | assumption | trivial | (simp [inI, maxLen]; done) | (simp [inI, maxLen]; omega)
      repeat (first | refine AWp.seq ?_ | refine AWp.block ?_)
      apply AWp.reg [] []
      · conv => lhs; simp [Vl.row, Vl.rows_eq, fwObj, h1y, q1]
      · (repeat' apply And.intro) <;> first | omega | assumption | trivial | (simp [inI, maxLen]; done) | (simp [inI, maxLen]; omega)
      rw [if_pos hL0] at hst
      refine ⟨⟨i + 1, hi1⟩, by simp; omega, ?_⟩
      dsimp only
      rw [hst]
      exact Le.sub (by simp) (by simp [fwObj])
    repeat (first | refine AWp.seq ?_ | refine AWp.block ?_)
    apply AWp.reg [] []
    · conv => lhs; simp [Vl.row, Vl.rows_eq, fwObj, h1y, q1]
    · (repeat' apply And.intro) <;> first | omega | assumption | trivial | (simp [inI, maxLen]; done) | (simp [inI, maxLen]; omega)
    repeat (first | refine AWp.seq ?_ | refine AWp.block ?_)
    refine AWp.cond rfl (fun hc => ?_) (fun hc => ?_)
    · cases hc
    refine AWp.skip ?_
    repeat (first | refine AWp.seq ?_ | refine AWp.block ?_)
    apply AWp.reg [] []
    · conv => lhs; simp [Vl.row, Vl.rows_eq, fwObj, h1y, q1]
    · (repeat' apply And.intro) <;> first | omega | assumption | trivial | (simp [inI, maxLen]; done) | (simp [inI, maxLen]; omega)
    rw [if_neg (show ¬ 0 ≤ L by omega)] at hst
    refine ⟨⟨i + 1, hi1⟩, by simp; omega, ?_⟩
    dsimp only
    rw [hst]
    exact Le.sub (by simp) (by simp [fwObj])
  have hi1 : i = ks.length := by have := of_decide_eq_false hci; omega
  subst hi1
  clear hci
  rw [List.take_length]
  refine AWp.exit ?_
  try dsimp only [thenQ, blockQ]
  apply endC.normal
  · rfl
  · conv => lhs; simp [resAV, Try.results33]
  · rfl
  · rw [show Vl.left (.mk c n ks) m = Vl.lefts ks (m - 1) from by rw [Vl.left]]
    simp [moEnd, memGet, fwObj]

set_option maxRecDepth 20000 in
set_option maxHeartbeats 8000000 in
theorem sp_Few (t : Vl) (hO : t.Ok) : PSpec Try.prog 10 [vlAV t] (fun _ => .d (.bool (decide (0 ≤ t.left 1000)))) none := by
  have h1 := cs_Few1_at _ t 1000 (Nat.lt_succ_self _) hO (by omega) (by omega)
  generalize t.left 1000 = E at h1
  obtain ⟨c, n, ks⟩ := t
  refine PSpec.of Try.func10 rfl rfl rfl (Nat.le_of_ble_eq_true rfl) ?_
  show AWp _ _ (endQ _ Try.f10 _ _ _) (startAS 11 _)
  repeat (first | refine AWp.seq ?_ | refine AWp.block ?_)
  apply AWp.reg [] []
  · conv => lhs; simp
  · trivial
  repeat (first | refine AWp.seq ?_ | refine AWp.block ?_)
  apply AWp.reg [] []
  · conv => lhs; simp
  · trivial
  repeat (first | refine AWp.seq ?_ | refine AWp.block ?_)
  apply AWp.reg [] []
  · conv => lhs; simp
  · trivial
  repeat (first | refine AWp.seq ?_ | refine AWp.block ?_)
  apply AWp.reg [] []
  · conv => lhs; simp
  · trivial
  repeat (first | refine AWp.seq ?_ | refine AWp.block ?_)
  apply AWp.reg [] [.c [(1000, 3), (1001, 4)] [vlAV (.mk c n ks), .ptr 1000 0, .ptr 1001 0] [(1000, .blk 3 [.d (.int 1000)]), (1001, fwObj)] (.tuple []) [(1000, .blk 3 [.d (.int E)]), (1001, fwObj)]]
  · conv => lhs; simp [fwObj]
  · (repeat' apply And.intro) <;> first | omega | assumption | trivial | (simp [inI, maxLen]; done) | (simp [inI, maxLen]; omega)
  repeat (first | refine AWp.seq ?_ | refine AWp.block ?_)
  apply AWp.reg [] []
  · conv => lhs; simp
  · (repeat' apply And.intro) <;> first | omega | assumption | trivial | (simp [inI, maxLen]; done) | (simp [inI, maxLen]; omega)
  refine AWp.ret ?_
  try dsimp only [thenQ, blockQ]
  apply endQ.ret
  · rfl
  · conv => lhs; simp [resAV, Try.results10]
  · rfl

end Go.Proofs.Ytialccgjbanmcaa
