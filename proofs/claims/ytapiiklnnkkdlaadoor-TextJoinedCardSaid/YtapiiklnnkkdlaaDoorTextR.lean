import Derived.Test.YtapiiklnnkkdlaaDoorWrongA
import Derived.Test.YtapiiklnnkkdlaaDoorArP
import Derived.Test.YtapiiklnnkkdlaaDoorFreeA
import Derived.Test.YtapiiklnnkkdlaaDoorJoinP
import Derived.Test.YtapiiklnnkkdlaaDoorInP
/- What is wrong with functions: plainly; what a right program is like. -/
namespace Go.Proofs.YtapiiklnnkkdlaaDoor
open Go.RowKit
set_option linter.unusedVariables false
set_option linter.unusedSimpArgs false
def Fn.headE (f : Arity) (x : Fn) : Int :=
  if ((f.get x.name).isSome || !nameB x.name || twB x.params || badB x.params) = true then 7
  else if 6 < x.params.length then 5 else if 400 < wr x.body.sz then 4 else 0
theorem wrong_zero {f : Arity} {k n : Int} {a b : ByteArray} {vs names : List ByteArray} {xs : List Tm} {cs : List Cs} {deep : Int} (h : (Tm.mk k n a b vs xs cs).wrong f names deep = 0) :
    deep ≤ 24 ∧ 1 ≤ k ∧ k ≤ 7 ∧ manyB k xs.length cs.length = false ∧ headE f k n a names xs.length = 0 ∧ Tm.wrongs f k a names deep 0 xs = 0 ∧ (k = 7 → cs.length ≠ 0 ∧ cs.length ≤ 5 ∧ Cs.wrongs f names deep [] cs = 0) := by
  simp only [Tm.wrong] at h
  split at h
  · cases h
  rename_i h1
  split at h
  · cases h
  rename_i h2
  split at h
  · cases h
  rename_i h3
  split at h
  · rename_i h4; exact absurd h h4
  rename_i h4
  split at h
  · rename_i h5; exact absurd h h5
  rename_i h5
  refine ⟨by omega, by omega, by omega, by simpa using h3, by omega, by omega, fun h7 => ?_⟩
  rw [if_neg (by omega)] at h
  split at h
  · cases h
  rename_i h6
  exact ⟨by omega, by omega, h⟩
theorem wrongs_zero {f : Arity} {k : Int} {a : ByteArray} {names : List ByteArray} {deep : Int} : ∀ {l : List Tm} {i : Nat}, Tm.wrongs f k a names deep i l = 0 →
    ∀ (j : Nat) (x : Tm), l[j]? = some x → x.wrong f (if k = 6 ∧ i + j = 1 then names ++ [a] else names) (deep + 1) = 0
  | [], _, _, j, x, hj => by simp at hj
  | y :: r, i, h, j, x, hj => by
    simp only [Tm.wrongs] at h
    obtain ⟨ns, hns⟩ : ∃ ns, ns = if k = 6 ∧ i = 1 then names ++ [a] else names := ⟨_, rfl⟩
    rw [← hns] at h
    by_cases h1 : y.wrong f ns (deep + 1) = 0
    rotate_left
    · rw [if_pos h1] at h; exact absurd h h1
    rw [if_neg (fun e => e h1)] at h
    match j with
    | 0 =>
      simp at hj; subst hj
      rw [Nat.add_zero, ← hns]
      exact h1
    | j + 1 =>
      have := wrongs_zero h j x (by simpa using hj)
      rwa [show i + 1 + j = i + (j + 1) by omega] at this
theorem cwrongs_zero {f : Arity} {names : List ByteArray} {deep : Int} : ∀ {l : List Cs} {had : List Int}, Cs.wrongs f names deep had l = 0 →
    ∀ {t : Int} {vs : List ByteArray} {b : Tm}, Cs.mk t vs b ∈ l → 0 ≤ t ∧ t ≤ 9 ∧ twB vs = false ∧ badB vs = false ∧ vs.length ≤ 6 ∧ b.wrong f (names ++ vs) (deep + 1) = 0
  | [], _, _, t, vs, b, hm => by cases hm
  | c :: r, had, h, t, vs, b, hm => by
    simp only [Cs.wrongs] at h
    split at h
    · rename_i h1; exact absurd h h1
    rename_i h1
    rcases List.mem_cons.1 hm with rfl | hm
    · have h1 := Decidable.byContradiction fun e => h1 e
      simp only [Cs.wrongC] at h1
      split at h1
      · cases h1
      split at h1
      · cases h1
      split at h1
      · cases h1
      rename_i h2 h3 h4
      simp only [Bool.or_eq_true, not_or, Bool.not_eq_true] at h3
      exact ⟨by omega, by omega, h3.1.2, h3.2, by omega, h1⟩
    · exact cwrongs_zero h hm
theorem mem_addN {s : ByteArray} (more : List ByteArray) : ∀ l : List ByteArray, s ∈ addN l more ↔ s ∈ l ∨ s ∈ more := by
  induction more with
  | nil => intro l; simp [addN]
  | cons x more ih =>
    intro l
    have := ih (if hasB l x then l else l ++ [x])
    simp only [addN, List.foldl_cons] at this ⊢
    rw [this]
    split
    · rename_i h
      have h := hasB_iff.1 h
      simp only [List.mem_cons]
      constructor
      · rintro (h | h)
        · exact .inl h
        · exact .inr (.inr h)
      · rintro (h' | rfl | h')
        · exact .inl h'
        · exact .inl h
        · exact .inr h'
    · simp only [List.mem_append, List.mem_cons, List.not_mem_nil, or_false, or_assoc]
theorem mem_woN {s : ByteArray} {l gone : List ByteArray} : s ∈ woN l gone ↔ s ∈ l ∧ s ∉ gone := by
  unfold woN
  rw [List.mem_filter, ← hasB_not (l := gone)]
  simp
theorem mem_frees {s : ByteArray} (l : List Tm) : ∀ o, s ∈ Tm.frees o l ↔ s ∈ o ∨ ∃ x ∈ l, s ∈ x.free := by
  induction l with
  | nil => intro o; simp [Tm.frees]
  | cons x r ih =>
    intro o
    simp only [Tm.frees, ih, mem_addN, List.mem_cons, exists_eq_or_imp, or_assoc]
theorem mem_cfrees {s : ByteArray} (l : List Cs) : ∀ o, s ∈ Cs.frees o l ↔ s ∈ o ∨ ∃ x ∈ l, s ∈ x.freeC := by
  induction l with
  | nil => intro o; simp [Cs.frees]
  | cons x r ih =>
    intro o
    simp only [Cs.frees, ih, mem_addN, List.mem_cons, exists_eq_or_imp, or_assoc]
theorem wrong_free (f : Arity) : ∀ (N : Nat) (t : Tm) (names : List ByteArray) (deep : Int), t.sz < N → t.wrong f names deep = 0 → ∀ s ∈ t.free, s ∈ names := by
  intro N
  induction N with
  | zero => intro t _ _ h; omega
  | succ N ih =>
  intro t names deep hN h s hs
  obtain ⟨k, m, a, b, vs, xs, cs⟩ := t
  obtain ⟨h1, h2, h3, h4, h5, h6, h7⟩ := wrong_zero h
  have hx : ∀ (j : Nat) (x : Tm), xs[j]? = some x → s ∈ x.free → s ∈ (if k = 6 ∧ 0 + j = 1 then names ++ [a] else names) := fun j x hj hs =>
    ih x _ (deep + 1) (by have := Tm.sz_arg (k := k) (n := m) (a := a) (b := b) (vs := vs) (cs := cs) (List.mem_of_getElem? hj); omega) (wrongs_zero h6 j x hj) s hs
  simp only [Tm.free] at hs
  split at hs
  · rename_i hk
    subst hk
    unfold headE at h5
    rw [if_pos rfl] at h5
    split at h5
    · rename_i hh
      simp at hs
      subst hs
      exact hasB_iff.1 hh
    · cases h5
  split at hs
  · rename_i hk
    obtain ⟨hk, hl⟩ := hk
    match xs, hl with
    | [x, y], _ =>
      simp only [Tm.freeL, Tm.freeB] at hs
      rw [mem_addN, mem_addN, mem_woN] at hs
      rcases hs with (hs | hs) | hs
      · cases hs
      · have := hx 0 x rfl hs
        rwa [if_neg (by omega)] at this
      · have := hx 1 y rfl hs.1
        rw [if_pos (by omega)] at this
        rcases List.mem_append.1 this with h | h
        · exact h
        · exact absurd h hs.2
  · rename_i hk1 hk2
    rw [if_neg (by omega), mem_cfrees, mem_frees] at hs
    rcases hs with (hs | ⟨x, hm, hs⟩) | ⟨c, hm, hs⟩
    · cases hs
    · obtain ⟨j, hj⟩ := List.mem_iff_getElem?.1 hm
      have := hx j x hj hs
      have hj2 : j < xs.length := by
        have := List.getElem?_eq_some_iff.1 hj
        exact this.1
      rw [if_neg] at this
      · exact this
      rintro ⟨rfl, hj1⟩
      unfold manyB at h4
      simp at h4
      simp at hk2
      exact hk2 h4.1
    · have hk7 : k = 7 := by
        unfold manyB at h4
        simp only [Bool.or_eq_false_iff, Bool.and_eq_false_iff, decide_eq_false_iff_not] at h4
        rcases h4.2 with h' | h'
        · omega
        · have := List.length_pos_of_mem hm; omega
      obtain ⟨g, ws, x⟩ := c
      have h8 := (cwrongs_zero (h7 hk7).2.2 hm).2.2.2.2.2
      simp only [Cs.freeC] at hs
      rw [mem_woN] at hs
      have := ih x _ (deep + 1) (by have := Tm.sz_case (k := k) (n := m) (a := a) (b := b) (vs := vs) (xs := xs) hm; omega) h8 s hs.1
      rcases List.mem_append.1 this with h | h
      · exact h
      · exact absurd h hs.2
structure Fn.Right (f : Arity) (x : Fn) : Prop where
  name : nameB x.name = true
  twice : twB x.params = false
  bad : badB x.params = false
  params : x.params.length ≤ 6
  sz : x.body.sz ≤ 400
  wrong : x.body.wrong f x.params 0 = 0
structure Fn.Fit (f : Arity) (x : Fn) : Prop where
  params : x.params.length ≤ 6
  wrong : ∃ deep, x.body.wrong f x.params deep = 0
theorem Fn.Right.free {f : Arity} {x : Fn} (h : x.Right f) : ∀ s ∈ x.body.free, s ∈ x.params := wrong_free f _ x.body x.params 0 (Nat.lt_succ_self _) h.wrong

def strOkB (s : ByteArray) : Bool := Nat.ble s.size 1000
mutual
def Tm.okB : Tm → Bool
  | .mk _ n a b vs xs cs => (strOkB a && (strOkB b && vs.all strOkB)) && ((Nat.ble vs.length 1000 && (Nat.ble xs.length 1000 && Nat.ble cs.length 1000)) && ((decide (-1000000 ≤ n) && decide (n ≤ 1000000)) && (Tm.okBs xs && Cs.okBs cs)))
def Tm.okBs : List Tm → Bool
  | [] => true
  | x :: r => x.okB && Tm.okBs r
def Cs.okBs : List Cs → Bool
  | [] => true
  | c :: r => c.okB && Cs.okBs r
def Cs.okB : Cs → Bool
  | .mk t ws y => (decide (-1000000 ≤ t) && decide (t ≤ 1000000)) && ((Nat.ble ws.length 1000 && ws.all strOkB) && y.okB)
end
theorem strOkB_le {s : ByteArray} (h : strOkB s = true) : s.size ≤ 1000 := Nat.le_of_ble_eq_true h
mutual
theorem Tm.okB_ok : ∀ t : Tm, t.okB = true → t.Ok ∧ t.In
  | .mk k n a b vs xs cs, h => by
    simp only [Tm.okB, Bool.and_eq_true, List.all_eq_true, decide_eq_true_eq] at h
    obtain ⟨⟨h1, h2, h3⟩, ⟨h4, h5, h6⟩, ⟨h7, h8⟩, h9, h10⟩ := h
    have g1 := strOkB_le h1
    have g2 := strOkB_le h2
    have g4 := Nat.le_of_ble_eq_true h4
    have g5 := Nat.le_of_ble_eq_true h5
    have g6 := Nat.le_of_ble_eq_true h6
    obtain ⟨p1, p2⟩ := Tm.okBs_ok xs h9
    obtain ⟨p3, p4⟩ := Cs.okBs_ok cs h10
    exact ⟨⟨⟨by omega, by omega, fun s hs => by have := strOkB_le (h3 s hs); omega⟩, ⟨by omega, by omega, by omega⟩, p1, p3⟩, ⟨by omega, by omega⟩, p2, p4⟩
theorem Tm.okBs_ok : ∀ l : List Tm, Tm.okBs l = true → Tm.Oks l ∧ Tm.InL l
  | [], _ => ⟨trivial, trivial⟩
  | x :: r, h => by
    rw [Tm.okBs, Bool.and_eq_true] at h
    obtain ⟨h1, h2⟩ := Tm.okB_ok x h.1
    obtain ⟨h3, h4⟩ := Tm.okBs_ok r h.2
    exact ⟨⟨h1, h3⟩, h2, h4⟩
theorem Cs.okBs_ok : ∀ l : List Cs, Cs.okBs l = true → Cs.Oks l ∧ Cs.InL l
  | [], _ => ⟨trivial, trivial⟩
  | x :: r, h => by
    rw [Cs.okBs, Bool.and_eq_true] at h
    obtain ⟨h1, h2⟩ := Cs.okB_ok x h.1
    obtain ⟨h3, h4⟩ := Cs.okBs_ok r h.2
    exact ⟨⟨h1, h3⟩, h2, h4⟩
theorem Cs.okB_ok : ∀ c : Cs, c.okB = true → c.Ok ∧ c.In
  | .mk t ws y, h => by
    simp only [Cs.okB, Bool.and_eq_true, List.all_eq_true, decide_eq_true_eq] at h
    obtain ⟨⟨h1, h2⟩, ⟨h3, h4⟩, h5⟩ := h
    have g3 := Nat.le_of_ble_eq_true h3
    obtain ⟨p1, p2⟩ := Tm.okB_ok y h5
    exact ⟨⟨fun s hs => by have := strOkB_le (h4 s hs); omega, by omega, p1⟩, ⟨by omega, by omega⟩, p2⟩
end
def Fn.okB (f : Fn) : Bool := strOkB f.name && ((Nat.ble f.params.length 1000 && f.params.all strOkB) && f.body.okB)
theorem Fn.okB_ok {f : Fn} (h : f.okB = true) : f.Ok ∧ f.body.In := by
  simp only [Fn.okB, Bool.and_eq_true, List.all_eq_true] at h
  obtain ⟨h1, ⟨h2, h3⟩, h4⟩ := h
  have g1 := strOkB_le h1
  have g2 := Nat.le_of_ble_eq_true h2
  obtain ⟨p1, p2⟩ := Tm.okB_ok _ h4
  exact ⟨⟨by omega, by omega, fun s hs => by have := strOkB_le (h3 s hs); omega, p1⟩, p2⟩
end Go.Proofs.YtapiiklnnkkdlaaDoor

namespace Go.Proofs.YtapiiklnnkkdlaaDoor
open Go.RowKit
attribute [local simp] runD mkRc ldOf stOf stOk ldArg noAny dstOk guardOk opEff opEff0 effOp pureOp callOp zEff evA constAV scalAV Value.oneCell' frGet memGet startAS frOf isGoCall idIn AS.after nextR opnIds objIds AV.ids idsL AObj.ids frNo memNo opnAny isAny mkVal rdCells wrCells fldAddr idxAddr srcRows litRows toD1 toDs setAt sliceAV optI partAV bldAV fillAV binAV binI AV.cells callEff calleeOf frKill memKill AV.kill AObj.kill AV.has AV.hasL Op.operands Call.operands keepF keepM viewIds cChk renOf moGet moWs moQ cEff moLike moHave AV.ren renL AObj.ren AObj.like kept startC moMem AV.frz frz1 frzL frSub memSub frzs AS.frz frFrz memFrz AObj.frz takeMap takeLen bleF Nat.ble_eq memAny objAny mapOp D.keyOk rowAV valRow extOp wrapOp phO
set_option linter.unusedVariables false
set_option linter.unusedSimpArgs false
@[simp] theorem wr_one : wr 1 = 1 := rfl
theorem szs_append : ∀ (l r : List Tm), Tm.szs (l ++ r) = Tm.szs l + Tm.szs r
  | [], r => by simp [Tm.szs]
  | x :: l, r => by simp only [List.cons_append, Tm.szs, szs_append l r]; omega
theorem cszs_append : ∀ (l r : List Cs), Cs.szs (l ++ r) = Cs.szs l + Cs.szs r
  | [], r => by simp [Cs.szs]
  | x :: l, r => by simp only [List.cons_append, Cs.szs, cszs_append l r]; omega
theorem Tm.szs_take_le (l : List Tm) (i : Nat) : Tm.szs (l.take i) ≤ Tm.szs l := by
  have := szs_append (l.take i) (l.drop i)
  rw [List.take_append_drop] at this
  omega
theorem Cs.szs_take_le (l : List Cs) (i : Nat) : Cs.szs (l.take i) ≤ Cs.szs l := by
  have := cszs_append (l.take i) (l.drop i)
  rw [List.take_append_drop] at this
  omega
set_option maxRecDepth 20000 in
set_option maxHeartbeats 8000000 in
theorem sp_SameFns (a b : List Fn) (ha : a.length ≤ 879609302220) (hf : ∀ f ∈ a, f.body.Ok ∧ f.params.length ≤ 8796093022207) : PSpec Tryd.prog 19 [fnsAV a, fnsAV b] (fun _ => .d (.bool (eqB a b))) none := by
  refine PSpec.of Tryd.func19 rfl rfl rfl (Nat.le_of_ble_eq_true rfl) ?_
  show AWp _ _ (endQ _ Tryd.f19 _ _ _) (startAS 56 _)
  repeat (first | refine AWp.seq ?_ | refine AWp.block ?_)
  apply AWp.reg [] []
  · conv => lhs; simp
  · trivial
  by_cases hl : a.length = b.length
  rotate_left
  · have hl' : ¬ ((a.length : Int) = b.length) := by omega
    repeat (first | refine AWp.seq ?_ | refine AWp.block ?_)
    apply AWp.reg [] []
    · conv => lhs; simp [hl, hl']
    · trivial
    repeat (first | refine AWp.seq ?_ | refine AWp.block ?_)
    refine AWp.cond rfl (fun h => ?_) (fun h => ?_)
    · repeat (first | refine AWp.seq ?_ | refine AWp.block ?_)
      apply AWp.reg [] []
      · conv => lhs; simp
      · trivial
      refine AWp.ret ?_
      try dsimp only [thenQ, blockQ]
      apply endQ.ret
      · rfl
      · conv => lhs; simp [resAV, Tryd.results19]
      rw [eqB_ne (fun e => hl (by rw [e]))]; rfl
    · cases h
  repeat (first | refine AWp.seq ?_ | refine AWp.block ?_)
  apply AWp.reg [] []
  · conv => lhs; simp [hl]
  · trivial
  refine AWp.cn ?_
  refine AWp.skip ?_
  repeat (first | refine AWp.seq ?_ | refine AWp.block ?_)
  apply AWp.reg [] []
  · conv => lhs; simp
  · trivial
  repeat (first | refine AWp.seq ?_ | refine AWp.block ?_)
  refine AWp.loop (σ := fun u : {i : Nat // i ≤ a.length ∧ a.take i = b.take i} => ⟨56, [(0, fnsAV a), (1, fnsAV b), (12, .d (.int a.length)), (13, .d (.int u.1))], []⟩)
    (μ := fun u => a.length - u.1) ⟨0, Nat.zero_le _, rfl⟩ (Le.sub (by simp [hl]) (by simp)) (fun ⟨i, hi, ht⟩ => ?_)
  dsimp only
  repeat (first | refine AWp.seq ?_ | refine AWp.block ?_)
  apply AWp.reg [] []
  · conv => lhs; simp
  · trivial
  repeat (first | refine AWp.seq ?_ | refine AWp.block ?_)
  refine AWp.cond rfl (fun h => ?_) (fun h => ?_)
  · have hi1 : i < a.length := by have := of_decide_eq_true h; omega
    have h1 : a[i]? = some a[i] := List.getElem?_eq_getElem hi1
    have h2 : b[i]? = some (b[i]'(by omega)) := List.getElem?_eq_getElem (by omega)
    have hmem : a[i] ∈ a := List.getElem_mem hi1
    generalize a[i] = x at h1 hmem
    generalize b[i]'(by omega) = y at h2
    have hte := take_eq h1 h2 ht
    obtain ⟨q1, q2⟩ := hf x hmem
    obtain ⟨g, ws, x⟩ := x
    obtain ⟨g', ws', y⟩ := y
    dsimp only at q1 q2
    have hp := sp_refSame x y q1
    have hws := sp_SameNames ws ws' (by omega)
    have hbad : (g ≠ g' ∨ ws ≠ ws' ∨ x ≠ y) → eqB a b = false := fun h => eqB_ne (take_ne h1 h2 (by
      intro e
      cases e
      simp at h))
    obtain ⟨B, hB⟩ : ∃ B, B = eqB x y := ⟨_, rfl⟩
    rw [← hB] at hp
    have hBf : B = false → x ≠ y := fun e q => by rw [hB, q, eqB_self] at e; cases e
    have hBt : B = true → x = y := fun e => eqB_iff.1 (by rw [← hB]; exact e)
    obtain ⟨_, _, _, _, _, _, _⟩ := x
    obtain ⟨_, _, _, _, _, _, _⟩ := y
    refine AWp.skip ?_
    repeat (first | refine AWp.seq ?_ | refine AWp.block ?_)
    apply AWp.reg [] []
    · conv => lhs; simp
    · trivial
    by_cases e8 : g = g'
    rotate_left
    · refine AWp.dw [] [] mixed ?_ (hr := by conv => lhs; simp [h1, h2, e8, Fn.row, Tm.row, Tm.rows_eq, Cs.rows_eq])
      repeat (first | refine AWp.seq ?_ | refine AWp.block ?_)
      refine AWp.cond rfl (fun h3 => ?_) (fun h3 => ?_)
      · repeat (first | refine AWp.seq ?_ | refine AWp.block ?_)
        apply AWp.reg [] []
        · conv => lhs; simp
        · trivial
        refine AWp.ret ?_
        try dsimp only [thenQ, blockQ]
        apply endQ.ret
        · rfl
        · conv => lhs; simp [resAV, Tryd.results19]
        rw [hbad (.inl e8)]; rfl
      · simp at h3
    subst e8
    by_cases e9 : ws = ws'
    rotate_left
    · rw [eqB_ne e9] at hws
      repeat (first | refine AWp.seq ?_ | refine AWp.block ?_)
      apply AWp.draw [] [.p (fun _ => .d (.bool false)) none] mixed
      · conv => lhs; simp [h1, h2, Fn.row, Tm.row, Tm.rows_eq, Cs.rows_eq]
      · kernel_rfl
      · exact hws
      repeat (first | refine AWp.seq ?_ | refine AWp.block ?_)
      refine AWp.cond rfl (fun h3 => ?_) (fun h3 => ?_)
      · repeat (first | refine AWp.seq ?_ | refine AWp.block ?_)
        apply AWp.reg [] []
        · conv => lhs; simp
        · trivial
        refine AWp.ret ?_
        try dsimp only [thenQ, blockQ]
        apply endQ.ret
        · rfl
        · conv => lhs; simp [resAV, Tryd.results19]
        rw [hbad (.inr (.inl e9))]; rfl
      · simp at h3
    subst e9
    rw [eqB_self] at hws
    cases B with
    | true =>
      have hxy := hBt rfl
      repeat (first | refine AWp.seq ?_ | refine AWp.block ?_)
      apply AWp.draw [] [.p (fun _ => .d (.bool true)) none, .p (fun _ => .d (.bool true)) none] mixed
      · conv => lhs; simp [h1, h2, Fn.row, Tm.row, Tm.rows_eq, Cs.rows_eq]
      · kernel_rfl
      · exact ⟨hws, hp⟩
      repeat (first | refine AWp.seq ?_ | refine AWp.block ?_)
      refine AWp.cond rfl (fun h3 => ?_) (fun h3 => ?_)
      · simp at h3
      refine AWp.skip ?_
      refine AWp.rg [] [] ?_
      refine ⟨⟨i + 1, hi1, hte.2 (by rw [hxy])⟩, by simp; omega, Le.sub (by simp) (by simp)⟩
    | false =>
      have hxy := hBf rfl
      repeat (first | refine AWp.seq ?_ | refine AWp.block ?_)
      apply AWp.draw [] [.p (fun _ => .d (.bool true)) none, .p (fun _ => .d (.bool false)) none] mixed
      · conv => lhs; simp [h1, h2, Fn.row, Tm.row, Tm.rows_eq, Cs.rows_eq]
      · kernel_rfl
      · exact ⟨hws, hp⟩
      repeat (first | refine AWp.seq ?_ | refine AWp.block ?_)
      refine AWp.cond rfl (fun h3 => ?_) (fun h3 => ?_)
      · repeat (first | refine AWp.seq ?_ | refine AWp.block ?_)
        apply AWp.reg [] []
        · conv => lhs; simp
        · trivial
        refine AWp.ret ?_
        try dsimp only [thenQ, blockQ]
        apply endQ.ret
        · rfl
        · conv => lhs; simp [resAV, Tryd.results19]
        rw [hbad (.inr (.inr hxy))]; rfl
      · simp at h3
  · have hi1 : i = a.length := by have := of_decide_eq_false h; omega
    subst hi1
    rw [List.take_length, hl, List.take_length] at ht
    subst ht
    refine AWp.exit ?_
    repeat (first | refine AWp.seq ?_ | refine AWp.block ?_)
    apply AWp.reg [] []
    · conv => lhs; simp
    · trivial
    refine AWp.ret ?_
    try dsimp only [thenQ, blockQ]
    apply endQ.ret
    · rfl
    · conv => lhs; simp [resAV, Tryd.results19]
    rw [eqB_self]; rfl

@[simp] theorem le_maxLen58 : 58 ≤ maxLen := by decide
@[simp] theorem le_maxLen18 : 18 ≤ maxLen := by decide
@[simp] theorem le_maxLen19 : 19 ≤ maxLen := by decide
def fnT1 : List Fn → Fn
  | f :: _ => f
  | [] => ⟨.empty, [], .mk 0 0 .empty .empty [] [] []⟩
def tx1 : ByteArray := ⟨#[40, 102, 110, 32, 102, 32, 40, 120, 41, 32, 40, 108, 101, 116, 32, 121, 32, 40, 35, 49, 32, 120, 32, 50, 41, 32, 40, 109, 97, 116, 99, 104, 32, 121, 32, 40, 40, 35, 49, 32, 40, 97, 32, 98, 41, 41, 32, 40, 43, 32, 97, 32, 98, 41, 41, 41, 41, 41]⟩
def tx2 : ByteArray := ⟨#[40, 102, 110, 32, 102, 32, 40, 120, 41, 32, 40, 43, 32, 120, 32, 49, 41, 41]⟩
theorem pr1_eq : parseP true tx1 = ([], 2) := by kernel_rfl
def fT2 : Fn := fnT1 (parseP true tx2).1
theorem pr2_eq : parseP true tx2 = ([fT2], 0) := by kernel_rfl
theorem fT2_ok : fT2.okB = true := by kernel_rfl
theorem fT2_wt : Nat.ble (Fn.wtL [fT2]) 1000000 = true := by kernel_rfl
theorem fT2_wt' : Nat.ble fT2.body.wt 1000000 = true := by kernel_rfl
theorem fT2_sh : fT2.body.sh = ⟨#[40, 43, 32, 120, 32, 49, 41]⟩ := by kernel_rfl
theorem fT2_pr : Fn.shL [fT2] ⟨#[]⟩ = ⟨#[40, 102, 110, 32, 102, 32, 40, 120, 41, 32, 40, 43, 32, 120, 32, 49, 41, 41, 10]⟩ := by kernel_rfl
theorem nm_a1 : nameB ⟨#[97, 49]⟩ = true := by kernel_rfl
theorem nm_A : nameB ⟨#[65]⟩ = false := by kernel_rfl
set_option maxRecDepth 20000 in
set_option maxHeartbeats 16000000 in
theorem sp_alive1 : PSpec Tryd.prog 48 [] (fun _ => .d (.bool true)) none := by
  have h1 := sp_tParse tx1
  rw [parseT_eq, pr1_eq] at h1
  unfold tx1 at h1
  have h2 := sp_tParse tx2
  rw [parseT_eq, pr2_eq] at h2
  unfold tx2 at h2
  obtain ⟨hO, hI⟩ := Fn.okB_ok fT2_ok
  have h3 := sp_tPrint [fT2] (by simpa using hI) (by have := Nat.le_of_ble_eq_true fT2_wt; omega)
  rw [fT2_pr] at h3
  have h4 := sp_tTerm fT2.body hI (by have := Nat.le_of_ble_eq_true fT2_wt'; omega)
  rw [fT2_sh] at h4
  have h5 := sp_tName ⟨#[97, 49]⟩ (by decide)
  rw [nm_a1] at h5
  have h6 := sp_tName ⟨#[65]⟩ (by decide)
  rw [nm_A] at h6
  clear hO hI
  generalize fT2 = f at *
  obtain ⟨fg, fps, ⟨fk, fn, fa, fb, fvs, fxs, fcs⟩⟩ := f
  simp only [fnsAV, List.map_cons, List.map_nil, Fn.row, Tm.row, Tm.rows_eq, Cs.rows_eq] at h1 h2 h3
  dsimp only at *
  refine PSpec.of Tryd.func48 rfl rfl rfl (Nat.le_of_ble_eq_true rfl) ?_
  show AWp _ _ (endQ _ Tryd.f48 _ _ _) (startAS 49 _)
  refine AWp.rg [] [] ?_ (hr := by conv => lhs; simp [Fn.row, Tm.row, Tm.rows_eq, Cs.rows_eq])
  refine AWp.rg [] [.p (fun _ => .tuple [.d (.sl []), .d (.int 2)]) none] ?_ (hr := by conv => lhs; simp [Fn.row, Tm.row, Tm.rows_eq, Cs.rows_eq])
  refine AWp.rg [] [.p (fun _ => .tuple [.d (.sl [[.str fg, strsD fps, .int fk, .int fn, .str fa, .str fb, strsD fvs, .sl (fxs.map Tm.row), .sl (fcs.map Cs.row)]]), .d (.int 0)]) none] ?_ (hr := by conv => lhs; simp [Fn.row, Tm.row, Tm.rows_eq, Cs.rows_eq])
  refine AWp.rg [] [.p (fun _ => .d (.str (⟨#[40, 102, 110, 32, 102, 32, 40, 120, 41, 32, 40, 43, 32, 120, 32, 49, 41, 41, 10]⟩))) none, .p (fun _ => .d (.bool true)) none, .p (fun _ => .d (.bool false)) none, .p (fun _ => .d (.str (⟨#[40, 43, 32, 120, 32, 49, 41]⟩))) none] ?_ (hr := by conv => lhs; simp [Fn.row, Tm.row, Tm.rows_eq, Cs.rows_eq])
  refine AWp.ret ?_
  try dsimp only [thenQ, blockQ]
  apply endQ.ret
  · rfl
  · conv => lhs; simp [resAV, Tryd.results48]
  rfl
set_option maxRecDepth 20000 in
set_option maxHeartbeats 16000000 in
theorem sp_TextTells (s : ByteArray) (l : List Fn) (hs : s.size ≤ 140737488355328) (hl : l.length ≤ 879609302220) (hI : ∀ f ∈ l, f.body.In) (hW : Fn.wtL l ≤ 1099511627776) : PSpec Tryd.prog 10 [.d (.str s), fnsAV l] (fun _ => .d (.bool true)) none := by
  have h1 := sp_tParse s
  have h2 := sp_Parse s
  rw [← parseT_ref] at h2
  have hS : PSpec Tryd.prog 19 [fnsAV (parseT s).1, fnsAV (parseT s).1] (fun _ => .d (.bool true)) none := by
    have hok := parse_fnsOk1 s
    have := sp_SameFns (parseT s).1 (parseT s).1 hok.len hok.fn
    rwa [eqB_self] at this
  generalize parseT s = X at h1 h2 hS
  obtain ⟨A, E⟩ := X
  have h3 := sp_tName s (by omega)
  have h4 := sp_Name s (by omega)
  generalize nameB s = nb at h3 h4
  have h5 := sp_tPrint l hI hW
  have h6 := sp_Print l hI (by omega)
  generalize Fn.shL l ⟨#[]⟩ = O at h5 h6
  dsimp only at h1 h2 hS
  refine PSpec.of Tryd.func10 rfl rfl rfl (Nat.le_of_ble_eq_true rfl) ?_
  show AWp _ _ (endQ _ Tryd.f10 _ _ _) (startAS 58 _)
  refine AWp.rg [] [] ?_ (hr := by conv => lhs; simp [Fn.row, Tm.row, Tm.rows_eq, Cs.rows_eq])
  refine AWp.rg [] [.p (fun _ => .tuple [.d (.sl (A.map Fn.row)), .d (.int E)]) none] ?_ (hr := by conv => lhs; simp [Fn.row, Tm.row, Tm.rows_eq, Cs.rows_eq])
  refine AWp.rg [] [.p (fun _ => .tuple [.d (.sl (A.map Fn.row)), .d (.int E)]) none] ?_ (hr := by conv => lhs; simp [Fn.row, Tm.row, Tm.rows_eq, Cs.rows_eq])
  refine AWp.rg [] [.p (fun _ => .d (.bool true)) none, .p (fun _ => .d (.bool nb)) none, .p (fun _ => .d (.bool nb)) none, .p (fun _ => .d (.str O)) none, .p (fun _ => .d (.str O)) none] ?_ (hr := by conv => lhs; simp [Fn.row, Tm.row, Tm.rows_eq, Cs.rows_eq])
  refine AWp.cn ?_
  refine AWp.skip ?_
  refine AWp.rg [] [] ?_ (hr := by conv => lhs; simp [Fn.row, Tm.row, Tm.rows_eq, Cs.rows_eq])
  repeat (first | refine AWp.seq ?_ | refine AWp.block ?_)
  refine AWp.loop (σ := fun u : {u : Nat // u ≤ l.length} => ⟨58, [(44, .d (.sl (l.map Fn.row))), (45, .d (.int (l.length : Int))), (46, .d (.int (u.1 : Int)))], []⟩)
    (μ := fun u => l.length - u.1) ⟨0, Nat.zero_le _⟩ (Le.sub (by simp) (by simp)) (fun ⟨i, hi6⟩ => ?_)
  dsimp only
  refine AWp.rg [] [] ?_ (hr := by conv => lhs; simp [Fn.row, Tm.row, Tm.rows_eq, Cs.rows_eq])
  repeat (first | refine AWp.seq ?_ | refine AWp.block ?_)
  refine AWp.cond rfl (fun hc => ?_) (fun hc => ?_)
  · have hi1 : i < l.length := by have := of_decide_eq_true hc; omega
    clear hc
    have h1y : l[i]? = some l[i] := List.getElem?_eq_getElem hi1
    have hmy : l[i] ∈ l := List.getElem_mem hi1
    have hdy : l.drop i = l[i] :: l.drop (i + 1) := List.drop_eq_getElem_cons hi1
    generalize l[i] = y at h1y hmy hdy
    have hyw := Fn.wtL_mem hmy
    have hyI := hI y hmy
    obtain ⟨fg, dws, y⟩ := y
    dsimp only at hyw hyI
    have hx := sp_tTerm y hyI (by omega)
    have hx2 := sp_Show y hyI (by omega)
    generalize y.sh = z at hx hx2
    obtain ⟨yk, yn, ya, yb, yvs, yxs, ycs⟩ := y
    refine AWp.skip ?_
    refine AWp.rg [] [] ?_ (hr := by conv => lhs; simp [Fn.row, Tm.row, Tm.rows_eq, Cs.rows_eq, h1y])
    refine AWp.dw [] [.p (fun _ => .d (.str z)) none, .p (fun _ => .d (.str z)) none] mixed ?_ (hr := by conv => lhs; simp [Fn.row, Tm.row, Tm.rows_eq, Cs.rows_eq, h1y])
    refine AWp.cn ?_
    refine AWp.skip ?_
    refine AWp.rg [] [] ?_ (hr := by conv => lhs; simp [Fn.row, Tm.row, Tm.rows_eq, Cs.rows_eq, h1y])
    refine ⟨⟨i + 1, hi1⟩, by simp; omega, ?_⟩
    dsimp only
    exact Le.sub (by simp) (by simp)
  have hi1 : i = l.length := by have := of_decide_eq_false hc; omega
  subst hi1
  clear hc
  refine AWp.exit ?_
  refine AWp.rg [] [] ?_ (hr := by conv => lhs; simp [Fn.row, Tm.row, Tm.rows_eq, Cs.rows_eq])
  refine AWp.ret ?_
  try dsimp only [thenQ, blockQ]
  apply endQ.ret
  · rfl
  · conv => lhs; simp [resAV, Tryd.results10]
  rfl
set_option maxRecDepth 20000 in
set_option maxHeartbeats 16000000 in
theorem sp_TextTurns (s : ByteArray) : PSpec Tryd.prog 11 [.d (.str s)] (fun _ => .d (.bool true)) none := by
  have hal := sp_alive1
  have h1 := sp_tParse s
  obtain ⟨A, hA⟩ : ∃ A, A = (parseT s).1 := ⟨_, rfl⟩
  obtain ⟨E, hE⟩ : ∃ E, E = (parseT s).2 := ⟨_, rfl⟩
  rw [← hA, ← hE] at h1
  refine PSpec.of Tryd.func11 rfl rfl rfl (Nat.le_of_ble_eq_true rfl) ?_
  show AWp _ _ (endQ _ Tryd.f11 _ _ _) (startAS 38 _)
  refine AWp.rg [] [] ?_
  refine AWp.rg [] [.p (fun _ => .d (.bool true)) none] ?_
  refine AWp.cn ?_
  refine AWp.skip ?_
  refine AWp.rg [] [.p (fun _ => .tuple [.d (.sl (A.map Fn.row)), .d (.int E)]) none] ?_
  by_cases q1 : E = 0
  · have q1t := eq_true q1
    refine AWp.rg [] [] ?_ (hr := by conv => lhs; simp [q1t])
    refine AWp.cn ?_
    refine AWp.skip ?_
    have hp : parseT s = (A, 0) := by rw [hA, ← q1, hE]
    obtain ⟨hs1, hA1, hwp⟩ := parse_wp hp
    have hok := parse_fnsOk hp
    have hI := parse_in hp
    have hwt := parse_wt hp
    have h5 := sp_tPrint A hI (by omega)
    have hS := sp_SameFns A A hok.len hok.fn
    rw [eqB_self] at hS
    obtain ⟨O, hO⟩ : ∃ O, O = Fn.shL A ⟨#[]⟩ := ⟨_, rfl⟩
    have hOs : O.size ≤ 1099511627776 := by
      have h := fshL_size A ⟨#[]⟩ hI
      have e0 : (⟨#[]⟩ : ByteArray).size = 0 := rfl
      rw [hO]; omega
    rw [← hO] at h5
    have h6 := sp_tParse O
    obtain ⟨B, hB⟩ : ∃ B, B = (parseT O).1 := ⟨_, rfl⟩
    obtain ⟨F, hF⟩ : ∃ F, F = (parseT O).2 := ⟨_, rfl⟩
    rw [← hB, ← hF] at h6
    refine AWp.rg [] [.p (fun _ => .d (.str O)) none] ?_ (hr := by conv => lhs; simp [q1t])
    refine AWp.rg [] [.p (fun _ => .tuple [.d (.sl (B.map Fn.row)), .d (.int F)]) none] ?_ (hr := by conv => lhs; simp [q1t])
    by_cases q2 : 1500 < (O.size : Int)
    · refine AWp.rg [] [] ?_ (hr := by conv => lhs; simp [q1t, q2])
      refine AWp.cy ?_
      have hF4 : F = 4 := by rw [hF, parseT, if_pos (by omega)]
      have hF4t := eq_true hF4
      refine AWp.rg [] [] ?_ (hr := by conv => lhs; simp [q1t, q2, hF4t])
      refine AWp.ret ?_
      try dsimp only [thenQ, blockQ]
      apply endQ.ret
      · rfl
      · conv => lhs; simp [resAV, Tryd.results11]
      rfl
    refine AWp.rg [] [] ?_ (hr := by conv => lhs; simp [q1t, q2])
    refine AWp.cn ?_
    refine AWp.skip ?_
    have ht := parse_turn hp (by rw [← hO]; omega)
    rw [← hO] at ht
    have hF0 : F = 0 := by rw [hF, ht]
    have hF0t := eq_true hF0
    have hBA : B = A := by rw [hB, ht]
    rw [← hBA] at hS
    rw [hBA] at hS
    subst hBA
    refine AWp.rg [] [.p (fun _ => .d (.bool true)) none] ?_ (hr := by conv => lhs; simp [q1t, q2, hF0t])
    refine AWp.ret ?_
    try dsimp only [thenQ, blockQ]
    apply endQ.ret
    · rfl
    · conv => lhs; simp [resAV, Tryd.results11]
    rfl
  refine AWp.rg [] [] ?_ (hr := by conv => lhs; simp [q1])
  refine AWp.cy ?_
  have hA0 : A = [] := by rw [hA]; exact parseT_err (by rw [← hE]; exact q1)
  refine AWp.rg [] [] ?_ (hr := by conv => lhs; simp [hA0, q1])
  refine AWp.ret ?_
  try dsimp only [thenQ, blockQ]
  apply endQ.ret
  · rfl
  · conv => lhs; simp [resAV, Tryd.results11]
  rfl
theorem fnRow9 (a : Fn) : a.row.length = 9 := by
  obtain ⟨g, ps, ⟨k, n, a, b, vs, xs, cs⟩⟩ := a
  simp [Fn.row, Tm.row]
set_option maxRecDepth 20000 in
set_option maxHeartbeats 16000000 in
theorem sp_TextJoined (s t : ByteArray) (hs : s.size ≤ 140737488355328) (ht : t.size ≤ 140737488355328) : PSpec Tryd.prog 12 [.d (.str s), .d (.str t)] (fun _ => .d (.bool true)) none := by
  have hal := sp_alive1
  have h1 := sp_tParse s
  obtain ⟨A, hA⟩ : ∃ A, A = (parseT s).1 := ⟨_, rfl⟩
  obtain ⟨E, hE⟩ : ∃ E, E = (parseT s).2 := ⟨_, rfl⟩
  rw [← hA, ← hE] at h1
  have h2 := sp_tParse t
  obtain ⟨B, hB⟩ : ∃ B, B = (parseT t).1 := ⟨_, rfl⟩
  obtain ⟨F, hF⟩ : ∃ F, F = (parseT t).2 := ⟨_, rfl⟩
  rw [← hB, ← hF] at h2
  refine PSpec.of Tryd.func12 rfl rfl rfl (Nat.le_of_ble_eq_true rfl) ?_
  show AWp _ _ (endQ _ Tryd.f12 _ _ _) (startAS 56 _)
  refine AWp.rg [] [] ?_
  refine AWp.rg [] [.p (fun _ => .d (.bool true)) none] ?_
  refine AWp.cn ?_
  refine AWp.skip ?_
  refine AWp.rg [] [.p (fun _ => .tuple [.d (.sl (A.map Fn.row)), .d (.int E)]) none] ?_
  refine AWp.rg [] [.p (fun _ => .tuple [.d (.sl (B.map Fn.row)), .d (.int F)]) none] ?_
  by_cases q1 : E = 0
  · have q1t := eq_true q1
    by_cases q2 : F = 0
    · have q2t := eq_true q2
      by_cases q3 : 1500 < (((s.size : Int) + (t.size : Int)) + 1)
      · refine AWp.rg [] [] ?_ (hr := by conv => lhs; simp [q1t, q2t, q3])
        refine AWp.cy ?_
        refine AWp.rg [] [] ?_ (hr := by conv => lhs; simp [q1t, q2t, q3])
        refine AWp.ret ?_
        try dsimp only [thenQ, blockQ]
        apply endQ.ret
        · rfl
        · conv => lhs; simp [resAV, Tryd.results12]
        rfl
      refine AWp.rg [] [] ?_ (hr := by conv => lhs; simp [q1t, q2t, q3])
      refine AWp.cn ?_
      refine AWp.skip ?_
      have hp : parseT s = (A, 0) := by rw [hA, ← q1, hE]
      have hq : parseT t = (B, 0) := by rw [hB, ← q2, hF]
      have hj := parse_join hp hq (by omega)
      have h3 := sp_tParse ((s ++ ⟨#[10]⟩) ++ t)
      rw [hj] at h3
      obtain ⟨hA1, -⟩ := (parse_wp hp).2
      obtain ⟨hB1, -⟩ := (parse_wp hq).2
      have hsz1 := (parse_wp hp).1
      have hsz2 := (parse_wp hq).1
      have hok := parse_fnsOk hj
      have hS := sp_SameFns (A ++ B) (A ++ B) hok.len hok.fn
      rw [eqB_self] at hS
      obtain ⟨C, hC⟩ : ∃ C, C = A ++ B := ⟨_, rfl⟩
      have hS : PSpec Tryd.prog 19 [fnsAV C, .d (.sl (A.map Fn.row ++ B.map Fn.row))] (fun _ => .d (.bool true)) none := by
        rw [← List.map_append, hC]; exact hS
      rw [← hC] at h3
      have e10 : (⟨#[10]⟩ : ByteArray).size = 1 := rfl
      have hmx : s.size + 1 + t.size ≤ maxLen := by unfold maxLen; omega
      have hmx2 : A.length + B.length ≤ maxLen := by unfold maxLen; omega
      have hrA : ∀ (i : Nat) (a : Fn), A[i]? = some a → a.row.length = 9 := fun _ a _ => fnRow9 a
      have hrB : ∀ (i : Nat) (a : Fn), B[i]? = some a → a.row.length = 9 := fun _ a _ => fnRow9 a
      have htk : List.take (A.length + B.length) (List.map Fn.row A ++ List.map Fn.row B) = List.map Fn.row A ++ List.map Fn.row B := List.take_of_length_le (by simp)
      refine AWp.rg [] [.p (fun _ => .tuple [.d (.sl (C.map Fn.row)), .d (.int 0)]) none] ?_ (hr := by conv => lhs; simp [htk, q1t, q2t, q3])
      refine AWp.rg [8] [.p (fun _ => .d (.bool true)) none] ?_ (hr := by conv => lhs; simp [htk, q1t, q2t, q3])
      refine AWp.ret ?_
      try dsimp only [thenQ, blockQ]
      apply endQ.ret
      · rfl
      · conv => lhs; simp [resAV, Tryd.results12]
      rfl
    refine AWp.rg [] [] ?_ (hr := by conv => lhs; simp [q1t, q2])
    refine AWp.cy ?_
    refine AWp.rg [] [] ?_ (hr := by conv => lhs; simp [q1t, q2])
    refine AWp.ret ?_
    try dsimp only [thenQ, blockQ]
    apply endQ.ret
    · rfl
    · conv => lhs; simp [resAV, Tryd.results12]
    rfl
  refine AWp.rg [] [] ?_ (hr := by conv => lhs; simp [q1])
  refine AWp.cy ?_
  refine AWp.rg [] [] ?_ (hr := by conv => lhs; simp [q1])
  refine AWp.ret ?_
  try dsimp only [thenQ, blockQ]
  apply endQ.ret
  · rfl
  · conv => lhs; simp [resAV, Tryd.results12]
  rfl
end Go.Proofs.YtapiiklnnkkdlaaDoor
