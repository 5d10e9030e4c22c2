import Derived.Test.YtapiiklnnkkdlaaDoorFreeD
import Derived.Test.YtapiiklnnkkdlaaDoorCut
/- xcref1.Name, twice, bad; scope.unlike, slices.ContainsFunc, by the abstract machine. -/
namespace Go.Proofs.YtapiiklnnkkdlaaDoor
open Go.RowKit
attribute [local simp] runD mkRc ldOf stOf stOk ldArg noAny dstOk guardOk opEff opEff0 effOp pureOp callOp zEff evA constAV scalAV Value.oneCell' frGet memGet startAS frOf isGoCall idIn AS.after nextR opnIds objIds AV.ids idsL AObj.ids frNo memNo opnAny isAny mkVal rdCells wrCells fldAddr idxAddr srcRows litRows toD1 toDs setAt sliceAV optI partAV bldAV fillAV binAV binI AV.cells callEff calleeOf frKill memKill AV.kill AObj.kill AV.has AV.hasL Op.operands Call.operands keepF keepM viewIds cChk renOf moGet moWs moQ cEff moLike moHave AV.ren renL AObj.ren AObj.like kept startC moMem AV.frz frz1 frzL frSub memSub frzs AS.frz frFrz memFrz AObj.frz takeMap takeLen bleF Nat.ble_eq memAny objAny mapOp D.keyOk rowAV valRow extOp wrapOp phO
set_option linter.unusedVariables false
set_option linter.unusedSimpArgs false
@[simp] theorem u8min : IntKind.u8.min = 0 := rfl
@[simp] theorem u8max : IntKind.u8.max = 255 := rfl
@[simp] theorem i32min : IntKind.i32.min = -2147483648 := rfl
@[simp] theorem i32max : IntKind.i32.max = 2147483647 := rfl
def chOk (i : Nat) (c : UInt8) : Bool := (decide ((97 : Int) ≤ c.toNat) && decide ((c.toNat : Int) ≤ 122)) || ((decide ((48 : Int) ≤ c.toNat) && decide ((c.toNat : Int) ≤ 57)) && !(i == 0))
def nameB (s : ByteArray) : Bool := ((List.range s.size).all fun j => match s[j]? with | some c => chOk j c | none => true) && (decide (1 ≤ (s.size : Int)) && decide ((s.size : Int) ≤ 8))
theorem nameB_bad {s : ByteArray} {i : Nat} {c : UInt8} (h : s[i]? = some c) (hi : i < s.size) (hc : chOk i c = false) : nameB s = false := by
  unfold nameB
  rw [Bool.and_eq_false_iff]
  left
  rw [List.all_eq_false]
  exact ⟨i, List.mem_range.2 hi, by rw [h]; simp [hc]⟩
theorem nameB_good {s : ByteArray} (h : ∀ j < s.size, ∀ c, s[j]? = some c → chOk j c = true) : nameB s = (decide (1 ≤ (s.size : Int)) && decide ((s.size : Int) ≤ 8)) := by
  unfold nameB
  have : ((List.range s.size).all fun j => match s[j]? with | some c => chOk j c | none => true) = true := by
    rw [List.all_eq_true]
    intro j hj
    have := h j (List.mem_range.1 hj)
    revert this
    cases s[j]? with
    | none => intro _; rfl
    | some c => intro h; exact h c rfl
  rw [this, Bool.true_and]
set_option maxRecDepth 20000 in
set_option maxHeartbeats 4000000 in
theorem sp_Name (s : ByteArray) (hs : s.size ≤ 9223372036854775806) : PSpec Tryd.prog 39 [.d (.str s)] (fun _ => .d (.bool (nameB s))) none := by
  refine PSpec.of Tryd.func39 rfl rfl rfl (Nat.le_of_ble_eq_true rfl) ?_
  show AWp _ _ (endQ _ Tryd.f39 _ _ _) (startAS 50 _)
  repeat (first | refine AWp.seq ?_ | refine AWp.block ?_)
  apply AWp.reg [] []
  · conv => lhs; simp
  · trivial
  repeat (first | refine AWp.seq ?_ | refine AWp.block ?_)
  apply AWp.reg [] []
  · conv => lhs; simp
  · trivial
  repeat (first | refine AWp.seq ?_ | refine AWp.block ?_)
  refine AWp.loop (σ := fun u : {i : Nat // i ≤ s.size ∧ ∀ j < i, ∀ c, s[j]? = some c → chOk j c = true} => ⟨50, [(0, .d (.str s)), (7, .d (.int s.size)), (8, .d (.int u.1))], []⟩)
    (μ := fun u => s.size - u.1) ⟨0, Nat.zero_le _, by simp⟩ (Le.sub (by simp) (by simp)) (fun ⟨i, hi, ht⟩ => ?_)
  dsimp only
  repeat (first | refine AWp.seq ?_ | refine AWp.block ?_)
  apply AWp.reg [] []
  · conv => lhs; simp
  · trivial
  repeat (first | refine AWp.seq ?_ | refine AWp.block ?_)
  refine AWp.cond rfl (fun h => ?_) (fun h => ?_)
  · have hi1 : i < s.size := by have := of_decide_eq_true h; omega
    have h1 : s[i]? = some s[i] := by rw [getElem?_pos]
    generalize s[i] = c at h1
    have hc : chOk i c = ((decide ((97 : Int) ≤ c.toNat) && decide ((c.toNat : Int) ≤ 122)) || ((decide ((48 : Int) ≤ c.toNat) && decide ((c.toNat : Int) ≤ 57)) && !(i == 0))) := rfl
    obtain ⟨A, hA⟩ : ∃ A, A = decide ((97 : Int) ≤ c.toNat) := ⟨_, rfl⟩
    obtain ⟨B, hB⟩ : ∃ B, B = decide ((c.toNat : Int) ≤ 122) := ⟨_, rfl⟩
    obtain ⟨C, hC⟩ : ∃ C, C = decide ((48 : Int) ≤ c.toNat) := ⟨_, rfl⟩
    obtain ⟨E, hE⟩ : ∃ E, E = decide ((c.toNat : Int) ≤ 57) := ⟨_, rfl⟩
    rw [← hA, ← hB, ← hC, ← hE] at hc
    refine AWp.skip ?_
    repeat (first | refine AWp.seq ?_ | refine AWp.block ?_)
    apply AWp.reg [] []
    · conv => lhs; simp
    · trivial
    refine AWp.seqJ ⟨50, [(0, .d (.str s)), (3, .d (.int i)), (4, .d (.bool (A && B))), (5, .d (.bool (C && E))), (7, .d (.int s.size)), (8, .d (.int i))], []⟩ ?_ (fun W hW => ?_)
    rotate_left
    · cases A <;> cases B <;> cases C <;> cases E
      all_goals (
        have qA := hA.symm
        have qB := hB.symm
        have qC := hC.symm
        have qE := hE.symm
        simp only [decide_eq_true_eq, decide_eq_false_iff_not] at qA qB qC qE
        refine AWp.dw [] [] mixed ?_ (hr := by conv => lhs; simp [h1, qA, qB, qC, qE])
        exact hW _ (Le.sub (by simp) (by simp)))
    obtain ⟨L, hL⟩ : ∃ L, L = (A && B) := ⟨_, rfl⟩
    obtain ⟨G, hG⟩ : ∃ G, G = (C && E) := ⟨_, rfl⟩
    rw [← hL, ← hG] at hc ⊢
    have step : chOk i c = true → ∀ j < i + 1, ∀ c, s[j]? = some c → chOk j c = true := fun hok j hj c' hc' => by
      rcases Nat.lt_or_ge j i with hlt | hge
      · exact ht j hlt c' hc'
      · obtain rfl : j = i := by omega
        rw [h1] at hc'
        cases hc'
        exact hok
    by_cases hz : i = 0
    · subst hz
      cases L <;> cases G
      all_goals first
        | (
          have hbad := nameB_bad h1 hi1 (by rw [hc]; rfl)
          refine AWp.rg [] [] ?_
          repeat (first | refine AWp.seq ?_ | refine AWp.block ?_)
          refine AWp.cond rfl (fun h2 => ?_) (fun h2 => ?_)
          rotate_left
          · cases h2
          refine AWp.rg [] [] ?_
          refine AWp.ret ?_
          try dsimp only [thenQ, blockQ]
          apply endQ.ret
          · rfl
          · conv => lhs; simp [resAV, Tryd.results39]
          rw [hbad]; rfl)
        | (
          have hgood := step (by rw [hc]; rfl)
          refine AWp.rg [] [] ?_
          repeat (first | refine AWp.seq ?_ | refine AWp.block ?_)
          refine AWp.cond rfl (fun h2 => ?_) (fun h2 => ?_)
          · cases h2
          refine AWp.skip ?_
          refine AWp.rg [] [] ?_
          refine ⟨⟨0 + 1, hi1, hgood⟩, by simp; omega, Le.sub (by simp) (by simp)⟩)
    · have hz' : ¬ (i : Int) = 0 := by omega
      have hzb : (i == 0) = false := by simp [hz]
      rw [hzb] at hc
      cases L <;> cases G
      all_goals first
        | (
          have hbad := nameB_bad h1 hi1 (by rw [hc]; rfl)
          refine AWp.rg [] [] ?_ (hr := by conv => lhs; simp [hz])
          repeat (first | refine AWp.seq ?_ | refine AWp.block ?_)
          refine AWp.cond rfl (fun h2 => ?_) (fun h2 => ?_)
          rotate_left
          · cases h2
          refine AWp.rg [] [] ?_
          refine AWp.ret ?_
          try dsimp only [thenQ, blockQ]
          apply endQ.ret
          · rfl
          · conv => lhs; simp [resAV, Tryd.results39]
          rw [hbad]; rfl)
        | (
          have hgood := step (by rw [hc]; rfl)
          refine AWp.rg [] [] ?_ (hr := by conv => lhs; simp [hz])
          repeat (first | refine AWp.seq ?_ | refine AWp.block ?_)
          refine AWp.cond rfl (fun h2 => ?_) (fun h2 => ?_)
          · cases h2
          refine AWp.skip ?_
          refine AWp.rg [] [] ?_
          refine ⟨⟨i + 1, hi1, hgood⟩, by simp; omega, Le.sub (by simp) (by simp)⟩)
  have hi1 : i = s.size := by have := of_decide_eq_false h; omega
  subst hi1
  have hg := nameB_good ht
  rw [hg]
  refine AWp.exit ?_
  by_cases g1 : (1 : Int) ≤ s.size
  · by_cases g2 : (s.size : Int) ≤ 8
    · refine AWp.rg [] [] ?_ (hr := by conv => lhs; simp [g1, g2])
      refine AWp.ret ?_
      try dsimp only [thenQ, blockQ]
      apply endQ.ret
      · rfl
      · conv => lhs; simp [resAV, Tryd.results39]
      rw [decide_eq_true g1, decide_eq_true g2]; rfl
    · refine AWp.rg [] [] ?_ (hr := by conv => lhs; simp [g1, g2])
      refine AWp.ret ?_
      try dsimp only [thenQ, blockQ]
      apply endQ.ret
      · rfl
      · conv => lhs; simp [resAV, Tryd.results39]
      rw [decide_eq_true g1, decide_eq_false g2]; rfl
  · refine AWp.rg [] [] ?_ (hr := by conv => lhs; simp [g1])
    refine AWp.ret ?_
    try dsimp only [thenQ, blockQ]
    apply endQ.ret
    · rfl
    · conv => lhs; simp [resAV, Tryd.results39]
    rw [decide_eq_false g1]; rfl

def twB (l : List ByteArray) : Bool := (List.range l.length).any fun j => match l[j]? with | some x => hasB (l.take j) x | none => false
theorem twB_yes {l : List ByteArray} {i : Nat} {x : ByteArray} (h : l[i]? = some x) (hc : hasB (l.take i) x = true) : twB l = true := by
  unfold twB
  rw [List.any_eq_true]
  exact ⟨i, List.mem_range.2 (List.getElem?_eq_some_iff.1 h).1, by rw [h]; exact hc⟩
theorem twB_no {l : List ByteArray} (h : ∀ j < l.length, ∀ x, l[j]? = some x → hasB (l.take j) x = false) : twB l = false := by
  unfold twB
  rw [List.any_eq_false]
  intro j hj
  have := h j (List.mem_range.1 hj)
  revert this
  cases l[j]? with
  | none => simp
  | some c => intro h; simp [h c rfl]
theorem twB_snoc {l : List ByteArray} {i : Nat} {x : ByteArray} (h1 : l[i]? = some x) (ht : ∀ j < i, ∀ x, l[j]? = some x → hasB (l.take j) x = false) (hc : hasB (l.take i) x = false) : ∀ j < i + 1, ∀ x, l[j]? = some x → hasB (l.take j) x = false := fun j hj c' hc' => by
  rcases Nat.lt_or_ge j i with hlt | hge
  · exact ht j hlt c' hc'
  · obtain rfl : j = i := by omega
    rw [h1] at hc'
    cases hc'
    exact hc
set_option maxHeartbeats 1000000 in
theorem sp_twice (l : List ByteArray) (hl : l.length ≤ 8796093022208) : PSpec Tryd.prog 53 [strsAV l] (fun _ => .d (.bool (twB l))) none := by
  refine PSpec.of Tryd.func53 rfl rfl rfl (Nat.le_of_ble_eq_true rfl) ?_
  show AWp _ _ (endQ _ Tryd.f53 _ _ _) (startAS 18 _)
  repeat (first | refine AWp.seq ?_ | refine AWp.block ?_)
  apply AWp.reg [] []
  · conv => lhs; simp
  · trivial
  repeat (first | refine AWp.seq ?_ | refine AWp.block ?_)
  apply AWp.reg [] []
  · conv => lhs; simp
  · trivial
  repeat (first | refine AWp.seq ?_ | refine AWp.block ?_)
  refine AWp.loop (σ := fun u : {i : Nat // i ≤ l.length ∧ ∀ j < i, ∀ x, l[j]? = some x → hasB (l.take j) x = false} => ⟨18, [(0, strsAV l), (5, strsAV l), (6, .d (.int l.length)), (7, .d (.int u.1))], []⟩)
    (μ := fun u => l.length - u.1) ⟨0, Nat.zero_le _, by simp⟩ (Le.sub (by simp) (by simp)) (fun ⟨i, hi, ht⟩ => ?_)
  dsimp only
  repeat (first | refine AWp.seq ?_ | refine AWp.block ?_)
  apply AWp.reg [] []
  · conv => lhs; simp
  · trivial
  repeat (first | refine AWp.seq ?_ | refine AWp.block ?_)
  refine AWp.cond rfl (fun h => ?_) (fun h => ?_)
  · have hi1 : i < l.length := by have := of_decide_eq_true h; omega
    have h1 : l[i]? = some l[i] := List.getElem?_eq_getElem hi1
    generalize l[i] = x at h1
    have hp := sp_Has (l.take i) x (by simp; omega)
    have hs := fun hc => twB_snoc (i := i) h1 ht hc
    have hy := fun hc => twB_yes (i := i) h1 hc
    have htl : (l.map strR).take i = (l.take i).map strR := by rw [List.map_take]
    obtain ⟨T, hT⟩ : ∃ T, T = l.take i := ⟨_, rfl⟩
    rw [← hT] at hp hs hy htl
    obtain ⟨B, hB⟩ : ∃ B, B = hasB T x := ⟨_, rfl⟩
    rw [← hB] at hp hs hy
    refine AWp.skip ?_
    refine AWp.rg [] [] ?_ (hr := by conv => lhs; simp [h1])
    cases B with
    | true =>
      repeat (first | refine AWp.seq ?_ | refine AWp.block ?_)
      apply AWp.reg [] [.p (fun _ => .d (.bool true)) none]
      · conv => lhs; simp [htl]
      · exact ⟨by omega, hp⟩
      refine AWp.cy ?_
      refine AWp.rg [] [] ?_
      refine AWp.ret ?_
      try dsimp only [thenQ, blockQ]
      apply endQ.ret
      · rfl
      · conv => lhs; simp [resAV, Tryd.results53]
      rw [hy rfl]; rfl
    | false =>
      repeat (first | refine AWp.seq ?_ | refine AWp.block ?_)
      apply AWp.reg [] [.p (fun _ => .d (.bool false)) none]
      · conv => lhs; simp [htl]
      · exact ⟨by omega, hp⟩
      refine AWp.cn ?_
      refine AWp.skip ?_
      refine AWp.rg [] [] ?_
      refine ⟨⟨i + 1, hi1, hs rfl⟩, by simp; omega, Le.sub (by simp) (by simp)⟩
  have hi1 : i = l.length := by have := of_decide_eq_false h; omega
  subst hi1
  have hn := twB_no ht
  refine AWp.exit ?_
  repeat (first | refine AWp.seq ?_ | refine AWp.block ?_)
  apply AWp.reg [] []
  · conv => lhs; simp
  · trivial
  refine AWp.ret ?_
  try dsimp only [thenQ, blockQ]
  apply endQ.ret
  · rfl
  · conv => lhs; simp [resAV, Tryd.results53]
  rw [hn]; rfl
def badB (l : List ByteArray) : Bool := l.any fun s => !nameB s
set_option maxHeartbeats 1000000 in
theorem sp_bad (l : List ByteArray) (hl : l.length ≤ 8796093022208) (hs : ∀ s ∈ l, s.size ≤ 9223372036854775806) : PSpec Tryd.prog 54 [strsAV l] (fun _ => .d (.bool (badB l))) none := by
  refine PSpec.of Tryd.func54 rfl rfl rfl (Nat.le_of_ble_eq_true rfl) ?_
  show AWp _ _ (endQ _ Tryd.f54 _ _ _) (startAS 15 _)
  repeat (first | refine AWp.seq ?_ | refine AWp.block ?_)
  apply AWp.reg [] []
  · conv => lhs; simp
  · trivial
  repeat (first | refine AWp.seq ?_ | refine AWp.block ?_)
  apply AWp.reg [] []
  · conv => lhs; simp
  · trivial
  repeat (first | refine AWp.seq ?_ | refine AWp.block ?_)
  refine AWp.loop (σ := fun u : {i : Nat // i ≤ l.length ∧ ∀ y ∈ l.take i, (!nameB y) = false} => ⟨15, [(5, strsAV l), (6, .d (.int l.length)), (7, .d (.int u.1))], []⟩)
    (μ := fun u => l.length - u.1) ⟨0, Nat.zero_le _, by simp⟩ (Le.sub (by simp) (by simp)) (fun ⟨i, hi, ht⟩ => ?_)
  dsimp only
  repeat (first | refine AWp.seq ?_ | refine AWp.block ?_)
  apply AWp.reg [] []
  · conv => lhs; simp
  · trivial
  repeat (first | refine AWp.seq ?_ | refine AWp.block ?_)
  refine AWp.cond rfl (fun h => ?_) (fun h => ?_)
  · have hi1 : i < l.length := by have := of_decide_eq_true h; omega
    have h1 : l[i]? = some l[i] := List.getElem?_eq_getElem hi1
    have hmem : l[i] ∈ l := List.getElem_mem hi1
    generalize l[i] = x at h1 hmem
    have hp := sp_Name x (hs x hmem)
    obtain ⟨B, hB⟩ : ∃ B, B = nameB x := ⟨_, rfl⟩
    rw [← hB] at hp
    refine AWp.skip ?_
    refine AWp.rg [] [] ?_ (hr := by conv => lhs; simp [h1])
    cases B with
    | true =>
      repeat (first | refine AWp.seq ?_ | refine AWp.block ?_)
      apply AWp.reg [] [.p (fun _ => .d (.bool true)) none]
      · conv => lhs; simp
      · exact hp
      refine AWp.cn ?_
      refine AWp.skip ?_
      refine AWp.rg [] [] ?_
      refine ⟨⟨i + 1, hi1, take_all_snoc h1 ht (by rw [← hB]; rfl)⟩, by simp; omega, Le.sub (by simp) (by simp)⟩
    | false =>
      repeat (first | refine AWp.seq ?_ | refine AWp.block ?_)
      apply AWp.reg [] [.p (fun _ => .d (.bool false)) none]
      · conv => lhs; simp
      · exact hp
      refine AWp.cy ?_
      refine AWp.rg [] [] ?_
      refine AWp.ret ?_
      try dsimp only [thenQ, blockQ]
      apply endQ.ret
      · rfl
      · conv => lhs; simp [resAV, Tryd.results54]
      rw [show badB l = true from List.any_eq_true.2 ⟨x, hmem, by rw [← hB]; rfl⟩]; rfl
  have hi1 : i = l.length := by have := of_decide_eq_false h; omega
  subst hi1
  rw [List.take_length] at ht
  refine AWp.exit ?_
  repeat (first | refine AWp.seq ?_ | refine AWp.block ?_)
  apply AWp.reg [] []
  · conv => lhs; simp
  · trivial
  refine AWp.ret ?_
  try dsimp only [thenQ, blockQ]
  apply endQ.ret
  · rfl
  · conv => lhs; simp [resAV, Tryd.results54]
  rw [show badB l = false from List.any_eq_false.2 fun y hy => by rw [ht y hy]; simp]; rfl

abbrev nmObj : AObj := .blk 58 [.d (.fn 39)]
abbrev fnsObj (ents : List (D × List D)) : AObj := .map true false 1 ents
end Go.Proofs.YtapiiklnnkkdlaaDoor

namespace Go.Proofs.YtapiiklnnkkdlaaDoor
open Go.RowKit
set_option linter.unusedVariables false
set_option linter.unusedSimpArgs false
theorem AWp.seqJ2 {P : Program} {Q : Exit → AS → Prop} {s : AS} {x y z : Code} (s0 : AS) (h2 : AWp P z Q s0) (h1 : ∀ W : AS → Prop, (∀ s', Le s' s0 → W s') → AWp P x (thenQ (AWp P y (thenQ W Q)) Q) s) : AWp P (.seq x (.seq y z)) Q s := by
  refine AWp.seq (AWp.mono (h1 (AWp P z Q) fun s' hl => AWp.le hl h2) ?_)
  intro e s' h
  cases e <;> first | exact h | exact AWp.seq h
theorem AWp.keep {P : Program} {c : Code} {Q : Exit → AS → Prop} {s : AS} (lf lm : List Nat) {fr : List (Nat × AV)} {mem : List (Nat × Option AObj)} (hf : keepF s.fr lf = fr) (hm : keepM s.mem lm = mem) (h : AWp P c Q ⟨s.n, fr, mem⟩) : AWp P c Q s :=
  AWp.le (by have := Le.keep s lf lm; rw [hf, hm] at this; exact this) h
abbrev Arity := List (ByteArray × Nat)
def Arity.get (f : Arity) (s : ByteArray) : Option Nat := (f.find? fun x => decide (x.1 = s)).map (·.2)
def headE (f : Arity) (k n : Int) (a : ByteArray) (names : List ByteArray) (na : Nat) : Int :=
  if k = 1 then (if hasB names a then 0 else 6)
  else if k = 2 then (if n < -2147483648 ∨ 2147483647 < n then 3 else 0)
  else if k = 3 then (if n < 0 ∨ 9 < n then 3 else 0)
  else if k = 5 then (if n < 1 ∨ 5 < n then 1 else 0)
  else if k = 6 then (if nameB a then 0 else 7)
  else if k = 4 then (match f.get a with | none => 6 | some m => if m = na then 0 else 5)
  else 0
def manyB (k : Int) (na nc : Nat) : Bool :=
  (if k = 3 ∨ k = 4 then decide (6 < na) else if k = 7 then decide (na ≠ 1) else if k = 5 ∨ k = 6 then decide (na ≠ 2) else decide (na ≠ 0)) || (decide (k ≠ 7) && decide (0 < nc))
mutual
def Tm.wrong (f : Arity) : Tm → List ByteArray → Int → Int
  | .mk k n a _ _ xs cs, names, deep =>
    if 24 < deep then 9 else if k < 1 ∨ 7 < k then 1 else if manyB k xs.length cs.length then 5
    else if headE f k n a names xs.length ≠ 0 then headE f k n a names xs.length
    else if Tm.wrongs f k a names deep 0 xs ≠ 0 then Tm.wrongs f k a names deep 0 xs
    else if k ≠ 7 then 0 else if cs.length = 0 ∨ 5 < cs.length then 5 else Cs.wrongs f names deep [] cs
def Tm.wrongs (f : Arity) (k : Int) (a : ByteArray) (names : List ByteArray) (deep : Int) : Nat → List Tm → Int
  | _, [] => 0
  | i, x :: r => if x.wrong f (if k = 6 ∧ i = 1 then names ++ [a] else names) (deep + 1) ≠ 0 then x.wrong f (if k = 6 ∧ i = 1 then names ++ [a] else names) (deep + 1) else Tm.wrongs f k a names deep (i + 1) r
def Cs.wrongs (f : Arity) (names : List ByteArray) (deep : Int) : List Int → List Cs → Int
  | _, [] => 0
  | had, c :: r => if Cs.wrongC f names deep had c ≠ 0 then Cs.wrongC f names deep had c else Cs.wrongs f names deep (c.tag :: had) r
def Cs.wrongC (f : Arity) (names : List ByteArray) (deep : Int) : List Int → Cs → Int
  | had, .mk t vs b => if t < 0 ∨ 9 < t then 3 else if (had.contains t || twB vs || badB vs) then 7 else if 6 < vs.length then 5 else b.wrong f (names ++ vs) (deep + 1)
end

def Fn.headE (f : Arity) (x : Fn) : Int :=
  if ((f.get x.name).isSome || !nameB x.name || twB x.params || badB x.params) = true then 7
  else if 6 < x.params.length then 5 else if 400 < wr x.body.sz then 4 else 0
def headsE : Arity → List Fn → Int
  | _, [] => 0
  | f, x :: r => if x.headE f ≠ 0 then x.headE f else headsE ((x.name, x.params.length) :: f) r
def arOf (l : List Fn) : Arity := l.reverse.map fun x => (x.name, x.params.length)
theorem arOf_snoc (l : List Fn) (x : Fn) : arOf (l ++ [x]) = (x.name, x.params.length) :: arOf l := by simp [arOf]
def bodiesE (f : Arity) : List Fn → Int
  | [] => 0
  | x :: r => if x.body.wrong f x.params 0 ≠ 0 then x.body.wrong f x.params 0 else bodiesE f r
def checkE (l : List Fn) : Int :=
  if l.length = 0 ∨ 6 < l.length then 5 else if headsE [] l ≠ 0 then headsE [] l else bodiesE (arOf l) l
theorem wrong_zero {f : Arity} {k n : Int} {a b : ByteArray} {vs names : List ByteArray} {xs : List Tm} {cs : List Cs} {deep : Int} (h : (Tm.mk k n a b vs xs cs).wrong f names deep = 0) :
    deep ≤ 24 ∧ 1 ≤ k ∧ k ≤ 7 ∧ manyB k xs.length cs.length = false ∧ headE f k n a names xs.length = 0 ∧ Tm.wrongs f k a names deep 0 xs = 0 ∧ (k = 7 → cs.length ≠ 0 ∧ cs.length ≤ 5 ∧ Cs.wrongs f names deep [] cs = 0) := by
  simp only [Tm.wrong] at h
  split at h
  · cases h
  rename_i h1
  split at h
  · cases h
  rename_i h2
  split at h
  · cases h
  rename_i h3
  split at h
  · rename_i h4; exact absurd h h4
  rename_i h4
  split at h
  · rename_i h5; exact absurd h h5
  rename_i h5
  refine ⟨by omega, by omega, by omega, by simpa using h3, by omega, by omega, fun h7 => ?_⟩
  rw [if_neg (by omega)] at h
  split at h
  · cases h
  rename_i h6
  exact ⟨by omega, by omega, h⟩
theorem wrongs_zero {f : Arity} {k : Int} {a : ByteArray} {names : List ByteArray} {deep : Int} : ∀ {l : List Tm} {i : Nat}, Tm.wrongs f k a names deep i l = 0 →
    ∀ (j : Nat) (x : Tm), l[j]? = some x → x.wrong f (if k = 6 ∧ i + j = 1 then names ++ [a] else names) (deep + 1) = 0
  | [], _, _, j, x, hj => by simp at hj
  | y :: r, i, h, j, x, hj => by
    simp only [Tm.wrongs] at h
    obtain ⟨ns, hns⟩ : ∃ ns, ns = if k = 6 ∧ i = 1 then names ++ [a] else names := ⟨_, rfl⟩
    rw [← hns] at h
    by_cases h1 : y.wrong f ns (deep + 1) = 0
    rotate_left
    · rw [if_pos h1] at h; exact absurd h h1
    rw [if_neg (fun e => e h1)] at h
    match j with
    | 0 =>
      simp at hj; subst hj
      rw [Nat.add_zero, ← hns]
      exact h1
    | j + 1 =>
      have := wrongs_zero h j x (by simpa using hj)
      rwa [show i + 1 + j = i + (j + 1) by omega] at this
theorem cwrongs_zero {f : Arity} {names : List ByteArray} {deep : Int} : ∀ {l : List Cs} {had : List Int}, Cs.wrongs f names deep had l = 0 →
    ∀ {t : Int} {vs : List ByteArray} {b : Tm}, Cs.mk t vs b ∈ l → 0 ≤ t ∧ t ≤ 9 ∧ twB vs = false ∧ badB vs = false ∧ vs.length ≤ 6 ∧ b.wrong f (names ++ vs) (deep + 1) = 0
  | [], _, _, t, vs, b, hm => by cases hm
  | c :: r, had, h, t, vs, b, hm => by
    simp only [Cs.wrongs] at h
    split at h
    · rename_i h1; exact absurd h h1
    rename_i h1
    rcases List.mem_cons.1 hm with rfl | hm
    · have h1 := Decidable.byContradiction fun e => h1 e
      simp only [Cs.wrongC] at h1
      split at h1
      · cases h1
      split at h1
      · cases h1
      split at h1
      · cases h1
      rename_i h2 h3 h4
      simp only [Bool.or_eq_true, not_or, Bool.not_eq_true] at h3
      exact ⟨by omega, by omega, h3.1.2, h3.2, by omega, h1⟩
    · exact cwrongs_zero h hm
def gB : Nat → Nat
  | 0 => 0
  | n + 1 => 1 + 6 * gB n
theorem szs_le {g : Nat} : ∀ {l : List Tm}, (∀ x ∈ l, x.sz ≤ g) → Tm.szs l ≤ l.length * g
  | [], _ => by simp [Tm.szs]
  | x :: r, h => by
    have h1 := h x (List.mem_cons_self ..)
    have h2 := szs_le (l := r) fun y hy => h y (List.mem_cons_of_mem _ hy)
    simp only [Tm.szs, List.length_cons, Nat.succ_mul]
    omega
theorem cszs_le {g : Nat} : ∀ {l : List Cs}, (∀ x ∈ l, x.sz ≤ g) → Cs.szs l ≤ l.length * g
  | [], _ => by simp [Cs.szs]
  | x :: r, h => by
    have h1 := h x (List.mem_cons_self ..)
    have h2 := cszs_le (l := r) fun y hy => h y (List.mem_cons_of_mem _ hy)
    simp only [Cs.szs, List.length_cons, Nat.succ_mul]
    omega
theorem many_six {k : Int} {na nc : Nat} (h : manyB k na nc = false) (h2 : k = 7 → nc ≤ 5) : na + nc ≤ 6 := by
  unfold manyB at h
  simp only [Bool.or_eq_false_iff, Bool.and_eq_false_iff, decide_eq_false_iff_not] at h
  obtain ⟨h, h'⟩ := h
  by_cases h7 : k = 7
  · have := h2 h7
    subst h7
    simp at h
    omega
  · have hc : nc = 0 := by
      rcases h' with h' | h'
      · exact absurd h7 h'
      · omega
    split at h
    · simp at h; omega
    · split at h
      · simp at h; omega
      · simp at h; omega
theorem wrong_sz (f : Arity) : ∀ (N : Nat) (t : Tm) (names : List ByteArray) (n : Nat) (deep : Int), t.sz < N → deep = 25 - (n : Int) → t.wrong f names deep = 0 → t.sz ≤ gB n := by
  intro N
  induction N with
  | zero => intro t _ _ _ h; omega
  | succ N ih =>
  intro t names n deep hN hd h
  obtain ⟨k, m, a, b, vs, xs, cs⟩ := t
  obtain ⟨h1, h2, h3, h4, h5, h6, h7⟩ := wrong_zero h
  match n with
  | 0 => omega
  | n + 1 =>
    have hx : ∀ x ∈ xs, x.sz ≤ gB n := fun x hx => by
      obtain ⟨j, hj⟩ := List.mem_iff_getElem?.1 hx
      exact ih x _ n (deep + 1) (by have := Tm.sz_arg (k := k) (n := m) (a := a) (b := b) (vs := vs) (cs := cs) hx; omega) (by omega) (wrongs_zero h6 j x hj)
    have hc : Cs.szs cs ≤ cs.length * gB n := by
      by_cases h8 : k = 7
      · refine cszs_le fun c hc => ?_
        obtain ⟨g, ws, x⟩ := c
        have := (cwrongs_zero (h7 h8).2.2 hc).2.2.2.2.2
        exact ih x _ n (deep + 1) (by have := Tm.sz_case (k := k) (n := m) (a := a) (b := b) (vs := vs) (xs := xs) hc; omega) (by omega) this
      · have := many_six h4 (fun h => absurd h h8)
        have hl : cs.length = 0 := by
          unfold manyB at h4
          simp only [Bool.or_eq_false_iff, Bool.and_eq_false_iff, decide_eq_false_iff_not] at h4
          rcases h4.2 with h' | h'
          · exact absurd h8 h'
          · omega
        have : cs = [] := List.eq_nil_of_length_eq_zero hl
        subst this
        simp [Cs.szs]
    have h8 := szs_le hx
    have h9 := many_six h4 fun h => (h7 h).2.1
    simp only [Tm.sz, gB]
    have : xs.length * gB n + cs.length * gB n ≤ 6 * gB n := by
      rw [← Nat.add_mul]; exact Nat.mul_le_mul_right _ h9
    omega
theorem wrong_small {f : Arity} {t : Tm} {names : List ByteArray} (h : t.wrong f names 0 = 0) : wr t.sz = t.sz := by
  have h1 := wrong_sz f _ t names 25 0 (Nat.lt_succ_self _) (by omega) h
  have h2 : gB 25 ≤ 9223372036854775807 := by decide +kernel
  exact wr_id ⟨by omega, by omega⟩
theorem mem_addN {s : ByteArray} (more : List ByteArray) : ∀ l : List ByteArray, s ∈ addN l more ↔ s ∈ l ∨ s ∈ more := by
  induction more with
  | nil => intro l; simp [addN]
  | cons x more ih =>
    intro l
    have := ih (if hasB l x then l else l ++ [x])
    simp only [addN, List.foldl_cons] at this ⊢
    rw [this]
    split
    · rename_i h
      have h := hasB_iff.1 h
      simp only [List.mem_cons]
      constructor
      · rintro (h | h)
        · exact .inl h
        · exact .inr (.inr h)
      · rintro (h' | rfl | h')
        · exact .inl h'
        · exact .inl h
        · exact .inr h'
    · simp only [List.mem_append, List.mem_cons, List.not_mem_nil, or_false, or_assoc]
theorem mem_woN {s : ByteArray} {l gone : List ByteArray} : s ∈ woN l gone ↔ s ∈ l ∧ s ∉ gone := by
  unfold woN
  rw [List.mem_filter, ← hasB_not (l := gone)]
  simp
theorem mem_frees {s : ByteArray} (l : List Tm) : ∀ o, s ∈ Tm.frees o l ↔ s ∈ o ∨ ∃ x ∈ l, s ∈ x.free := by
  induction l with
  | nil => intro o; simp [Tm.frees]
  | cons x r ih =>
    intro o
    simp only [Tm.frees, ih, mem_addN, List.mem_cons, exists_eq_or_imp, or_assoc]
theorem mem_cfrees {s : ByteArray} (l : List Cs) : ∀ o, s ∈ Cs.frees o l ↔ s ∈ o ∨ ∃ x ∈ l, s ∈ x.freeC := by
  induction l with
  | nil => intro o; simp [Cs.frees]
  | cons x r ih =>
    intro o
    simp only [Cs.frees, ih, mem_addN, List.mem_cons, exists_eq_or_imp, or_assoc]
theorem wrong_free (f : Arity) : ∀ (N : Nat) (t : Tm) (names : List ByteArray) (deep : Int), t.sz < N → t.wrong f names deep = 0 → ∀ s ∈ t.free, s ∈ names := by
  intro N
  induction N with
  | zero => intro t _ _ h; omega
  | succ N ih =>
  intro t names deep hN h s hs
  obtain ⟨k, m, a, b, vs, xs, cs⟩ := t
  obtain ⟨h1, h2, h3, h4, h5, h6, h7⟩ := wrong_zero h
  have hx : ∀ (j : Nat) (x : Tm), xs[j]? = some x → s ∈ x.free → s ∈ (if k = 6 ∧ 0 + j = 1 then names ++ [a] else names) := fun j x hj hs =>
    ih x _ (deep + 1) (by have := Tm.sz_arg (k := k) (n := m) (a := a) (b := b) (vs := vs) (cs := cs) (List.mem_of_getElem? hj); omega) (wrongs_zero h6 j x hj) s hs
  simp only [Tm.free] at hs
  split at hs
  · rename_i hk
    subst hk
    unfold headE at h5
    rw [if_pos rfl] at h5
    split at h5
    · rename_i hh
      simp at hs
      subst hs
      exact hasB_iff.1 hh
    · cases h5
  split at hs
  · rename_i hk
    obtain ⟨hk, hl⟩ := hk
    match xs, hl with
    | [x, y], _ =>
      simp only [Tm.freeL, Tm.freeB] at hs
      rw [mem_addN, mem_addN, mem_woN] at hs
      rcases hs with (hs | hs) | hs
      · cases hs
      · have := hx 0 x rfl hs
        rwa [if_neg (by omega)] at this
      · have := hx 1 y rfl hs.1
        rw [if_pos (by omega)] at this
        rcases List.mem_append.1 this with h | h
        · exact h
        · exact absurd h hs.2
  · rename_i hk1 hk2
    rw [if_neg (by omega), mem_cfrees, mem_frees] at hs
    rcases hs with (hs | ⟨x, hm, hs⟩) | ⟨c, hm, hs⟩
    · cases hs
    · obtain ⟨j, hj⟩ := List.mem_iff_getElem?.1 hm
      have := hx j x hj hs
      have hj2 : j < xs.length := by
        have := List.getElem?_eq_some_iff.1 hj
        exact this.1
      rw [if_neg] at this
      · exact this
      rintro ⟨rfl, hj1⟩
      unfold manyB at h4
      simp at h4
      simp at hk2
      exact hk2 h4.1
    · have hk7 : k = 7 := by
        unfold manyB at h4
        simp only [Bool.or_eq_false_iff, Bool.and_eq_false_iff, decide_eq_false_iff_not] at h4
        rcases h4.2 with h' | h'
        · omega
        · have := List.length_pos_of_mem hm; omega
      obtain ⟨g, ws, x⟩ := c
      have h8 := (cwrongs_zero (h7 hk7).2.2 hm).2.2.2.2.2
      simp only [Cs.freeC] at hs
      rw [mem_woN] at hs
      have := ih x _ (deep + 1) (by have := Tm.sz_case (k := k) (n := m) (a := a) (b := b) (vs := vs) (xs := xs) hm; omega) h8 s hs.1
      rcases List.mem_append.1 this with h | h
      · exact h
      · exact absurd h hs.2
theorem heads_zero : ∀ {l : List Fn} {f : Arity}, headsE f l = 0 → ∀ x ∈ l, nameB x.name = true ∧ twB x.params = false ∧ badB x.params = false ∧ x.params.length ≤ 6 ∧ wr x.body.sz ≤ 400
  | [], _, _, x, hx => by cases hx
  | y :: r, f, h, x, hx => by
    simp only [headsE] at h
    split at h
    · rename_i h1; exact absurd h h1
    rename_i h1
    rcases List.mem_cons.1 hx with rfl | hx
    · have h1 := Decidable.byContradiction fun e => h1 e
      unfold Fn.headE at h1
      split at h1
      · cases h1
      split at h1
      · cases h1
      split at h1
      · cases h1
      rename_i h2 h3 h4
      simp only [Bool.or_eq_true, not_or, Bool.not_eq_true, Bool.not_eq_false, Bool.not_eq_true'] at h2
      exact ⟨by simpa using h2.1.1.2, h2.1.2, h2.2, by omega, by omega⟩
    · exact heads_zero h x hx
theorem bodies_zero {f : Arity} : ∀ {l : List Fn}, bodiesE f l = 0 → ∀ x ∈ l, x.body.wrong f x.params 0 = 0
  | [], _, x, hx => by cases hx
  | y :: r, h, x, hx => by
    simp only [bodiesE] at h
    split at h
    · rename_i h1; exact absurd h h1
    rename_i h1
    rcases List.mem_cons.1 hx with rfl | hx
    · exact Decidable.byContradiction fun e => h1 e
    · exact bodies_zero h x hx
structure Fn.Right (f : Arity) (x : Fn) : Prop where
  name : nameB x.name = true
  twice : twB x.params = false
  bad : badB x.params = false
  params : x.params.length ≤ 6
  sz : x.body.sz ≤ 400
  wrong : x.body.wrong f x.params 0 = 0
structure Fn.Fit (f : Arity) (x : Fn) : Prop where
  params : x.params.length ≤ 6
  wrong : ∃ deep, x.body.wrong f x.params deep = 0
theorem Fn.Right.fit {f : Arity} {x : Fn} (h : x.Right f) : x.Fit f := ⟨h.params, 0, h.wrong⟩
theorem check_zero {l : List Fn} (h : checkE l = 0) : l.length ≠ 0 ∧ l.length ≤ 6 ∧ headsE [] l = 0 ∧ ∀ x ∈ l, x.Right (arOf l) := by
  unfold checkE at h
  split at h
  · cases h
  split at h
  · rename_i h1; exact absurd h h1
  rename_i h1 h2
  have h2 := Decidable.byContradiction fun e => h2 e
  refine ⟨by omega, by omega, h2, fun x hx => ?_⟩
  obtain ⟨k1, k2, k3, k4, k5⟩ := heads_zero h2 x hx
  have k6 := bodies_zero h x hx
  rw [wrong_small k6] at k5
  exact ⟨k1, k2, k3, k4, by omega, k6⟩
theorem Fn.Right.free {f : Arity} {x : Fn} (h : x.Right f) : ∀ s ∈ x.body.free, s ∈ x.params := wrong_free f _ x.body x.params 0 (Nat.lt_succ_self _) h.wrong

def Tm.Rt : Nat → Tm → Prop
  | 0, _ => False
  | d + 1, .mk k n a b vs xs cs => (1 ≤ k ∧ k ≤ 7) ∧ manyB k xs.length cs.length = false ∧ xs.length + cs.length ≤ 6 ∧ (∀ x ∈ xs, Tm.Rt d x) ∧ (∀ c ∈ cs, c.2.length ≤ 6 ∧ Tm.Rt d c.3)
theorem wrong_rt (A : Arity) : ∀ (d : Nat) (t : Tm) (names : List ByteArray) (deep : Int), deep = 25 - (d : Int) → t.wrong A names deep = 0 → t.Rt d := by
  intro d
  induction d with
  | zero =>
    intro t names deep hd hw
    obtain ⟨k, n, a, b, vs, xs, cs⟩ := t
    obtain ⟨h1, _⟩ := wrong_zero hw
    omega
  | succ d ih =>
  intro t names deep hd hw
  obtain ⟨k, n, a, b, vs, xs, cs⟩ := t
  obtain ⟨h1, h2, h3, h4, h5, h6, h7⟩ := wrong_zero hw
  have hn6 := many_six h4 fun h => (h7 h).2.1
  refine ⟨⟨h2, h3⟩, h4, hn6, fun x hx => ?_, fun c hc => ?_⟩
  · obtain ⟨j, hj⟩ := List.mem_iff_getElem?.1 hx
    exact ih x _ (deep + 1) (by omega) (wrongs_zero h6 j x hj)
  · obtain ⟨t, ws, y⟩ := c
    by_cases h8 : k = 7
    · have h9 := cwrongs_zero (h7 h8).2.2 hc
      exact ⟨h9.2.2.2.2.1, ih y _ (deep + 1) (by omega) h9.2.2.2.2.2⟩
    · exfalso
      have h4' := h4
      unfold manyB at h4'
      simp only [Bool.or_eq_false_iff, Bool.and_eq_false_iff, decide_eq_false_iff_not] at h4'
      have := List.length_pos_of_mem hc
      omega
abbrev Ps := List (ByteArray × ByteArray)
def vNm (c : Int) : ByteArray := ⟨#[118]⟩ ++ itoaB c
theorem lit118 : ((⟨#[118]⟩ : ByteArray).size ≤ maxLen) = True := eq_true (by show 1 ≤ 9223372036854775807; omega)
def freshL : List ByteArray → Int → List ByteArray
  | [], _ => []
  | _ :: r, c => vNm (wr (c + 1)) :: freshL r (wr (c + 1))
def freshC : List ByteArray → Int → Int
  | [], c => c
  | _ :: r, c => freshC r (wr (c + 1))
theorem freshL_len : ∀ (l : List ByteArray) (c : Int), (freshL l c).length = l.length
  | [], _ => rfl
  | _ :: r, c => by simp [freshL, freshL_len r]
def nowP (ps : Ps) (s : ByteArray) : ByteArray := ps.foldl (fun o p => if p.1 = s then p.2 else o) s
mutual
def Tm.rn : Tm → Ps → Int → Tm × Int
  | .mk k n a b vs xs cs, ps, c => if k = 1 then (.mk k n (nowP ps a) b vs [] [], c)
    else (.mk k n (Tm.rns k a ps 0 xs a c).2.1 b vs (Tm.rns k a ps 0 xs a c).1 (Cs.rnL cs ps (Tm.rns k a ps 0 xs a c).2.2).1, (Cs.rnL cs ps (Tm.rns k a ps 0 xs a c).2.2).2)
def Tm.rns (k : Int) (a : ByteArray) (ps : Ps) : Nat → List Tm → ByteArray → Int → List Tm × ByteArray × Int
  | _, [], nm, c => ([], nm, c)
  | i, x :: r, nm, c => if k = 6 ∧ i = 1 then
      ((x.rn (ps ++ [(a, vNm (wr (c + 1)))]) (wr (c + 1))).1 :: (Tm.rns k a ps (i + 1) r (vNm (wr (c + 1))) (x.rn (ps ++ [(a, vNm (wr (c + 1)))]) (wr (c + 1))).2).1, (Tm.rns k a ps (i + 1) r (vNm (wr (c + 1))) (x.rn (ps ++ [(a, vNm (wr (c + 1)))]) (wr (c + 1))).2).2)
    else ((x.rn ps c).1 :: (Tm.rns k a ps (i + 1) r nm (x.rn ps c).2).1, (Tm.rns k a ps (i + 1) r nm (x.rn ps c).2).2)
def Cs.rnL : List Cs → Ps → Int → List Cs × Int
  | [], _, c => ([], c)
  | d :: r, ps, c => ((d.rn ps c).1 :: (Cs.rnL r ps (d.rn ps c).2).1, (Cs.rnL r ps (d.rn ps c).2).2)
def Cs.rn : Cs → Ps → Int → Cs × Int
  | .mk t ws y, ps, c => (.mk t (freshL ws c) (y.rn (ps ++ ws.zip (freshL ws c)) (freshC ws c)).1, (y.rn (ps ++ ws.zip (freshL ws c)) (freshC ws c)).2)
end
end Go.Proofs.YtapiiklnnkkdlaaDoor

namespace Go.Proofs.YtapiiklnnkkdlaaDoor
open Go.RowKit
attribute [local simp] runD mkRc ldOf stOf stOk ldArg noAny dstOk guardOk opEff opEff0 effOp pureOp callOp zEff evA constAV scalAV Value.oneCell' frGet memGet startAS frOf isGoCall idIn AS.after nextR opnIds objIds AV.ids idsL AObj.ids frNo memNo opnAny isAny mkVal rdCells wrCells fldAddr idxAddr srcRows litRows toD1 toDs setAt sliceAV optI partAV bldAV fillAV binAV binI AV.cells callEff calleeOf frKill memKill AV.kill AObj.kill AV.has AV.hasL Op.operands Call.operands keepF keepM viewIds cChk renOf moGet moWs moQ cEff moLike moHave AV.ren renL AObj.ren AObj.like kept startC moMem AV.frz frz1 frzL frSub memSub frzs AS.frz frFrz memFrz AObj.frz takeMap takeLen bleF Nat.ble_eq memAny objAny mapOp D.keyOk rowAV valRow extOp wrapOp phO frLow memLow memLow1 objLow memEmpty Low LowL
set_option linter.unusedVariables false
set_option linter.unusedSimpArgs false
theorem vsz (e : Int) (h : inI e) : (vNm e).size ≤ 22 := by
  have := itoaB_size h
  show (⟨#[118]⟩ ++ itoaB e : ByteArray).size ≤ 22
  rw [ByteArray.size_append]
  have h1 : (⟨#[118]⟩ : ByteArray).size = 1 := rfl
  omega
theorem nowP_snoc {ps : Ps} {i : Nat} {p : ByteArray × ByteArray} (h : ps[i]? = some p) (s : ByteArray) : nowP (ps.take (i + 1)) s = if p.1 = s then p.2 else nowP (ps.take i) s := by
  unfold nowP
  rw [List.take_add_one, h, List.foldl_append]
  rfl

set_option maxRecDepth 20000 in
set_option maxHeartbeats 16000000 in
theorem cs_Own (t : Tm) (hO : t.Ok) : CSpec Tryd.prog 76 [tmAV t] [(500, .arr 0 1 []), (501, .arr 0 1 [])] (match t with | .mk k n a b vs xs cs => .agg [.d (.int k), .d (.int n), .d (.str a), .d (.str b), .d (strsD vs), .arr 500 0 xs.length, .arr 501 0 cs.length])
    (match t with | .mk k n a b vs xs cs => [(500, .arr 34 7 (xs.map Tm.row)), (501, .arr 40 9 (cs.map Cs.row))]) := by
  obtain ⟨tk, tn, ta, tb, tvs, txs, tcs⟩ := t
  dsimp only
  obtain ⟨o1, o2, o3, o4, o5⟩ := hO.vars
  have hxO : ∀ x ∈ txs, x.Ok := Tm.Oks_iff.1 hO.2.2.1
  have hcO := Cs.Oks_iff.1 hO.2.2.2
  have hcl := sp_Clone tvs (by omega)
  refine CSpec.of Tryd.func76 rfl rfl (Nat.le_of_ble_eq_true rfl) ?_
  show AWp _ _ (endC _ Tryd.f76 _ _) (startC 51 _ _)
  refine AWp.rg [] [] ?_ (hr := by conv => lhs; simp [Tm.row, Tm.rows_eq, Cs.row, Cs.rows_eq])
  refine AWp.rg [2] [.p (fun d => .arr d 0 tvs.length) (some (.arr 9 1 (tvs.map strR)))] ?_ (hr := by conv => lhs; simp [Tm.row, Tm.rows_eq, Cs.row, Cs.rows_eq])
  refine AWp.rg [] [] ?_ (hr := by conv => lhs; simp [Tm.row, Tm.rows_eq, Cs.row, Cs.rows_eq])
  refine AWp.rg [] [] ?_ (hr := by conv => lhs; simp [Tm.row, Tm.rows_eq, Cs.row, Cs.rows_eq])
  repeat (first | refine AWp.seq ?_ | refine AWp.block ?_)
  refine AWp.le (Le.low [400] [] (fr := [(1, .ptr 1 0), (2, .ptr 2 0), (3, .arr 400 0 ([] : List Tm).length), (14, .d (.sl (txs.map Tm.row))), (15, .d (.int (txs.length : Int))), (16, .d (.int (0 : Int)))]) (mem := [(1, some (.blk 34 [.d (.int tk), .d (.int tn), .d (.str ta), .d (.str tb), .d (strsD tvs), .d (.sl (txs.map Tm.row)), .d (.sl (tcs.map Cs.row))])), (2, some (.blk 34 [.d (.int 0), .d (.int 0), .d (.str ByteArray.empty), .d (.str ByteArray.empty), .lit (.slice none 0 0), .lit (.slice none 0 0), .lit (.slice none 0 0)])), (400, some (.arr 34 7 (([] : List Tm).map Tm.row)))]) rfl (by simp) (by simp)) ?_
  refine AWp.loop (σ := fun u : {u : Nat × List Tm // u.1 ≤ txs.length ∧ u.2 = txs.take u.1} => ⟨51, [(1, .ptr 1 0), (2, .ptr 2 0), (3, .arr 400 0 u.1.2.length), (14, .d (.sl (txs.map Tm.row))), (15, .d (.int (txs.length : Int))), (16, .d (.int (u.1.1 : Int)))], [(1, some (.blk 34 [.d (.int tk), .d (.int tn), .d (.str ta), .d (.str tb), .d (strsD tvs), .d (.sl (txs.map Tm.row)), .d (.sl (tcs.map Cs.row))])), (2, some (.blk 34 [.d (.int 0), .d (.int 0), .d (.str ByteArray.empty), .d (.str ByteArray.empty), .lit (.slice none 0 0), .lit (.slice none 0 0), .lit (.slice none 0 0)])), (400, some (.arr 34 7 (u.1.2.map Tm.row)))]⟩)
    (μ := fun u => txs.length - u.1.1) ⟨(0, []), ⟨Nat.zero_le _, by simp⟩⟩ (Le.sub (by simp) (by simp)) (fun ⟨(i, ys), ⟨hi4, hw⟩⟩ => ?_)
  dsimp only at hi4 hw ⊢
  refine AWp.rg [] [] ?_ (hr := by conv => lhs; simp [Tm.row, Tm.rows_eq, Cs.row, Cs.rows_eq])
  repeat (first | refine AWp.seq ?_ | refine AWp.block ?_)
  refine AWp.cond rfl (fun hc => ?_) (fun hc => ?_)
  · have hi1 : i < txs.length := by have := of_decide_eq_true hc; omega
    clear hc
    have h1y : txs[i]? = some txs[i] := List.getElem?_eq_getElem hi1
    have hmy : txs[i] ∈ txs := List.getElem_mem hi1
    have hdy : txs.drop i = txs[i] :: txs.drop (i + 1) := List.drop_eq_getElem_cons hi1
    generalize txs[i] = y at h1y hmy hdy
    have hyl : ys.length = i := by rw [hw, List.length_take]; omega
    have hx := sp_Own y (hxO y hmy)
    obtain ⟨yk, yn, ya, yb, yvs, yxs, ycs⟩ := y
    refine AWp.skip ?_
    refine AWp.rg [] [] ?_ (hr := by conv => lhs; simp [Tm.row, Tm.rows_eq, Cs.row, Cs.rows_eq, h1y])
    refine AWp.rg [] [.p (fun _ => .agg [.d (.int yk), .d (.int yn), .d (.str ya), .d (.str yb), .d (strsD yvs), .d (.sl (yxs.map Tm.row)), .d (.sl (ycs.map Cs.row))]) none] ?_ (hr := by conv => lhs; simp [Tm.row, Tm.rows_eq, Cs.row, Cs.rows_eq, h1y])
    refine AWp.rg [] [] ?_ (hr := by conv => lhs; simp [Tm.row, Tm.rows_eq, Cs.row, Cs.rows_eq, h1y])
    refine ⟨⟨(i + 1, ys ++ [.mk yk yn ya yb yvs yxs ycs]), hi1, by rw [hw, List.take_add_one, h1y]; rfl⟩, by simp; omega, ?_⟩
    dsimp only
    exact Le.sub (by simp [Tm.row, Tm.rows_eq, Cs.rows_eq, hyl]) (by simp [Tm.row, Tm.rows_eq, Cs.rows_eq, hyl])
  have hi1 : i = txs.length := by have := of_decide_eq_false hc; omega
  subst hi1
  clear hc
  rw [List.take_length] at hw
  subst ys
  refine AWp.exit ?_
  refine AWp.rg [] [] ?_ (hr := by conv => lhs; simp [Tm.row, Tm.rows_eq, Cs.row, Cs.rows_eq])
  refine AWp.rg [] [] ?_ (hr := by conv => lhs; simp [Tm.row, Tm.rows_eq, Cs.row, Cs.rows_eq])
  repeat (first | refine AWp.seq ?_ | refine AWp.block ?_)
  refine AWp.le (Le.low [401] [] (fr := [(1, .ptr 1 0), (2, .ptr 2 0), (3, .arr 400 0 txs.length), (6, .arr 401 0 ([] : List Cs).length), (27, .d (.sl (tcs.map Cs.row))), (28, .d (.int (tcs.length : Int))), (29, .d (.int (0 : Int)))]) (mem := [(1, some (.blk 34 [.d (.int tk), .d (.int tn), .d (.str ta), .d (.str tb), .d (strsD tvs), .d (.sl (txs.map Tm.row)), .d (.sl (tcs.map Cs.row))])), (2, some (.blk 34 [.d (.int 0), .d (.int 0), .d (.str ByteArray.empty), .d (.str ByteArray.empty), .lit (.slice none 0 0), .lit (.slice none 0 0), .lit (.slice none 0 0)])), (400, some (.arr 34 7 (txs.map Tm.row))), (401, some (.arr 40 9 (([] : List Cs).map Cs.row)))]) rfl (by simp) (by simp)) ?_
  refine AWp.loop (σ := fun u : {u : Nat × List Cs // u.1 ≤ tcs.length ∧ u.2 = tcs.take u.1} => ⟨51, [(1, .ptr 1 0), (2, .ptr 2 0), (3, .arr 400 0 txs.length), (6, .arr 401 0 u.1.2.length), (27, .d (.sl (tcs.map Cs.row))), (28, .d (.int (tcs.length : Int))), (29, .d (.int (u.1.1 : Int)))], [(1, some (.blk 34 [.d (.int tk), .d (.int tn), .d (.str ta), .d (.str tb), .d (strsD tvs), .d (.sl (txs.map Tm.row)), .d (.sl (tcs.map Cs.row))])), (2, some (.blk 34 [.d (.int 0), .d (.int 0), .d (.str ByteArray.empty), .d (.str ByteArray.empty), .lit (.slice none 0 0), .lit (.slice none 0 0), .lit (.slice none 0 0)])), (400, some (.arr 34 7 (txs.map Tm.row))), (401, some (.arr 40 9 (u.1.2.map Cs.row)))]⟩)
    (μ := fun u => tcs.length - u.1.1) ⟨(0, []), ⟨Nat.zero_le _, by simp⟩⟩ (Le.sub (by simp) (by simp)) (fun ⟨(i, ds), ⟨hi10, hw2⟩⟩ => ?_)
  dsimp only at hi10 hw2 ⊢
  refine AWp.rg [] [] ?_ (hr := by conv => lhs; simp [Tm.row, Tm.rows_eq, Cs.row, Cs.rows_eq])
  repeat (first | refine AWp.seq ?_ | refine AWp.block ?_)
  refine AWp.cond rfl (fun hc => ?_) (fun hc => ?_)
  · have hi1 : i < tcs.length := by have := of_decide_eq_true hc; omega
    clear hc
    have h1d : tcs[i]? = some tcs[i] := List.getElem?_eq_getElem hi1
    have hmd : tcs[i] ∈ tcs := List.getElem_mem hi1
    have hdd : tcs.drop i = tcs[i] :: tcs.drop (i + 1) := List.drop_eq_getElem_cons hi1
    generalize tcs[i] = d at h1d hmd hdd
    obtain ⟨dt, dws, ⟨dk, dn, da, db, dvs, dxs, dcs⟩⟩ := d
    have hyl : ds.length = i := by rw [hw2, List.length_take]; omega
    obtain ⟨hc1, hc2, hc3⟩ := hcO _ hmd
    have hx := sp_Own (.mk dk dn da db dvs dxs dcs) hc3
    have hcw := sp_Clone dws (by omega)
    refine AWp.skip ?_
    refine AWp.rg [] [] ?_ (hr := by conv => lhs; simp [Tm.row, Tm.rows_eq, Cs.row, Cs.rows_eq, h1d])
    refine AWp.dw [5] [.p (fun d => .arr d 0 dws.length) (some (.arr 9 1 (dws.map strR))), .p (fun _ => .agg [.d (.int dk), .d (.int dn), .d (.str da), .d (.str db), .d (strsD dvs), .d (.sl (dxs.map Tm.row)), .d (.sl (dcs.map Cs.row))]) none] mixed ?_ (hr := by conv => lhs; simp [Tm.row, Tm.rows_eq, Cs.row, Cs.rows_eq, h1d])
    refine AWp.rg [] [] ?_ (hr := by conv => lhs; simp [Tm.row, Tm.rows_eq, Cs.row, Cs.rows_eq, h1d])
    refine ⟨⟨(i + 1, ds ++ [.mk dt dws (.mk dk dn da db dvs dxs dcs)]), hi1, by rw [hw2, List.take_add_one, h1d]; rfl⟩, by simp; omega, ?_⟩
    dsimp only
    exact Le.sub (by simp [Cs.row, Tm.row, Tm.rows_eq, Cs.rows_eq, hyl]) (by simp [Cs.row, Tm.row, Tm.rows_eq, Cs.rows_eq, hyl])
  have hi1 : i = tcs.length := by have := of_decide_eq_false hc; omega
  subst hi1
  clear hc
  rw [List.take_length] at hw2
  subst ds
  refine AWp.exit ?_
  refine AWp.rg [] [] ?_ (hr := by conv => lhs; simp [Tm.row, Tm.rows_eq, Cs.row, Cs.rows_eq])
  refine AWp.rg [] [] ?_ (hr := by conv => lhs; simp [Tm.row, Tm.rows_eq, Cs.row, Cs.rows_eq])
  refine AWp.ret ?_
  try dsimp only [thenQ, blockQ]
  apply endC.le (Le.give _ 400 500 rfl rfl rfl)
  apply endC.le (Le.give _ 401 501 rfl rfl rfl)
  try dsimp only [thenQ, blockQ]
  apply endC.ret
  · rfl
  · conv => lhs; simp [resAV, Tryd.results76, AS.swap, swN]
  · rfl
  · simp [moEnd, memGet, AS.swap, swN]
def frR (p : ByteArray × ByteArray) : List D := [.str p.1]
def toR (p : ByteArray × ByteArray) : List D := [.str p.2]
abbrev chO (n : Nat) (c : Int) : AObj := .blk 113 [.arr 500 0 n, .arr 501 0 n, .d (.int c)]
abbrev frO (ps : Ps) : AObj := .arr 9 1 (ps.map frR)
abbrev toO (ps : Ps) : AObj := .arr 9 1 (ps.map toR)
set_option maxRecDepth 20000 in
set_option maxHeartbeats 16000000 in
theorem cs_chFresh (ps : Ps) (c : Int) : CSpec Tryd.prog 149 [.ptr 1000 0] [(1000, chO ps.length c), (500, frO ps), (501, toO ps)] (.d (.str (vNm (wr (c + 1))))) [(1000, chO ps.length (wr (c + 1))), (500, frO ps), (501, toO ps)] := by
  obtain ⟨e, he⟩ : ∃ e : Int, wr (c + 1) = e := ⟨_, rfl⟩
  rw [he]
  have heI : inI e := by rw [← he]; exact wr_in _
  have hit := sp_Itoa e heI
  have hsz := itoaB_size heI
  have h1s : (⟨#[118]⟩ : ByteArray).size = 1 := rfl
  rw [vNm]
  refine CSpec.of Tryd.func149 rfl rfl (Nat.le_of_ble_eq_true rfl) ?_
  show AWp _ _ (endC _ Tryd.f149 _ _) (startC 16 _ _)
  refine AWp.rg [] [] ?_ (hr := by conv => lhs; simp [lit118])
  refine AWp.rg [4] [] ?_ (hr := by conv => lhs; simp [lit118, he])
  refine AWp.rg [] [.p (fun _ => .d (.str (itoaB e))) none] ?_ (hr := by conv => lhs; simp [lit118, he])
  refine AWp.ret ?_
  try dsimp only [thenQ, blockQ]
  apply endC.ret
  · rfl
  · conv => lhs; simp [resAV, Tryd.results149]
  · rfl
  · simp [moEnd, memGet, vNm]
set_option maxRecDepth 20000 in
set_option maxHeartbeats 16000000 in
theorem cs_now (ps : Ps) (s : ByteArray) (c : Int) (hp : ps.length ≤ 1000) : CSpec Tryd.prog 150 [.ptr 1000 0, .d (.str s)] [(1000, chO ps.length c), (500, frO ps), (501, toO ps)] (.d (.str (nowP ps s))) [(1000, chO ps.length c), (500, frO ps), (501, toO ps)] := by
  obtain ⟨R, hR⟩ : ∃ R, R = nowP ps s := ⟨_, rfl⟩
  rw [← hR]
  refine CSpec.of Tryd.func150 rfl rfl (Nat.le_of_ble_eq_true rfl) ?_
  show AWp _ _ (endC _ Tryd.f150 _ _) (startC 33 _ _)
  refine AWp.rg [] [] ?_ (hr := by conv => lhs; simp [frR, toR])
  refine AWp.rg [] [] ?_ (hr := by conv => lhs; simp [frR, toR])
  repeat (first | refine AWp.seq ?_ | refine AWp.block ?_)
  refine AWp.loop (σ := fun u : {u : Nat // (nowP ps s = nowP (ps.take u) s ∧ u ≤ ps.length)} => ⟨33, [(0, .ptr 1000 0), (1, .d (.str s)), (5, .d (.int ((u.1 : Int) - 1)))], [(500, some (.arr 9 1 (ps.map frR))), (501, some (.arr 9 1 (ps.map toR))), (1000, some (.blk 113 [.arr 500 0 ps.length, .arr 501 0 ps.length, .d (.int c)]))]⟩)
    (μ := fun u => u.1) ⟨ps.length, ⟨by rw [List.take_length], Nat.le_refl _⟩⟩ (Le.sub (by simp) (by simp)) (fun ⟨j, hw⟩ => ?_)
  dsimp only
  obtain ⟨hw, hj⟩ := hw
  rcases j with _ | k
  · rw [show ((0 : Nat) : Int) - 1 = -1 from rfl]
    refine AWp.rg [] [] ?_ (hr := by conv => lhs; simp [frR, toR])
    refine AWp.cn ?_
    refine AWp.exit ?_
    rw [List.take_zero] at hw
    obtain rfl : R = s := by rw [hR, hw]; rfl
    refine AWp.rg [] [] ?_ (hr := by conv => lhs; simp [frR, toR])
    refine AWp.ret ?_
    try dsimp only [thenQ, blockQ]
    apply endC.ret
    · rfl
    · conv => lhs; simp [resAV, Tryd.results150]
    · rfl
    · simp [moEnd, memGet]
  rw [show ((k + 1 : Nat) : Int) - 1 = (k : Int) by omega]
  have hk0 := eq_true (Int.natCast_nonneg k)
  have hk1 : k < ps.length := by omega
  have h1p : ps[k]? = some ps[k] := List.getElem?_eq_getElem hk1
  generalize ps[k] = p at h1p
  have hsn := nowP_snoc h1p s
  obtain ⟨pf, pg⟩ := p
  dsimp only at hsn
  refine AWp.rg [] [] ?_ (hr := by conv => lhs; simp [frR, toR, h1p, hk0])
  refine AWp.cy ?_
  refine AWp.skip ?_
  by_cases q1 : pf = s
  · refine AWp.rg [] [] ?_ (hr := by conv => lhs; simp [frR, toR, h1p, hk0, q1])
    refine AWp.cy ?_
    rw [if_pos q1] at hsn
    obtain rfl : R = pg := by rw [hR, hw, hsn]
    refine AWp.rg [] [] ?_ (hr := by conv => lhs; simp [frR, toR, h1p, hk0, q1])
    refine AWp.ret ?_
    try dsimp only [thenQ, blockQ]
    apply endC.ret
    · rfl
    · conv => lhs; simp [resAV, Tryd.results150]
    · rfl
    · simp [moEnd, memGet]
  refine AWp.rg [] [] ?_ (hr := by conv => lhs; simp [frR, toR, h1p, hk0, q1])
  refine AWp.cn ?_
  refine AWp.skip ?_
  refine AWp.rg [] [] ?_ (hr := by conv => lhs; simp [frR, toR, h1p, hk0, q1])
  refine ⟨⟨k, ⟨by rw [hw, hsn, if_neg q1], by omega⟩⟩, by simp only []; omega, ?_⟩
  dsimp only
  exact Le.sub (by simp) (by simp)
def Fn.rn (f : Fn) : Fn := ⟨f.name, freshL f.params 0, (f.body.rn (f.params.zip (freshL f.params 0)) (freshC f.params 0)).1⟩
abbrev fnAV : Fn → AV
  | ⟨g, ps, .mk k n a b vs xs cs⟩ => .agg [.d (.str g), .d (strsD ps), .d (.int k), .d (.int n), .d (.str a), .d (.str b), .d (strsD vs), .d (.sl (xs.map Tm.row)), .d (.sl (cs.map Cs.row))]
end Go.Proofs.YtapiiklnnkkdlaaDoor
