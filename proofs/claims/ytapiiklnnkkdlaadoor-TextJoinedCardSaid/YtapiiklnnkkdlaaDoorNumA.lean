import Derived.Test.YtapiiklnnkkdlaaDoorFreeA
import Derived.Lib.AtoiAll
import Derived.Lib.AtoiAllCases
import Derived.Lib.AtoiErrMem
/- scope.Free, by the abstract machine. -/
namespace Go.Proofs.YtapiiklnnkkdlaaDoor
open Go.RowKit
attribute [local simp] runD mkRc ldOf stOf stOk ldArg noAny dstOk guardOk opEff opEff0 effOp pureOp callOp zEff evA constAV scalAV Value.oneCell' frGet memGet startAS frOf isGoCall idIn AS.after nextR opnIds objIds AV.ids idsL AObj.ids frNo memNo opnAny isAny mkVal rdCells wrCells fldAddr idxAddr srcRows litRows toD1 toDs setAt sliceAV optI partAV bldAV fillAV binAV binI AV.cells callEff calleeOf frKill memKill AV.kill AObj.kill AV.has AV.hasL Op.operands Call.operands keepF keepM viewIds cChk renOf moGet moWs moQ cEff moLike moHave AV.ren renL AObj.ren AObj.like kept startC moMem AV.frz frz1 frzL frSub memSub frzs AS.frz frFrz memFrz AObj.frz takeMap takeLen bleF Nat.ble_eq memAny objAny mapOp D.keyOk rowAV valRow extOp wrapOp phO frLow memLow memLow1 objLow memEmpty Low LowL
set_option linter.unusedVariables false
set_option linter.unusedSimpArgs false
theorem AWp.seqJ {P : Program} {Q : Exit → AS → Prop} {s : AS} {x y : Code} (s0 : AS) (h2 : AWp P y Q s0) (h1 : ∀ W : AS → Prop, (∀ s', Le s' s0 → W s') → AWp P x (thenQ W Q) s) : AWp P (.seq x y) Q s :=
  AWp.seq (h1 _ fun _ hl => AWp.le hl h2)
structure Tm.Fit (t : Tm) : Prop where
  ok : t.Ok
  sz : t.sz ≤ 1048576
theorem Tm.Fit.arg {k n : Int} {a b : ByteArray} {vs : List ByteArray} {xs : List Tm} {cs : List Cs} (h : (Tm.mk k n a b vs xs cs).Fit) {x : Tm} (hx : x ∈ xs) : x.Fit :=
  ⟨h.ok.arg hx, by have := Tm.sz_arg (k := k) (n := n) (a := a) (b := b) (vs := vs) (cs := cs) hx; have := h.sz; omega⟩
theorem Tm.Fit.case {k n : Int} {a b : ByteArray} {vs : List ByteArray} {xs : List Tm} {cs : List Cs} (h : (Tm.mk k n a b vs xs cs).Fit) {t : Int} {ws : List ByteArray} {x : Tm} (hx : Cs.mk t ws x ∈ cs) : x.Fit ∧ ws.length ≤ 8796093022207 :=
  ⟨⟨(h.ok.case hx).body.1, by have := Tm.sz_case (k := k) (n := n) (a := a) (b := b) (vs := vs) (xs := xs) hx; have := h.sz; omega⟩, (h.ok.case hx).body.2⟩
end Go.Proofs.YtapiiklnnkkdlaaDoor

namespace Go.Proofs.YtapiiklnnkkdlaaDoor
open Go.RowKit
attribute [local simp] runD mkRc ldOf stOf stOk ldArg noAny dstOk guardOk opEff opEff0 effOp pureOp callOp zEff evA constAV scalAV Value.oneCell' frGet memGet startAS frOf isGoCall idIn AS.after nextR opnIds objIds AV.ids idsL AObj.ids frNo memNo opnAny isAny mkVal rdCells wrCells fldAddr idxAddr srcRows litRows toD1 toDs setAt sliceAV optI partAV bldAV fillAV binAV binI AV.cells callEff calleeOf frKill memKill AV.kill AObj.kill AV.has AV.hasL Op.operands Call.operands keepF keepM viewIds cChk renOf moGet moWs moQ cEff moLike moHave AV.ren renL AObj.ren AObj.like kept startC moMem AV.frz frz1 frzL frSub memSub frzs AS.frz frFrz memFrz AObj.frz takeMap takeLen bleF Nat.ble_eq memAny objAny mapOp D.keyOk rowAV valRow extOp wrapOp phO
set_option linter.unusedVariables false
set_option linter.unusedSimpArgs false
end Go.Proofs.YtapiiklnnkkdlaaDoor

namespace Go.Proofs.YtapiiklnnkkdlaaDoor
open Go.RowKit
attribute [local simp] runD mkRc ldOf stOf stOk ldArg noAny dstOk guardOk opEff opEff0 effOp pureOp callOp zEff evA constAV scalAV Value.oneCell' frGet memGet startAS frOf isGoCall idIn AS.after nextR opnIds objIds AV.ids idsL AObj.ids frNo memNo opnAny isAny mkVal rdCells wrCells fldAddr idxAddr srcRows litRows toD1 toDs setAt sliceAV optI partAV bldAV fillAV binAV binI AV.cells callEff calleeOf frKill memKill AV.kill AObj.kill AV.has AV.hasL Op.operands Call.operands keepF keepM viewIds cChk renOf moGet moWs moQ cEff moLike moHave AV.ren renL AObj.ren AObj.like kept startC moMem AV.frz frz1 frzL frSub memSub frzs AS.frz frFrz memFrz AObj.frz takeMap takeLen bleF Nat.ble_eq memAny objAny mapOp D.keyOk rowAV valRow extOp wrapOp phO frLow memLow memLow1 objLow memEmpty Low LowL
set_option linter.unusedVariables false
set_option linter.unusedSimpArgs false
end Go.Proofs.YtapiiklnnkkdlaaDoor

namespace Go.Proofs.YtapiiklnnkkdlaaDoor
open Go.RowKit
attribute [local simp] runD mkRc ldOf stOf stOk ldArg noAny dstOk guardOk opEff opEff0 effOp pureOp callOp zEff evA constAV scalAV Value.oneCell' frGet memGet startAS frOf isGoCall idIn AS.after nextR opnIds objIds AV.ids idsL AObj.ids frNo memNo opnAny isAny mkVal rdCells wrCells fldAddr idxAddr srcRows litRows toD1 toDs setAt sliceAV optI partAV bldAV fillAV binAV binI AV.cells callEff calleeOf frKill memKill AV.kill AObj.kill AV.has AV.hasL Op.operands Call.operands keepF keepM viewIds cChk renOf moGet moWs moQ cEff moLike moHave AV.ren renL AObj.ren AObj.like kept startC moMem AV.frz frz1 frzL frSub memSub frzs AS.frz frFrz memFrz AObj.frz takeMap takeLen bleF Nat.ble_eq memAny objAny mapOp D.keyOk rowAV valRow extOp wrapOp phO
set_option linter.unusedVariables false
set_option linter.unusedSimpArgs false
@[simp] theorem u8min : IntKind.u8.min = 0 := rfl
@[simp] theorem u8max : IntKind.u8.max = 255 := rfl
@[simp] theorem i32min : IntKind.i32.min = -2147483648 := rfl
@[simp] theorem i32max : IntKind.i32.max = 2147483647 := rfl
def chOk (i : Nat) (c : UInt8) : Bool := (decide ((97 : Int) ≤ c.toNat) && decide ((c.toNat : Int) ≤ 122)) || ((decide ((48 : Int) ≤ c.toNat) && decide ((c.toNat : Int) ≤ 57)) && !(i == 0))
def nameB (s : ByteArray) : Bool := ((List.range s.size).all fun j => match s[j]? with | some c => chOk j c | none => true) && (decide (1 ≤ (s.size : Int)) && decide ((s.size : Int) ≤ 8))
theorem nameB_bad {s : ByteArray} {i : Nat} {c : UInt8} (h : s[i]? = some c) (hi : i < s.size) (hc : chOk i c = false) : nameB s = false := by
  unfold nameB
  rw [Bool.and_eq_false_iff]
  left
  rw [List.all_eq_false]
  exact ⟨i, List.mem_range.2 hi, by rw [h]; simp [hc]⟩
theorem nameB_good {s : ByteArray} (h : ∀ j < s.size, ∀ c, s[j]? = some c → chOk j c = true) : nameB s = (decide (1 ≤ (s.size : Int)) && decide ((s.size : Int) ≤ 8)) := by
  unfold nameB
  have : ((List.range s.size).all fun j => match s[j]? with | some c => chOk j c | none => true) = true := by
    rw [List.all_eq_true]
    intro j hj
    have := h j (List.mem_range.1 hj)
    revert this
    cases s[j]? with
    | none => intro _; rfl
    | some c => intro h; exact h c rfl
  rw [this, Bool.true_and]
set_option maxRecDepth 20000 in
set_option maxHeartbeats 4000000 in
theorem sp_Name (s : ByteArray) (hs : s.size ≤ 9223372036854775806) : PSpec Tryd.prog 39 [.d (.str s)] (fun _ => .d (.bool (nameB s))) none := by
  refine PSpec.of Tryd.func39 rfl rfl rfl (Nat.le_of_ble_eq_true rfl) ?_
  show AWp _ _ (endQ _ Tryd.f39 _ _ _) (startAS 50 _)
  repeat (first | refine AWp.seq ?_ | refine AWp.block ?_)
  apply AWp.reg [] []
  · conv => lhs; simp
  · trivial
  repeat (first | refine AWp.seq ?_ | refine AWp.block ?_)
  apply AWp.reg [] []
  · conv => lhs; simp
  · trivial
  repeat (first | refine AWp.seq ?_ | refine AWp.block ?_)
  refine AWp.loop (σ := fun u : {i : Nat // i ≤ s.size ∧ ∀ j < i, ∀ c, s[j]? = some c → chOk j c = true} => ⟨50, [(0, .d (.str s)), (7, .d (.int s.size)), (8, .d (.int u.1))], []⟩)
    (μ := fun u => s.size - u.1) ⟨0, Nat.zero_le _, by simp⟩ (Le.sub (by simp) (by simp)) (fun ⟨i, hi, ht⟩ => ?_)
  dsimp only
  repeat (first | refine AWp.seq ?_ | refine AWp.block ?_)
  apply AWp.reg [] []
  · conv => lhs; simp
  · trivial
  repeat (first | refine AWp.seq ?_ | refine AWp.block ?_)
  refine AWp.cond rfl (fun h => ?_) (fun h => ?_)
  · have hi1 : i < s.size := by have := of_decide_eq_true h; omega
    have h1 : s[i]? = some s[i] := by rw [getElem?_pos]
    generalize s[i] = c at h1
    have hc : chOk i c = ((decide ((97 : Int) ≤ c.toNat) && decide ((c.toNat : Int) ≤ 122)) || ((decide ((48 : Int) ≤ c.toNat) && decide ((c.toNat : Int) ≤ 57)) && !(i == 0))) := rfl
    obtain ⟨A, hA⟩ : ∃ A, A = decide ((97 : Int) ≤ c.toNat) := ⟨_, rfl⟩
    obtain ⟨B, hB⟩ : ∃ B, B = decide ((c.toNat : Int) ≤ 122) := ⟨_, rfl⟩
    obtain ⟨C, hC⟩ : ∃ C, C = decide ((48 : Int) ≤ c.toNat) := ⟨_, rfl⟩
    obtain ⟨E, hE⟩ : ∃ E, E = decide ((c.toNat : Int) ≤ 57) := ⟨_, rfl⟩
    rw [← hA, ← hB, ← hC, ← hE] at hc
    refine AWp.skip ?_
    repeat (first | refine AWp.seq ?_ | refine AWp.block ?_)
    apply AWp.reg [] []
    · conv => lhs; simp
    · trivial
    refine AWp.seqJ ⟨50, [(0, .d (.str s)), (3, .d (.int i)), (4, .d (.bool (A && B))), (5, .d (.bool (C && E))), (7, .d (.int s.size)), (8, .d (.int i))], []⟩ ?_ (fun W hW => ?_)
    rotate_left
    · cases A <;> cases B <;> cases C <;> cases E
      all_goals (
        have qA := hA.symm
        have qB := hB.symm
        have qC := hC.symm
        have qE := hE.symm
        simp only [decide_eq_true_eq, decide_eq_false_iff_not] at qA qB qC qE
        refine AWp.dw [] [] mixed ?_ (hr := by conv => lhs; simp [h1, qA, qB, qC, qE])
        exact hW _ (Le.sub (by simp) (by simp)))
    obtain ⟨L, hL⟩ : ∃ L, L = (A && B) := ⟨_, rfl⟩
    obtain ⟨G, hG⟩ : ∃ G, G = (C && E) := ⟨_, rfl⟩
    rw [← hL, ← hG] at hc ⊢
    have step : chOk i c = true → ∀ j < i + 1, ∀ c, s[j]? = some c → chOk j c = true := fun hok j hj c' hc' => by
      rcases Nat.lt_or_ge j i with hlt | hge
      · exact ht j hlt c' hc'
      · obtain rfl : j = i := by omega
        rw [h1] at hc'
        cases hc'
        exact hok
    by_cases hz : i = 0
    · subst hz
      cases L <;> cases G
      all_goals first
        | (
          have hbad := nameB_bad h1 hi1 (by rw [hc]; rfl)
          refine AWp.rg [] [] ?_
          repeat (first | refine AWp.seq ?_ | refine AWp.block ?_)
          refine AWp.cond rfl (fun h2 => ?_) (fun h2 => ?_)
          rotate_left
          · cases h2
          refine AWp.rg [] [] ?_
          refine AWp.ret ?_
          try dsimp only [thenQ, blockQ]
          apply endQ.ret
          · rfl
          · conv => lhs; simp [resAV, Tryd.results39]
          rw [hbad]; rfl)
        | (
          have hgood := step (by rw [hc]; rfl)
          refine AWp.rg [] [] ?_
          repeat (first | refine AWp.seq ?_ | refine AWp.block ?_)
          refine AWp.cond rfl (fun h2 => ?_) (fun h2 => ?_)
          · cases h2
          refine AWp.skip ?_
          refine AWp.rg [] [] ?_
          refine ⟨⟨0 + 1, hi1, hgood⟩, by simp; omega, Le.sub (by simp) (by simp)⟩)
    · have hz' : ¬ (i : Int) = 0 := by omega
      have hzb : (i == 0) = false := by simp [hz]
      rw [hzb] at hc
      cases L <;> cases G
      all_goals first
        | (
          have hbad := nameB_bad h1 hi1 (by rw [hc]; rfl)
          refine AWp.rg [] [] ?_ (hr := by conv => lhs; simp [hz])
          repeat (first | refine AWp.seq ?_ | refine AWp.block ?_)
          refine AWp.cond rfl (fun h2 => ?_) (fun h2 => ?_)
          rotate_left
          · cases h2
          refine AWp.rg [] [] ?_
          refine AWp.ret ?_
          try dsimp only [thenQ, blockQ]
          apply endQ.ret
          · rfl
          · conv => lhs; simp [resAV, Tryd.results39]
          rw [hbad]; rfl)
        | (
          have hgood := step (by rw [hc]; rfl)
          refine AWp.rg [] [] ?_ (hr := by conv => lhs; simp [hz])
          repeat (first | refine AWp.seq ?_ | refine AWp.block ?_)
          refine AWp.cond rfl (fun h2 => ?_) (fun h2 => ?_)
          · cases h2
          refine AWp.skip ?_
          refine AWp.rg [] [] ?_
          refine ⟨⟨i + 1, hi1, hgood⟩, by simp; omega, Le.sub (by simp) (by simp)⟩)
  have hi1 : i = s.size := by have := of_decide_eq_false h; omega
  subst hi1
  have hg := nameB_good ht
  rw [hg]
  refine AWp.exit ?_
  by_cases g1 : (1 : Int) ≤ s.size
  · by_cases g2 : (s.size : Int) ≤ 8
    · refine AWp.rg [] [] ?_ (hr := by conv => lhs; simp [g1, g2])
      refine AWp.ret ?_
      try dsimp only [thenQ, blockQ]
      apply endQ.ret
      · rfl
      · conv => lhs; simp [resAV, Tryd.results39]
      rw [decide_eq_true g1, decide_eq_true g2]; rfl
    · refine AWp.rg [] [] ?_ (hr := by conv => lhs; simp [g1, g2])
      refine AWp.ret ?_
      try dsimp only [thenQ, blockQ]
      apply endQ.ret
      · rfl
      · conv => lhs; simp [resAV, Tryd.results39]
      rw [decide_eq_true g1, decide_eq_false g2]; rfl
  · refine AWp.rg [] [] ?_ (hr := by conv => lhs; simp [g1])
    refine AWp.ret ?_
    try dsimp only [thenQ, blockQ]
    apply endQ.ret
    · rfl
    · conv => lhs; simp [resAV, Tryd.results39]
    rw [decide_eq_false g1]; rfl
end Go.Proofs.YtapiiklnnkkdlaaDoor

namespace Go.Proofs.YtapiiklnnkkdlaaDoor
open Go.RowKit
set_option linter.unusedVariables false
set_option linter.unusedSimpArgs false
abbrev PS := Nat × Int
def isBl (c : UInt8) : Bool := c.toNat == 32 || (c.toNat == 9 || c.toNat == 10)
def isBr (c : UInt8) : Bool := c.toNat == 40 || c.toNat == 41
def nBl : List UInt8 → Nat
  | [] => 0
  | c :: r => if isBl c then nBl r + 1 else 0
def nWd : List UInt8 → Nat
  | [] => 0
  | c :: r => if isBl c || isBr c then 0 else nWd r + 1
def nPk : List UInt8 → Nat
  | [] => 0
  | c :: r => if isBr c then 1 else nWd (c :: r)
def pkA (s : ByteArray) (a : Nat) : Nat := a + nBl (s.data.toList.drop a)
def pkE (s : ByteArray) (a : Nat) : Nat := a + nPk (s.data.toList.drop a)
def pkW (s : ByteArray) (a : Nat) : ByteArray := s.extract (pkA s a) (pkE s (pkA s a))
def badE (e x : Int) : Int := if e = 0 then x else e
def nxS (s : ByteArray) (p : PS) : PS := (pkE s (pkA s p.1), if (pkW s p.1).size = 0 then badE p.2 8 else p.2)
def wantS (s w : ByteArray) (p : PS) : PS := if pkW s p.1 = w then nxS s p else ((nxS s p).1, badE (nxS s p).2 2)
def namP (s : ByteArray) (p : PS) : ByteArray × PS := (pkW s p.1, if nameB (pkW s p.1) then nxS s p else ((nxS s p).1, badE (nxS s p).2 7))
def numP (w : ByteArray) : Int × Bool := match Lib.atoiAll w.data.toList with
  | .ok v => (v, decide (itoaB v = w))
  | .range => (Lib.atoiSat w.data.toList, false)
  | _ => (0, false)
def sharp (w : ByteArray) : Bool := match w.data.toList with
  | c :: _ => c.toNat == 35
  | [] => false
def tagP (g : Bool) (s : ByteArray) (p : PS) : Int × PS :=
  if decide (1 < (pkW s p.1).size) && sharp (pkW s p.1) && (numP ((pkW s p.1).extract 1 (pkW s p.1).size)).2 then ((numP ((pkW s p.1).extract 1 (pkW s p.1).size)).1, nxS s p)
  else (if g && (decide (1 < (pkW s p.1).size) && sharp (pkW s p.1)) then (numP ((pkW s p.1).extract 1 (pkW s p.1).size)).1 else 0, ((nxS s p).1, badE (nxS s p).2 2))
theorem tagP_ref (s : ByteArray) (p : PS) : tagP false s p = if decide (1 < (pkW s p.1).size) && sharp (pkW s p.1) && (numP ((pkW s p.1).extract 1 (pkW s p.1).size)).2 then ((numP ((pkW s p.1).extract 1 (pkW s p.1).size)).1, nxS s p)
  else (0, ((nxS s p).1, badE (nxS s p).2 2)) := by
  unfold tagP
  rw [Bool.false_and]
  rfl
abbrev rbr : ByteArray := ⟨#[41]⟩
abbrev lbr : ByteArray := ⟨#[40]⟩
def manyP {α : Type} (s : ByteArray) (one : PS → α × PS) : Nat → PS → List α × PS
  | 0, p => ([], p)
  | n + 1, p =>
    if p.2 = 0 then
      if pkW s p.1 = rbr then ([], wantS s rbr (pkA s p.1, p.2))
      else ((one (pkA s p.1, p.2)).1 :: (manyP s one n (one (pkA s p.1, p.2)).2).1, (manyP s one n (one (pkA s p.1, p.2)).2).2)
    else ([], wantS s rbr p)
def primsL : List ByteArray := [⟨#[43]⟩, ⟨#[45]⟩, ⟨#[42]⟩, ⟨#[60]⟩, ⟨#[61]⟩]
def primI (w : ByteArray) : List ByteArray → Int → Int → Int
  | [], _, r => r
  | x :: l, i, r => primI w l (i + 1) (if w = x then i + 1 else r)
abbrev wLet : ByteArray := ⟨#[108, 101, 116]⟩
abbrev wMatch : ByteArray := ⟨#[109, 97, 116, 99, 104]⟩
def casP (g : Bool) (s : ByteArray) (one : PS → Tm × PS) (p : PS) : Cs × PS :=
  let t := tagP g s (wantS s lbr p)
  let ws := manyP s (namP s) (s.size + 2) (wantS s lbr t.2)
  let y := one ws.2
  (.mk t.1 ws.1 y.1, wantS s rbr y.2)
def atomP (s : ByteArray) (p : PS) : Tm × PS :=
  if (numP (pkW s p.1)).2 then (.mk 2 (numP (pkW s p.1)).1 .empty .empty [] [] [], nxS s p)
  else (.mk 1 0 (pkW s p.1) .empty [] [] [], if nameB (pkW s p.1) then nxS s p else ((nxS s p).1, badE (nxS s p).2 7))
def formP (g : Bool) (s : ByteArray) (one : PS → Tm × PS) (w : ByteArray) (p : PS) : Tm × PS :=
  if sharp w then
    let t := tagP g s p
    let xs := manyP s one (s.size + 2) t.2
    (.mk 3 t.1 .empty .empty [] xs.1 [], xs.2)
  else if w = wLet then
    let nm := namP s (nxS s p)
    let x := one nm.2
    let y := one x.2
    (.mk 6 0 nm.1 .empty [] [x.1, y.1] [], wantS s rbr y.2)
  else if w = wMatch then
    let x := one (nxS s p)
    let cs := manyP s (casP g s one) (s.size + 2) x.2
    (.mk 7 0 .empty .empty [] [x.1] cs.1, cs.2)
  else if 0 < primI w primsL 0 0 then
    let x := one (nxS s p)
    let y := one x.2
    (.mk 5 (primI w primsL 0 0) .empty .empty [] [x.1, y.1] [], wantS s rbr y.2)
  else
    let nm := namP s p
    let xs := manyP s one (s.size + 2) nm.2
    (.mk 4 0 nm.1 .empty [] xs.1 [], xs.2)
def Tm.ps (g : Bool) (s : ByteArray) : Nat → PS → Tm × PS
  | 0, p => (.mk 0 0 .empty .empty [] [] [], (p.1, badE p.2 9))
  | n + 1, p =>
    if pkW s p.1 = lbr then formP g s (Tm.ps g s n) (pkW s (nxS s p).1) (pkA s (nxS s p).1, (nxS s p).2)
    else atomP s (pkA s p.1, p.2)
abbrev wFn : ByteArray := ⟨#[102, 110]⟩
def fnP (g : Bool) (s : ByteArray) (p : PS) : Fn × PS :=
  let nm := namP s (wantS s wFn (wantS s lbr p))
  let ws := manyP s (namP s) (s.size + 2) (wantS s lbr nm.2)
  let y := Tm.ps g s 25 ws.2
  (⟨nm.1, ws.1, y.1⟩, wantS s rbr y.2)
def fnsP (g : Bool) (s : ByteArray) : Nat → PS → List Fn × PS
  | 0, p => ([], p)
  | n + 1, p =>
    if p.2 = 0 then
      if (pkW s p.1).size = 0 then ([], (pkA s p.1, p.2))
      else ((fnP g s (pkA s p.1, p.2)).1 :: (fnsP g s n (fnP g s (pkA s p.1, p.2)).2).1, (fnsP g s n (fnP g s (pkA s p.1, p.2)).2).2)
    else ([], p)
def parseP (g : Bool) (s : ByteArray) : List Fn × Int :=
  if 1500 < s.size then ([], 4)
  else if (fnsP g s (s.size + 2) (0, 0)).2.2 = 0 then ((fnsP g s (s.size + 2) (0, 0)).1, 0) else ([], (fnsP g s (s.size + 2) (0, 0)).2.2)
structure Stp (s : ByteArray) (p q : PS) : Prop where
  le : p.1 ≤ q.1
  sz : q.1 ≤ s.size
  er : p.2 ≠ 0 → q.2 = p.2
structure Adv (s : ByteArray) (p q : PS) : Prop extends Stp s p q where
  on : q.2 ≠ 0 ∨ p.1 < q.1
theorem Stp.trans {s : ByteArray} {p q r : PS} (h : Stp s p q) (h2 : Stp s q r) : Stp s p r := ⟨Nat.le_trans h.le h2.le, h2.sz, fun e => by have h3 := h.er e; rw [h2.er (by rw [h3]; exact e), h3]⟩
theorem Adv.trans {s : ByteArray} {p q r : PS} (h : Stp s p q) (h2 : Adv s q r) : Adv s p r := ⟨h.trans h2.toStp, h2.on.imp id fun h3 => Nat.lt_of_le_of_lt h.le h3⟩
theorem Adv.then {s : ByteArray} {p q r : PS} (h : Adv s p q) (h2 : Stp s q r) : Adv s p r := ⟨h.toStp.trans h2, by
  rcases h.on with h3 | h3
  · exact .inl (by rw [h2.er h3]; exact h3)
  · exact .inr (Nat.lt_of_lt_of_le h3 h2.le)⟩
theorem nBl_le : ∀ l : List UInt8, nBl l ≤ l.length
  | [] => Nat.le_refl _
  | c :: r => by
    have := nBl_le r
    rw [nBl]; split <;> simp <;> omega
theorem nWd_le : ∀ l : List UInt8, nWd l ≤ l.length
  | [] => Nat.le_refl _
  | c :: r => by
    have := nWd_le r
    rw [nWd]; split <;> simp <;> omega
theorem nPk_le : ∀ l : List UInt8, nPk l ≤ l.length
  | [] => Nat.le_refl _
  | c :: r => by
    have := nWd_le (c :: r)
    rw [nPk]; split
    · simp
    · exact this
theorem toList_size (s : ByteArray) : s.data.toList.length = s.size := Array.length_toList
theorem pkA_le {s : ByteArray} {a : Nat} (h : a ≤ s.size) : a ≤ pkA s a ∧ pkA s a ≤ s.size := by
  have := nBl_le (s.data.toList.drop a)
  rw [List.length_drop, toList_size] at this
  unfold pkA; omega
theorem pkE_le {s : ByteArray} {a : Nat} (h : a ≤ s.size) : a ≤ pkE s a ∧ pkE s a ≤ s.size := by
  have := nPk_le (s.data.toList.drop a)
  rw [List.length_drop, toList_size] at this
  unfold pkE; omega
theorem pkW_size {s : ByteArray} {a : Nat} (h : a ≤ s.size) : (pkW s a).size = pkE s (pkA s a) - pkA s a := by
  have h1 := pkA_le h
  have h2 := pkE_le h1.2
  unfold pkW
  rw [ByteArray.size_extract]; omega
theorem badE_ne {e x : Int} (hx : x ≠ 0) : badE e x ≠ 0 := by
  unfold badE; split <;> assumption
theorem badE_er {e x : Int} (h : e ≠ 0) : badE e x = e := if_neg h
theorem Stp.pk {s : ByteArray} {p : PS} (h : p.1 ≤ s.size) : Stp s p (pkA s p.1, p.2) := ⟨(pkA_le h).1, (pkA_le h).2, fun _ => rfl⟩
theorem Stp.bad {s : ByteArray} {p q : PS} {x : Int} (h : Stp s p q) : Stp s p (q.1, badE q.2 x) := ⟨h.le, h.sz, fun e => by
  have h2 := h.er e
  dsimp only
  rw [badE_er (by rw [h2]; exact e), h2]⟩
theorem Adv.bad {s : ByteArray} {p q : PS} {x : Int} (h : Adv s p q) : Adv s p (q.1, badE q.2 x) := ⟨h.toStp.bad, by
  rcases h.on with h3 | h3
  · exact .inl (by dsimp only; rw [badE_er h3]; exact h3)
  · exact .inr h3⟩
theorem nxS_adv {s : ByteArray} {p : PS} (h : p.1 ≤ s.size) : Adv s p (nxS s p) := by
  have h1 := pkA_le h
  have h2 := pkE_le h1.2
  have h3 := pkW_size h
  unfold nxS
  refine ⟨⟨Nat.le_trans h1.1 h2.1, h2.2, fun e => ?_⟩, ?_⟩
  · dsimp only
    split
    · exact badE_er e
    · rfl
  · dsimp only
    split
    · exact .inl (badE_ne (by decide))
    · exact .inr (by omega)
theorem wantS_adv {s w : ByteArray} {p : PS} (h : p.1 ≤ s.size) : Adv s p (wantS s w p) := by
  unfold wantS
  split
  · exact nxS_adv h
  · exact (nxS_adv h).bad
theorem namP_adv {s : ByteArray} {p : PS} (h : p.1 ≤ s.size) : Adv s p (namP s p).2 := by
  unfold namP
  dsimp only
  split
  · exact nxS_adv h
  · exact (nxS_adv h).bad
theorem tagP_adv {g : Bool} {s : ByteArray} {p : PS} (h : p.1 ≤ s.size) : Adv s p (tagP g s p).2 := by
  unfold tagP
  split
  · exact nxS_adv h
  · exact (nxS_adv h).bad
theorem manyP_adv {α : Type} {s : ByteArray} {one : PS → α × PS} (ho : ∀ p : PS, p.1 ≤ s.size → Adv s p (one p).2) : ∀ (n : Nat) (p : PS), p.1 ≤ s.size → Stp s p (manyP s one n p).2 ∧ (n ≠ 0 → Adv s p (manyP s one n p).2) ∧ (manyP s one n p).1.length ≤ n
  | 0, p, h => ⟨⟨Nat.le_refl _, h, fun _ => rfl⟩, fun h => absurd rfl h, Nat.le_refl _⟩
  | n + 1, p, h => by
    have key : Adv s p (manyP s one (n + 1) p).2 ∧ (manyP s one (n + 1) p).1.length ≤ n + 1 := by
      rw [manyP]
      split
      · split
        · exact ⟨Adv.trans (Stp.pk h) (wantS_adv (pkA_le h).2), Nat.zero_le _⟩
        · have h1 := ho (pkA s p.1, p.2) (pkA_le h).2
          obtain ⟨h2, _, h3⟩ := manyP_adv ho n (one (pkA s p.1, p.2)).2 h1.sz
          exact ⟨Adv.trans (Stp.pk h) (h1.then h2), by simpa using h3⟩
      · exact ⟨wantS_adv h, Nat.zero_le _⟩
    exact ⟨key.1.toStp, fun _ => key.1, key.2⟩
theorem casP_adv {g : Bool} {s : ByteArray} {one : PS → Tm × PS} (ho : ∀ p : PS, p.1 ≤ s.size → Adv s p (one p).2) {p : PS} (h : p.1 ≤ s.size) : Adv s p (casP g s one p).2 := by
  unfold casP
  dsimp only
  have h1 := wantS_adv (w := lbr) h
  have h2 := tagP_adv (g := g) h1.sz
  have h3 := wantS_adv (w := lbr) h2.sz
  have h4 := (manyP_adv (fun p h => namP_adv h) (s.size + 2) _ h3.sz).1
  have h5 := ho _ h4.sz
  exact (h1.then h2.toStp).then ((h3.toStp.trans h4).trans (h5.toStp.trans (wantS_adv h5.sz).toStp))
theorem formP_adv {g : Bool} {s w : ByteArray} {one : PS → Tm × PS} (ho : ∀ p : PS, p.1 ≤ s.size → Adv s p (one p).2) {p : PS} (h : p.1 ≤ s.size) : Adv s p (formP g s one w p).2 := by
  unfold formP
  split
  · have h1 := tagP_adv (g := g) h
    exact h1.then (manyP_adv ho _ _ h1.sz).1
  split
  · have h1 := nxS_adv h
    have h2 := namP_adv h1.sz
    have h3 := ho _ h2.sz
    have h4 := ho _ h3.sz
    exact (h1.then h2.toStp).then (h3.toStp.trans (h4.toStp.trans (wantS_adv h4.sz).toStp))
  split
  · have h1 := nxS_adv h
    have h3 := ho _ h1.sz
    exact h1.then (h3.toStp.trans (manyP_adv (fun p h => casP_adv ho h) _ _ h3.sz).1)
  split
  · have h1 := nxS_adv h
    have h3 := ho _ h1.sz
    have h4 := ho _ h3.sz
    exact h1.then (h3.toStp.trans (h4.toStp.trans (wantS_adv h4.sz).toStp))
  · have h1 := namP_adv h
    exact h1.then (manyP_adv ho _ _ h1.sz).1
theorem ps_adv {g : Bool} {s : ByteArray} : ∀ (n : Nat) (p : PS), p.1 ≤ s.size → Adv s p (Tm.ps g s n p).2
  | 0, p, h => ⟨⟨Nat.le_refl _, h, fun e => badE_er e⟩, .inl (badE_ne (by decide))⟩
  | n + 1, p, h => by
    rw [Tm.ps]
    split
    · have h1 := nxS_adv h
      exact h1.then ((Stp.pk h1.sz).trans (formP_adv (ps_adv n) (pkA_le h1.sz).2).toStp)
    · refine Adv.trans (Stp.pk h) ?_
      have h1 := nxS_adv (s := s) (p := (pkA s p.1, p.2)) (pkA_le h).2
      unfold atomP
      split
      · exact h1
      · dsimp only
        split
        · exact h1
        · exact h1.bad
theorem fnP_adv {g : Bool} {s : ByteArray} {p : PS} (h : p.1 ≤ s.size) : Adv s p (fnP g s p).2 := by
  unfold fnP
  dsimp only
  have h1 := wantS_adv (w := lbr) h
  have h2 := wantS_adv (w := wFn) h1.sz
  have h3 := namP_adv h2.sz
  have h4 := wantS_adv (w := lbr) h3.sz
  have h5 := (manyP_adv (fun p h => namP_adv h) (s.size + 2) _ h4.sz).1
  have h6 := ps_adv (g := g) 25 _ h5.sz
  exact (h1.then h2.toStp).then ((h3.toStp.trans h4.toStp).trans (h5.trans (h6.toStp.trans (wantS_adv h6.sz).toStp)))

theorem numP_in (s : ByteArray) : inI (numP s).1 := by
  unfold numP
  rcases h : Lib.atoiAll s.data.toList with v | _ | _
  · exact Lib.atoiAll_bounds h
  · exact ⟨by dsimp only; decide, by dsimp only; decide⟩
  · exact Lib.atoiSat_bounds _
set_option maxRecDepth 100000 in
set_option maxHeartbeats 4000000 in
theorem number_calls (s : ByteArray) (hs : s.size ≤ 281474976710656) (w : World) (hg : GI w) : Calls Tryd.prog 137 #[.string s] w fun e w' => e = .returned (.tuple #[.int .i64 (numP s).1, .bool (numP s).2]) ∧ Below w.heap.size w w' := by
  have gi : ∀ w' : World, Below w.heap.size w w' → GI w' := fun w' hB => hg.keep fun b hb => hB.block b (hg.lt hb)
  unfold numP
  rcases h : Lib.atoiAll s.data.toList with v | _ | _
  · have hv := Lib.atoiAll_bounds h
    go_enter Tryd.func137, Tryd.ntmps137
    go_wp2_with (first
      | (go_at_call 167; refine (Tryd.strconv_Atoi_ok s (by omega) v h _).mono ?_; rintro e w1 ⟨rfl, hw⟩; have hB : Below w.heap.size w w1 := by
          rcases hw with rfl | ⟨t, rfl⟩
          · exact Below.refl _ _
          · exact Lib.bytesWorld_below _ _ _
         clear hw; have hG := (gi _ hB).pow)
      | (go_at_call 97; refine (Tryd.strconv_Itoa v hv.1 hv.2 _ (by assumption)).mono ?_; rintro e w2 ⟨rfl, k, os, rfl⟩))
    go_ret2
    refine ⟨?_, hB.trans ⟨rfl, rfl, rfl, by simp [Go.Sort.grow, World.drewN], fun b hb => ?_⟩⟩
    · have e1 : (Lib.itoa v == s.toList) = decide ((⟨(Lib.itoa v).toArray⟩ : ByteArray) = s) := by
        have h2 := ByteArray.beq_toList (⟨(Lib.itoa v).toArray⟩ : ByteArray) s
        rwa [ByteArray.toList_eq (⟨(Lib.itoa v).toArray⟩ : ByteArray)] at h2
      show _ = Ending.returned (Value.tuple #[Value.int IntKind.i64 v, Value.bool (decide ((⟨(Lib.itoa v).toArray⟩ : ByteArray) = s))])
      rw [← e1]
      rfl
    simp only [Go.Sort.grow, World.drewN]
    rw [Array.getElem?_append_left (Nat.lt_of_lt_of_le hb hB.size)]
  · obtain ⟨tp, p, hvar⟩ := hg.syn
    go_enter Tryd.func137, Tryd.ntmps137
    go_wp2_with (go_at_call 167; refine (Tryd.strconv_Atoi_syntax_var s hs h tp p _ hvar).mono ?_; rintro e w' ⟨N, rfl, _, _, hB⟩)
    go_ret2
    exact ⟨rfl, hB⟩
  · obtain ⟨tp, p, hvar⟩ := hg.rng
    go_enter Tryd.func137, Tryd.ntmps137
    go_wp2_with (go_at_call 167; refine (Tryd.strconv_Atoi_range_var s hs h tp p _ hvar).mono ?_; rintro e w' ⟨N, rfl, _, _, hB⟩)
    go_ret2
    exact ⟨rfl, hB⟩
theorem sp_Number (s : ByteArray) (hs : s.size ≤ 281474976710656) : PSpec Tryd.prog 137 [.d (.str s)] (fun _ => .tuple [.d (.int (numP s).1), .d (.bool (numP s).2)]) none := by
  refine ⟨⟨_, Tryd.func137, rfl, rfl⟩, fun d => rfl, fun _ d => rfl, by simp, fun d w ok vals hgi hok hl hv => ?_⟩
  match vals, hl with
  | ⟨[v]⟩, _ =>
  obtain ⟨rfl, _⟩ := (hv 0 _ v rfl rfl).d_inv.str_inv
  refine (number_calls s hs w hgi).mono ?_
  rintro e w' ⟨rfl, hB⟩
  obtain ⟨h1, h2⟩ := numP_in s
  exact ⟨_, ok, noG, rfl, hB, fun b h => h, fun b h => .inl h, .tuple _ _ rfl (fun i c v hc hv => by
    rcases i with _ | _ | i <;> simp at hc hv <;> subst hc hv
    · exact .d _ _ (.int _ h1 h2)
    · exact .d _ _ (.bool _)), by simp⟩
end Go.Proofs.YtapiiklnnkkdlaaDoor
