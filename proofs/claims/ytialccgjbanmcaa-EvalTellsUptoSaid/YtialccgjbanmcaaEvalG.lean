/- xcref1.E: Of, Call. Printed by a small program. -/
import Derived.Test.YtialccgjbanmcaaEvalF
namespace Go.Proofs.Ytialccgjbanmcaa
open Go.RowKit
attribute [local simp] runD mkRc dstOk guardOk opEff opEff0 effOp pureOp callOp zEff evA constAV frGet memGet startAS frOf isGoCall idIn AS.after nextR opnIds objIds AV.ids idsL AObj.ids frNo memNo opnAny isAny mkVal rdCells wrCells fldAddr idxAddr srcRows litRows toD1 toDs setAt sliceAV optI partAV bldAV fillAV binAV binI AV.cells callEff calleeOf frKill memKill AV.kill AObj.kill AV.has AV.hasL Op.operands Call.operands keepF keepM viewIds cChk renOf moGet moWs moQ cEff moLike moHave AV.ren renL AObj.ren AObj.like kept startC moMem AV.frz frz1 frzL frSub memSub frzs AS.frz frFrz memFrz AObj.frz takeMap takeLen bleF Nat.ble_eq memAny objAny mapOp D.keyOk rowAV valRow extOp wrapOp phO frLow memLow memLow1 objLow memEmpty Low LowL
set_option linter.unusedVariables false
set_option linter.unusedSimpArgs false

def OfE (l : List Fn) (n N : Nat) : Prop := ∀ (t : Tm) (env : Env) (names : List ByteArray) (deep fuel : Int), t.sz < N → t.Ok → t.wrong (arOf l) names deep = 0 → CovE env names → EnvF env → 0 ≤ fuel → fuel ≤ 300 →
  CSpec Try.prog 57 [.ptr 1000 0, tmAV t, .mp 1001] [(1000, refE l fuel (40 - n) 0), (1001, mapO env)] (vlP (evT false (evCall false l n) t env fuel).1) [(1000, refE l (evT false (evCall false l n) t env fuel).2.1 (40 - n) (evT false (evCall false l n) t env fuel).2.2), (1001, mapO env)]
def CallR (l : List Fn) (n : Nat) : Prop := ∀ (name : ByteArray) (vs : List Vl) (fuel : Int), (∀ v ∈ vs, v.Fine) → 0 ≤ fuel → fuel ≤ 300 →
  CSpec Try.prog 39 [.ptr 1000 0, .d (.str name), vlsAV vs] [(1000, refE l fuel (40 - n) 0)] (vlP (evCall false l n name vs fuel).1) [(1000, refE l (evCall false l n name vs fuel).2.1 (40 - n) (evCall false l n name vs fuel).2.2)]
theorem afterL_err {C : CallF} {k n : Int} {a : ByteArray} {o : OutL} {M : Vl → Int → Out} (h : o.2.2 ≠ 0) : afterL false C k n a o M = (zeroV, o.2.1, o.2.2) := by
  unfold afterL
  split
  · rw [if_neg (by rintro (e | e); · cases e
                   · exact h e)]
  · first | rfl | exact if_pos h
theorem bindE_app (ws : List ByteArray) (vs : List Vl) (env : Env) : bindE ws vs env = bindE ws vs [] ++ env := by simp [bindE]
theorem find_hit {l : List Fn} (h : l.Pairwise fun x y => x.name ≠ y.name) {i : Nat} {x : Fn} (hx : l[i]? = some x) : l.find? (fun y => eqB y.name x.name) = some x := by
  rw [List.find?_eq_some_iff_getElem]
  obtain ⟨hi, hxi⟩ := List.getElem?_eq_some_iff.1 hx
  refine ⟨eqB_self _, i, hi, hxi, fun j hj => ?_⟩
  rw [eqB_ne]
  · rfl
  · have := List.pairwise_iff_getElem.1 h j i (by omega) hi hj
    rw [hxi] at this
    exact this
theorem evCall_no {g : Bool} {l : List Fn} {name : ByteArray} {vs : List Vl} (h : ∀ y ∈ l, ¬ (y.name = name ∧ y.params.length = vs.length)) (m : Nat) (fuel : Int) : evCall g l m name vs fuel = (zeroV, fuel, 6) := by
  cases hf : l.find? (fun x => eqB x.name name) with
  | none => exact evCall_none hf m vs fuel
  | some x =>
    refine evCall_bad hf m vs fuel fun e => ?_
    have h1 := List.find?_some hf
    exact h x (List.mem_of_find?_eq_some hf) ⟨eqB_iff.1 h1, e⟩

set_option maxRecDepth 20000 in
set_option maxHeartbeats 16000000 in
theorem callR_step (l : List Fn) (m : Nat) (hl : l.length ≤ 879609302220) (hok : ∀ x ∈ l, x.body.Ok) (hr : ∀ x ∈ l, x.Right (arOf l)) (hone : l.Pairwise fun x y => x.name ≠ y.name) (hm : m ≤ 40) (ih : ∀ n, m = n + 1 → ∀ N, OfE l n N) : CallR l m := by
  intro name vs fuel hvs hf0 hf1
  obtain ⟨c, hcd⟩ : ∃ c : Int, c = 40 - m := ⟨_, rfl⟩
  rw [← hcd]
  refine CSpec.of Try.func39 rfl rfl (Nat.le_of_ble_eq_true rfl) ?_
  show AWp _ _ (endC _ Try.f39 _ _) (startC 100 _ _)
  repeat (first | refine AWp.seq ?_ | refine AWp.block ?_)
  apply AWp.reg [] []
  · conv => lhs; simp [Tm.row, Tm.rows_eq, Cs.rows_eq, Vl.row, Vl.rows_eq, Vl.con, Vl.n, Vl.kids]
  · (repeat' apply And.intro) <;> first | omega | assumption | trivial | (simp [inI, maxLen]; done) | (simp [inI, maxLen]; omega)
  repeat (first | refine AWp.seq ?_ | refine AWp.block ?_)
  apply AWp.reg [] []
  · conv => lhs; simp [Tm.row, Tm.rows_eq, Cs.rows_eq, Vl.row, Vl.rows_eq, Vl.con, Vl.n, Vl.kids]
  · (repeat' apply And.intro) <;> first | omega | assumption | trivial | (simp [inI, maxLen]; done) | (simp [inI, maxLen]; omega)
  repeat (first | refine AWp.seq ?_ | refine AWp.block ?_)
  refine AWp.loop (σ := fun u : {u : Nat // u ≤ l.length ∧ ∀ y ∈ l.take u, ¬ (y.name = name ∧ y.params.length = vs.length)} => ⟨100, [(0, .ptr 1000 0), (1, .d (.str name)), (2, .d (.sl (vs.map Vl.row))), (6, .ptr 6 0), (16, .d (.sl (l.map Fn.row))), (17, .d (.int (l.length : Int))), (18, .d (.int u.1))], [(6, some (.blk 26 [.d (.bool false), .d (.int 0), .lit (.slice none 0 0)])), (1000, some (.blk 72 [.d (.sl (l.map Fn.row)), .d (.int fuel), .d (.int c), .d (.int 0)]))]⟩)
    (μ := fun u => l.length - u.1) ⟨0, ⟨Nat.zero_le _, (by simp)⟩⟩ (Le.sub (by simp) (by simp)) (fun ⟨i, ⟨hi2, hw⟩⟩ => ?_)
  dsimp only
  repeat (first | refine AWp.seq ?_ | refine AWp.block ?_)
  apply AWp.reg [] []
  · conv => lhs; simp [Tm.row, Tm.rows_eq, Cs.rows_eq, Vl.row, Vl.rows_eq, Vl.con, Vl.n, Vl.kids]
  · (repeat' apply And.intro) <;> first | omega | assumption | trivial | (simp [inI, maxLen]; done) | (simp [inI, maxLen]; omega)
  repeat (first | refine AWp.seq ?_ | refine AWp.block ?_)
  refine AWp.cond rfl (fun hc => ?_) (fun hc => ?_)
  · have hi1 : i < l.length := by have := of_decide_eq_true hc; omega
    clear hc
    have h1x : l[i]? = some l[i] := List.getElem?_eq_getElem hi1
    have hmx : l[i] ∈ l := List.getElem_mem hi1
    have hdx : l.drop i = l[i] :: l.drop (i + 1) := List.drop_eq_getElem_cons hi1
    generalize l[i] = x at h1x hmx hdx
    obtain ⟨xg, xps, ⟨xk, xn, xa, xb, xvs, xxs, xcs⟩⟩ := x
    obtain ⟨P, hP⟩ : ∃ P : Int, (xps.length : Int) = P := ⟨_, rfl⟩
    obtain ⟨V, hV⟩ : ∃ V : Int, (vs.length : Int) = V := ⟨_, rfl⟩
    refine AWp.skip ?_
    repeat (first | refine AWp.seq ?_ | refine AWp.block ?_)
    apply AWp.reg [] []
    · conv => lhs; simp [Tm.row, Tm.rows_eq, Cs.rows_eq, Vl.row, Vl.rows_eq, Vl.con, Vl.n, Vl.kids, h1x, Fn.row, hP, hV]
    · (repeat' apply And.intro) <;> first | omega | assumption | trivial | (simp [inI, maxLen]; done) | (simp [inI, maxLen]; omega)
    by_cases q1 : xg = name
    · by_cases q2 : P = V
      · repeat (first | refine AWp.seq ?_ | refine AWp.block ?_)
        apply AWp.reg [] []
        · conv => lhs; simp [Tm.row, Tm.rows_eq, Cs.rows_eq, Vl.row, Vl.rows_eq, Vl.con, Vl.n, Vl.kids, h1x, Fn.row, hP, hV, q1, q2]
        · (repeat' apply And.intro) <;> first | omega | assumption | trivial | (simp [inI, maxLen]; done) | (simp [inI, maxLen]; omega)
        repeat (first | refine AWp.seq ?_ | refine AWp.block ?_)
        refine AWp.cond rfl (fun hc => ?_) (fun hc => ?_)
        · cases hc
        refine AWp.skip ?_
        subst q1
        have hPV : xps.length = vs.length := by omega
        have hfd := find_hit hone h1x
        dsimp only at hfd
        have hright := hr _ hmx
        have hxok := hok _ hmx
        have hp6 := hright.params
        dsimp only at hp6
        by_cases q3 : fuel < 1
        · repeat (first | refine AWp.seq ?_ | refine AWp.block ?_)
          apply AWp.reg [] []
          · conv => lhs; simp [Tm.row, Tm.rows_eq, Cs.rows_eq, Vl.row, Vl.rows_eq, Vl.con, Vl.n, Vl.kids, h1x, Fn.row, hP, hV, q2, q3]
          · (repeat' apply And.intro) <;> first | omega | assumption | trivial | (simp [inI, maxLen]; done) | (simp [inI, maxLen]; omega)
          repeat (first | refine AWp.seq ?_ | refine AWp.block ?_)
          refine AWp.cond rfl (fun hc => ?_) (fun hc => ?_)
          rotate_left
          · cases hc
          obtain rfl : fuel = 0 := by omega
          rw [evCall_dry hfd m vs 0 hPV rfl]
          repeat (first | refine AWp.seq ?_ | refine AWp.block ?_)
          apply AWp.reg [] []
          · conv => lhs; simp [Tm.row, Tm.rows_eq, Cs.rows_eq, Vl.row, Vl.rows_eq, Vl.con, Vl.n, Vl.kids, h1x, Fn.row, hP, hV, q2, q3]
          · (repeat' apply And.intro) <;> first | omega | assumption | trivial | (simp [inI, maxLen]; done) | (simp [inI, maxLen]; omega)
          repeat (first | refine AWp.seq ?_ | refine AWp.block ?_)
          apply AWp.reg [] []
          · conv => lhs; simp [Tm.row, Tm.rows_eq, Cs.rows_eq, Vl.row, Vl.rows_eq, Vl.con, Vl.n, Vl.kids, h1x, Fn.row, hP, hV, q2, q3]
          · (repeat' apply And.intro) <;> first | omega | assumption | trivial | (simp [inI, maxLen]; done) | (simp [inI, maxLen]; omega)
          refine AWp.ret ?_
          try dsimp only [thenQ, blockQ]
          apply endC.ret
          · rfl
          · conv => lhs; simp [resAV, Try.results39]
          · rfl
          · simp [moEnd, memGet]
        repeat (first | refine AWp.seq ?_ | refine AWp.block ?_)
        apply AWp.reg [] []
        · conv => lhs; simp [Tm.row, Tm.rows_eq, Cs.rows_eq, Vl.row, Vl.rows_eq, Vl.con, Vl.n, Vl.kids, h1x, Fn.row, hP, hV, q2, q3]
        · (repeat' apply And.intro) <;> first | omega | assumption | trivial | (simp [inI, maxLen]; done) | (simp [inI, maxLen]; omega)
        repeat (first | refine AWp.seq ?_ | refine AWp.block ?_)
        refine AWp.cond rfl (fun hc => ?_) (fun hc => ?_)
        · cases hc
        refine AWp.skip ?_
        by_cases q4 : 40 ≤ c
        · repeat (first | refine AWp.seq ?_ | refine AWp.block ?_)
          apply AWp.reg [] []
          · conv => lhs; simp [Tm.row, Tm.rows_eq, Cs.rows_eq, Vl.row, Vl.rows_eq, Vl.con, Vl.n, Vl.kids, h1x, Fn.row, hP, hV, q2, q3, q4]
          · (repeat' apply And.intro) <;> first | omega | assumption | trivial | (simp [inI, maxLen]; done) | (simp [inI, maxLen]; omega)
          repeat (first | refine AWp.seq ?_ | refine AWp.block ?_)
          refine AWp.cond rfl (fun hc => ?_) (fun hc => ?_)
          rotate_left
          · cases hc
          obtain rfl : m = 0 := by omega
          rw [evCall_deep hfd hPV (by omega)]
          repeat (first | refine AWp.seq ?_ | refine AWp.block ?_)
          apply AWp.reg [] []
          · conv => lhs; simp [Tm.row, Tm.rows_eq, Cs.rows_eq, Vl.row, Vl.rows_eq, Vl.con, Vl.n, Vl.kids, h1x, Fn.row, hP, hV, q2, q3, q4]
          · (repeat' apply And.intro) <;> first | omega | assumption | trivial | (simp [inI, maxLen]; done) | (simp [inI, maxLen]; omega)
          repeat (first | refine AWp.seq ?_ | refine AWp.block ?_)
          apply AWp.reg [] []
          · conv => lhs; simp [Tm.row, Tm.rows_eq, Cs.rows_eq, Vl.row, Vl.rows_eq, Vl.con, Vl.n, Vl.kids, h1x, Fn.row, hP, hV, q2, q3, q4]
          · (repeat' apply And.intro) <;> first | omega | assumption | trivial | (simp [inI, maxLen]; done) | (simp [inI, maxLen]; omega)
          refine AWp.ret ?_
          try dsimp only [thenQ, blockQ]
          apply endC.ret
          · rfl
          · conv => lhs; simp [resAV, Try.results39]
          · rfl
          · simp [moEnd, memGet]
        repeat (first | refine AWp.seq ?_ | refine AWp.block ?_)
        apply AWp.reg [] []
        · conv => lhs; simp [Tm.row, Tm.rows_eq, Cs.rows_eq, Vl.row, Vl.rows_eq, Vl.con, Vl.n, Vl.kids, h1x, Fn.row, hP, hV, q2, q3, q4]
        · (repeat' apply And.intro) <;> first | omega | assumption | trivial | (simp [inI, maxLen]; done) | (simp [inI, maxLen]; omega)
        repeat (first | refine AWp.seq ?_ | refine AWp.block ?_)
        refine AWp.cond rfl (fun hc => ?_) (fun hc => ?_)
        · cases hc
        refine AWp.skip ?_
        obtain ⟨n, rfl⟩ : ∃ n, m = n + 1 := ⟨m - 1, by omega⟩
        rw [evCall_go hfd hPV (by omega)]
        have hx := ih n rfl _ (.mk xk xn xa xb xvs xxs xcs) (bindE xps vs []) xps 0 (fuel - 1) (Nat.lt_succ_self _) hxok hright.wrong (by have := CovE.bind (env := []) (names := []) (fun s hs => by cases hs) hPV; simpa using this) (EnvF.bind (fun p hp => by cases hp) hvs _) (by omega) (by omega)
        obtain ⟨c1, hc1⟩ : ∃ c1 : Int, 40 - (n : Int) = c1 := ⟨_, rfl⟩
        have hcc : c + 1 = c1 := by omega
        have hcc2 : c1 - 1 = c := by omega
        rw [hc1] at hx
        generalize evT false (evCall false l n) (.mk xk xn xa xb xvs xxs xcs) (bindE xps vs []) (fuel - 1) = o at hx ⊢
        obtain ⟨⟨uc, un, uks⟩, f2, e2⟩ := o
        dsimp only at hx
        obtain ⟨f1, hf1d⟩ : ∃ f1, fuel - 1 = f1 := ⟨_, rfl⟩
        rw [hf1d] at hx
        repeat (first | refine AWp.seq ?_ | refine AWp.block ?_)
        apply AWp.reg [] []
        · conv => lhs; simp [Tm.row, Tm.rows_eq, Cs.rows_eq, Vl.row, Vl.rows_eq, Vl.con, Vl.n, Vl.kids, h1x, Fn.row, hP, hV, q2, q3, q4]
        · (repeat' apply And.intro) <;> first | omega | assumption | trivial | (simp [inI, maxLen]; done) | (simp [inI, maxLen]; omega)
        repeat (first | refine AWp.seq ?_ | refine AWp.block ?_)
        apply AWp.reg [] []
        · conv => lhs; simp [Tm.row, Tm.rows_eq, Cs.rows_eq, Vl.row, Vl.rows_eq, Vl.con, Vl.n, Vl.kids, h1x, Fn.row, hP, hV, hcc, hcc2, hf1d, q2, q3, q4]
        · (repeat' apply And.intro) <;> first | omega | assumption | trivial | (simp [inI, maxLen]; done) | (simp [inI, maxLen]; omega)
        repeat (first | refine AWp.seq ?_ | refine AWp.block ?_)
        apply AWp.reg [] []
        · conv => lhs; simp [Tm.row, Tm.rows_eq, Cs.rows_eq, Vl.row, Vl.rows_eq, Vl.con, Vl.n, Vl.kids, h1x, Fn.row, hP, hV, hcc, hcc2, hf1d, q2, q3, q4]
        · (repeat' apply And.intro) <;> first | omega | assumption | trivial | (simp [inI, maxLen]; done) | (simp [inI, maxLen]; omega)
        repeat (first | refine AWp.seq ?_ | refine AWp.block ?_)
        apply AWp.reg [] []
        · conv => lhs; simp [Tm.row, Tm.rows_eq, Cs.rows_eq, Vl.row, Vl.rows_eq, Vl.con, Vl.n, Vl.kids, h1x, Fn.row, hP, hV, hcc, hcc2, hf1d, q2, q3, q4]
        · (repeat' apply And.intro) <;> first | omega | assumption | trivial | (simp [inI, maxLen]; done) | (simp [inI, maxLen]; omega)
        repeat (first | refine AWp.seq ?_ | refine AWp.block ?_)
        refine AWp.loop (σ := fun u : {u : Nat // u ≤ xps.length} => ⟨100, [(0, .ptr 1000 0), (2, .d (.sl (vs.map Vl.row))), (6, .ptr 6 0), (8, .ptr 8 0), (9, .mp 66), (68, .d (strsD xps)), (69, .d (.int V)), (70, .d (.int u.1))], [(6, some (.blk 26 [.d (.bool false), .d (.int 0), .lit (.slice none 0 0)])), (8, some (.blk 56 [.d (.str xg), .d (strsD xps), .d (.int xk), .d (.int xn), .d (.str xa), .d (.str xb), .d (strsD xvs), .d (.sl (xxs.map Tm.row)), .d (.sl (xcs.map Cs.row))])), (66, some (.map true true 3 (entE (bindE (xps.take u.1) (vs.take u.1) [])))), (1000, some (.blk 72 [.d (.sl (l.map Fn.row)), .d (.int f1), .d (.int c1), .d (.int 0)]))]⟩)
          (μ := fun u => xps.length - u.1) ⟨0, Nat.zero_le _⟩ (Le.sub (by simp [bindE_nil, entE, hP, hV]) (by simp [bindE_nil, entE, hP, hV])) (fun ⟨j, hi15⟩ => ?_)
        dsimp only
        repeat (first | refine AWp.seq ?_ | refine AWp.block ?_)
        apply AWp.reg [] []
        · conv => lhs; simp [Tm.row, Tm.rows_eq, Cs.rows_eq, Vl.row, Vl.rows_eq, Vl.con, Vl.n, Vl.kids, h1x, Fn.row, hP, hV, hcc, hcc2, hf1d, q2, q3, q4]
        · (repeat' apply And.intro) <;> first | omega | assumption | trivial | (simp [inI, maxLen]; done) | (simp [inI, maxLen]; omega)
        repeat (first | refine AWp.seq ?_ | refine AWp.block ?_)
        refine AWp.cond rfl (fun hc => ?_) (fun hc => ?_)
        · have hi1 : j < xps.length := by have := of_decide_eq_true hc; omega
          clear hc
          have h1x : xps[j]? = some xps[j] := List.getElem?_eq_getElem hi1
          have hmx : xps[j] ∈ xps := List.getElem_mem hi1
          have hdx : xps.drop j = xps[j] :: xps.drop (j + 1) := List.drop_eq_getElem_cons hi1
          generalize xps[j] = x at h1x hmx hdx
          have h2y : vs[j]? = some (vs[j]'(by omega)) := List.getElem?_eq_getElem (by omega)
          generalize vs[j]'(by omega) = y at h2y
          have hsn := bindE_snoc h1x h2y []
          generalize bindE (xps.take j) (vs.take j) [] = E at hsn ⊢
          obtain ⟨zc, zn, zks⟩ := y
          refine AWp.skip ?_
          repeat (first | refine AWp.seq ?_ | refine AWp.block ?_)
          apply AWp.reg [] []
          · conv => lhs; simp [Tm.row, Tm.rows_eq, Cs.rows_eq, Vl.row, Vl.rows_eq, Vl.con, Vl.n, Vl.kids, h1x, Fn.row, hP, hV, hcc, hcc2, hf1d, h2y, q2, q3, q4]
          · (repeat' apply And.intro) <;> first | omega | assumption | trivial | (simp [inI, maxLen]; done) | (simp [inI, maxLen]; omega)
          repeat (first | refine AWp.seq ?_ | refine AWp.block ?_)
          apply AWp.reg [] []
          · conv => lhs; simp [Tm.row, Tm.rows_eq, Cs.rows_eq, Vl.row, Vl.rows_eq, Vl.con, Vl.n, Vl.kids, h1x, Fn.row, hP, hV, hcc, hcc2, hf1d, h2y, q2, q3, q4]
          · (repeat' apply And.intro) <;> first | omega | assumption | trivial | (simp [inI, maxLen]; done) | (simp [inI, maxLen]; omega)
          repeat (first | refine AWp.seq ?_ | refine AWp.block ?_)
          apply AWp.reg [] []
          · conv => lhs; simp [Tm.row, Tm.rows_eq, Cs.rows_eq, Vl.row, Vl.rows_eq, Vl.con, Vl.n, Vl.kids, h1x, Fn.row, hP, hV, hcc, hcc2, hf1d, h2y, q2, q3, q4]
          · (repeat' apply And.intro) <;> first | omega | assumption | trivial | (simp [inI, maxLen]; done) | (simp [inI, maxLen]; omega)
          refine ⟨⟨j + 1, hi1⟩, by simp; omega, ?_⟩
          dsimp only
          rw [hsn]
          exact Le.sub (by simp [entE, Vl.row, Vl.rows_eq, hP, hV]) (by simp [entE, Vl.row, Vl.rows_eq, hP, hV])
        have hi1 : j = xps.length := by have := of_decide_eq_false hc; omega
        subst hi1
        clear hc
        rw [List.take_length, show vs.take xps.length = vs by rw [hPV, List.take_length]]
        obtain ⟨E, hE⟩ : ∃ E, E = bindE xps vs [] := ⟨_, rfl⟩
        rw [← hE] at hx ⊢
        refine AWp.exit ?_
        repeat (first | refine AWp.seq ?_ | refine AWp.block ?_)
        apply AWp.reg [] [.c [(1001, 66)] [.ptr 1000 0, .agg [.d (.int xk), .d (.int xn), .d (.str xa), .d (.str xb), .d (strsD xvs), .d (.sl (xxs.map Tm.row)), .d (.sl (xcs.map Cs.row))], .mp 1001] [(1000, .blk 72 [.d (.sl (l.map Fn.row)), .d (.int f1), .d (.int c1), .d (.int 0)]), (1001, .map true true 3 (entE E))] (.agg [.d (.bool uc), .d (.int un), .d (.sl (uks.map Vl.row))]) [(1000, .blk 72 [.d (.sl (l.map Fn.row)), .d (.int f2), .d (.int c1), .d (.int e2)]), (1001, .map true true 3 (entE E))]]
        · conv => lhs; simp [Tm.row, Tm.rows_eq, Cs.rows_eq, Vl.row, Vl.rows_eq, Vl.con, Vl.n, Vl.kids, h1x, Fn.row, hP, hV, hcc, hcc2, hf1d, q2, q3, q4]
        · (repeat' apply And.intro) <;> first | omega | assumption | trivial | (simp [inI, maxLen]; done) | (simp [inI, maxLen]; omega)
        repeat (first | refine AWp.seq ?_ | refine AWp.block ?_)
        apply AWp.reg [] []
        · conv => lhs; simp [Tm.row, Tm.rows_eq, Cs.rows_eq, Vl.row, Vl.rows_eq, Vl.con, Vl.n, Vl.kids, h1x, Fn.row, hP, hV, hcc, hcc2, hf1d, q2, q3, q4]
        · (repeat' apply And.intro) <;> first | omega | assumption | trivial | (simp [inI, maxLen]; done) | (simp [inI, maxLen]; omega)
        repeat (first | refine AWp.seq ?_ | refine AWp.block ?_)
        apply AWp.reg [] []
        · conv => lhs; simp [Tm.row, Tm.rows_eq, Cs.rows_eq, Vl.row, Vl.rows_eq, Vl.con, Vl.n, Vl.kids, h1x, Fn.row, hP, hV, hcc, hcc2, hf1d, q2, q3, q4]
        · (repeat' apply And.intro) <;> first | omega | assumption | trivial | (simp [inI, maxLen]; done) | (simp [inI, maxLen]; omega)
        refine AWp.ret ?_
        try dsimp only [thenQ, blockQ]
        apply endC.ret
        · rfl
        · conv => lhs; simp [resAV, Try.results39]
        · rfl
        · simp [moEnd, memGet]
      repeat (first | refine AWp.seq ?_ | refine AWp.block ?_)
      apply AWp.reg [] []
      · conv => lhs; simp [Tm.row, Tm.rows_eq, Cs.rows_eq, Vl.row, Vl.rows_eq, Vl.con, Vl.n, Vl.kids, h1x, Fn.row, hP, hV, q1, q2]
      · (repeat' apply And.intro) <;> first | omega | assumption | trivial | (simp [inI, maxLen]; done) | (simp [inI, maxLen]; omega)
      repeat (first | refine AWp.seq ?_ | refine AWp.block ?_)
      refine AWp.cond rfl (fun hc => ?_) (fun hc => ?_)
      rotate_left
      · cases hc
      refine AWp.exit ?_
      repeat (first | refine AWp.seq ?_ | refine AWp.block ?_)
      apply AWp.reg [] []
      · conv => lhs; simp [Tm.row, Tm.rows_eq, Cs.rows_eq, Vl.row, Vl.rows_eq, Vl.con, Vl.n, Vl.kids, h1x, Fn.row, hP, hV, q1, q2]
      · (repeat' apply And.intro) <;> first | omega | assumption | trivial | (simp [inI, maxLen]; done) | (simp [inI, maxLen]; omega)
      have hw2 : ∀ y ∈ l.take (i + 1), ¬ (y.name = name ∧ y.params.length = vs.length) := by
        rw [List.take_add_one, h1x]
        intro y hy
        rcases List.mem_append.1 hy with hy | hy
        · exact hw y hy
        · simp at hy
          subst hy
          rintro ⟨e1, e2⟩
          dsimp only at e2
          omega
      refine ⟨⟨i + 1, hi1, hw2⟩, by simp; omega, ?_⟩
      dsimp only
      exact Le.sub (by simp [hP, hV]) (by simp [hP, hV])
    repeat (first | refine AWp.seq ?_ | refine AWp.block ?_)
    apply AWp.reg [] []
    · conv => lhs; simp [Tm.row, Tm.rows_eq, Cs.rows_eq, Vl.row, Vl.rows_eq, Vl.con, Vl.n, Vl.kids, h1x, Fn.row, hP, hV, q1]
    · (repeat' apply And.intro) <;> first | omega | assumption | trivial | (simp [inI, maxLen]; done) | (simp [inI, maxLen]; omega)
    repeat (first | refine AWp.seq ?_ | refine AWp.block ?_)
    refine AWp.cond rfl (fun hc => ?_) (fun hc => ?_)
    rotate_left
    · cases hc
    refine AWp.exit ?_
    repeat (first | refine AWp.seq ?_ | refine AWp.block ?_)
    apply AWp.reg [] []
    · conv => lhs; simp [Tm.row, Tm.rows_eq, Cs.rows_eq, Vl.row, Vl.rows_eq, Vl.con, Vl.n, Vl.kids, h1x, Fn.row, hP, hV, q1]
    · (repeat' apply And.intro) <;> first | omega | assumption | trivial | (simp [inI, maxLen]; done) | (simp [inI, maxLen]; omega)
    have hw2 : ∀ y ∈ l.take (i + 1), ¬ (y.name = name ∧ y.params.length = vs.length) := by
      rw [List.take_add_one, h1x]
      intro y hy
      rcases List.mem_append.1 hy with hy | hy
      · exact hw y hy
      · simp at hy
        subst hy
        rintro ⟨e1, e2⟩
        exact q1 e1
    refine ⟨⟨i + 1, hi1, hw2⟩, by simp; omega, ?_⟩
    dsimp only
    exact Le.sub (by simp [hP, hV]) (by simp [hP, hV])
  have hi1 : i = l.length := by have := of_decide_eq_false hc; omega
  subst hi1
  clear hc
  rw [List.take_length] at hw
  rw [evCall_no hw]
  refine AWp.exit ?_
  repeat (first | refine AWp.seq ?_ | refine AWp.block ?_)
  apply AWp.reg [] []
  · conv => lhs; simp [Tm.row, Tm.rows_eq, Cs.rows_eq, Vl.row, Vl.rows_eq, Vl.con, Vl.n, Vl.kids]
  · (repeat' apply And.intro) <;> first | omega | assumption | trivial | (simp [inI, maxLen]; done) | (simp [inI, maxLen]; omega)
  repeat (first | refine AWp.seq ?_ | refine AWp.block ?_)
  apply AWp.reg [] []
  · conv => lhs; simp [Tm.row, Tm.rows_eq, Cs.rows_eq, Vl.row, Vl.rows_eq, Vl.con, Vl.n, Vl.kids]
  · (repeat' apply And.intro) <;> first | omega | assumption | trivial | (simp [inI, maxLen]; done) | (simp [inI, maxLen]; omega)
  refine AWp.ret ?_
  try dsimp only [thenQ, blockQ]
  apply endC.ret
  · rfl
  · conv => lhs; simp [resAV, Try.results39]
  · rfl
  · simp [moEnd, memGet]

set_option maxRecDepth 20000 in
set_option maxHeartbeats 16000000 in
theorem cs_Of_err (l : List Fn) (t : Tm) (env : Env) (f c e : Int) (he : ¬ e = 0) : CSpec Try.prog 57 [.ptr 1000 0, tmAV t, .mp 1001] [(1000, refE l f c e), (1001, mapO env)] (vlAV zeroV) [(1000, refE l f c e), (1001, mapO env)] := by
  obtain ⟨tk, tn, ta, tb, tvs, txs, tcs⟩ := t
  refine CSpec.of Try.func57 rfl rfl (Nat.le_of_ble_eq_true rfl) ?_
  show AWp _ _ (endC _ Try.f57 _ _) (startC 190 _ _)
  repeat (first | refine AWp.seq ?_ | refine AWp.block ?_)
  apply AWp.reg [] []
  · conv => lhs; simp [Tm.row, Tm.rows_eq, Cs.rows_eq, Vl.row, Vl.rows_eq, Vl.con, Vl.n, Vl.kids, he]
  · (repeat' apply And.intro) <;> first | omega | assumption | trivial | (simp [inI, maxLen]; done) | (simp [inI, maxLen]; omega)
  repeat (first | refine AWp.seq ?_ | refine AWp.block ?_)
  apply AWp.reg [] []
  · conv => lhs; simp [Tm.row, Tm.rows_eq, Cs.rows_eq, Vl.row, Vl.rows_eq, Vl.con, Vl.n, Vl.kids, he]
  · (repeat' apply And.intro) <;> first | omega | assumption | trivial | (simp [inI, maxLen]; done) | (simp [inI, maxLen]; omega)
  repeat (first | refine AWp.seq ?_ | refine AWp.block ?_)
  apply AWp.reg [] []
  · conv => lhs; simp [Tm.row, Tm.rows_eq, Cs.rows_eq, Vl.row, Vl.rows_eq, Vl.con, Vl.n, Vl.kids, he]
  · (repeat' apply And.intro) <;> first | omega | assumption | trivial | (simp [inI, maxLen]; done) | (simp [inI, maxLen]; omega)
  repeat (first | refine AWp.seq ?_ | refine AWp.block ?_)
  apply AWp.reg [] []
  · conv => lhs; simp [Tm.row, Tm.rows_eq, Cs.rows_eq, Vl.row, Vl.rows_eq, Vl.con, Vl.n, Vl.kids, he]
  · (repeat' apply And.intro) <;> first | omega | assumption | trivial | (simp [inI, maxLen]; done) | (simp [inI, maxLen]; omega)
  repeat (first | refine AWp.seq ?_ | refine AWp.block ?_)
  refine AWp.cond rfl (fun hc => ?_) (fun hc => ?_)
  rotate_left
  · cases hc
  repeat (first | refine AWp.seq ?_ | refine AWp.block ?_)
  apply AWp.reg [] []
  · conv => lhs; simp [Tm.row, Tm.rows_eq, Cs.rows_eq, Vl.row, Vl.rows_eq, Vl.con, Vl.n, Vl.kids, he]
  · (repeat' apply And.intro) <;> first | omega | assumption | trivial | (simp [inI, maxLen]; done) | (simp [inI, maxLen]; omega)
  refine AWp.ret ?_
  try dsimp only [thenQ, blockQ]
  apply endC.ret
  · rfl
  · conv => lhs; simp [resAV, Try.results57]
  · rfl
  · simp [moEnd, memGet]

set_option maxRecDepth 20000 in
set_option maxHeartbeats 16000000 in
theorem of_step (l : List Fn) (n N : Nat) (hCF : CFine (evCall false l n)) (ih : OfE l n N) (hCall : CallR l n) : OfE l n (N + 1) := by
  intro t env names deep fuel hN hO hwr hcov hF hf0 hf1
  obtain ⟨C, hCd⟩ : ∃ C, C = evCall false l n := ⟨_, rfl⟩
  obtain ⟨c, hcd⟩ : ∃ c : Int, c = 40 - n := ⟨_, rfl⟩
  rw [← hCd] at hCF ⊢
  rw [← hcd]
  obtain ⟨tk, tn, ta, tb, tvs, txs, tcs⟩ := t
  obtain ⟨h1, h2, h3, h4, h5, h6, h7⟩ := wrong_zero hwr
  have hn6 := many_six h4 fun h => (h7 h).2.1
  have hx6 : txs.length ≤ 6 := by omega
  have hxN : ∀ x ∈ txs, x.sz < N := fun x hx => by have := Tm.sz_arg (k := tk) (n := tn) (a := ta) (b := tb) (vs := tvs) (cs := tcs) hx; omega
  have hxOk : ∀ x ∈ txs, x.Ok := fun x hx => Tm.Oks_iff.1 hO.2.2.1 x hx
  obtain ⟨R, hR⟩ : ∃ R, R = evT false C (.mk tk tn ta tb tvs txs tcs) env fuel := ⟨_, rfl⟩
  rw [← hR]
  clear hwr
  refine CSpec.of Try.func57 rfl rfl (Nat.le_of_ble_eq_true rfl) ?_
  show AWp _ _ (endC _ Try.f57 _ _) (startC 190 _ _)
  repeat (first | refine AWp.seq ?_ | refine AWp.block ?_)
  apply AWp.reg [] []
  · conv => lhs; simp [Tm.row, Tm.rows_eq, Cs.rows_eq, Vl.row, Vl.rows_eq, Vl.con, Vl.n, Vl.kids]
  · (repeat' apply And.intro) <;> first | omega | assumption | trivial | (simp [inI, maxLen]; done) | (simp [inI, maxLen]; omega)
  repeat (first | refine AWp.seq ?_ | refine AWp.block ?_)
  apply AWp.reg [] []
  · conv => lhs; simp [Tm.row, Tm.rows_eq, Cs.rows_eq, Vl.row, Vl.rows_eq, Vl.con, Vl.n, Vl.kids]
  · (repeat' apply And.intro) <;> first | omega | assumption | trivial | (simp [inI, maxLen]; done) | (simp [inI, maxLen]; omega)
  repeat (first | refine AWp.seq ?_ | refine AWp.block ?_)
  apply AWp.reg [] []
  · conv => lhs; simp [Tm.row, Tm.rows_eq, Cs.rows_eq, Vl.row, Vl.rows_eq, Vl.con, Vl.n, Vl.kids]
  · (repeat' apply And.intro) <;> first | omega | assumption | trivial | (simp [inI, maxLen]; done) | (simp [inI, maxLen]; omega)
  repeat (first | refine AWp.seq ?_ | refine AWp.block ?_)
  apply AWp.reg [] []
  · conv => lhs; simp [Tm.row, Tm.rows_eq, Cs.rows_eq, Vl.row, Vl.rows_eq, Vl.con, Vl.n, Vl.kids]
  · (repeat' apply And.intro) <;> first | omega | assumption | trivial | (simp [inI, maxLen]; done) | (simp [inI, maxLen]; omega)
  repeat (first | refine AWp.seq ?_ | refine AWp.block ?_)
  refine AWp.cond rfl (fun hc => ?_) (fun hc => ?_)
  · cases hc
  refine AWp.skip ?_
  repeat (first | refine AWp.seq ?_ | refine AWp.block ?_)
  apply AWp.reg [] []
  · conv => lhs; simp [Tm.row, Tm.rows_eq, Cs.rows_eq, Vl.row, Vl.rows_eq, Vl.con, Vl.n, Vl.kids]
  · (repeat' apply And.intro) <;> first | omega | assumption | trivial | (simp [inI, maxLen]; done) | (simp [inI, maxLen]; omega)
  by_cases q1 : tk = 6
  · repeat (first | refine AWp.seq ?_ | refine AWp.block ?_)
    apply AWp.reg [] []
    · conv => lhs; simp [Tm.row, Tm.rows_eq, Cs.rows_eq, Vl.row, Vl.rows_eq, Vl.con, Vl.n, Vl.kids, q1]
    · (repeat' apply And.intro) <;> first | omega | assumption | trivial | (simp [inI, maxLen]; done) | (simp [inI, maxLen]; omega)
    repeat (first | refine AWp.seq ?_ | refine AWp.block ?_)
    refine AWp.cond rfl (fun hc => ?_) (fun hc => ?_)
    · cases hc
    refine AWp.skip ?_
    repeat (first | refine AWp.seq ?_ | refine AWp.block ?_)
    apply AWp.reg [] []
    · conv => lhs; simp [Tm.row, Tm.rows_eq, Cs.rows_eq, Vl.row, Vl.rows_eq, Vl.con, Vl.n, Vl.kids, q1]
    · (repeat' apply And.intro) <;> first | omega | assumption | trivial | (simp [inI, maxLen]; done) | (simp [inI, maxLen]; omega)
    repeat (first | refine AWp.seq ?_ | refine AWp.block ?_)
    apply AWp.reg [] []
    · conv => lhs; simp [Tm.row, Tm.rows_eq, Cs.rows_eq, Vl.row, Vl.rows_eq, Vl.con, Vl.n, Vl.kids, q1]
    · (repeat' apply And.intro) <;> first | omega | assumption | trivial | (simp [inI, maxLen]; done) | (simp [inI, maxLen]; omega)
    repeat (first | refine AWp.seq ?_ | refine AWp.block ?_)
    refine AWp.cond rfl (fun hc => ?_) (fun hc => ?_)
    · cases hc
    repeat (first | refine AWp.seq ?_ | refine AWp.block ?_)
    apply AWp.reg [] []
    · conv => lhs; simp [Tm.row, Tm.rows_eq, Cs.rows_eq, Vl.row, Vl.rows_eq, Vl.con, Vl.n, Vl.kids, q1]
    · (repeat' apply And.intro) <;> first | omega | assumption | trivial | (simp [inI, maxLen]; done) | (simp [inI, maxLen]; omega)
    repeat (first | refine AWp.seq ?_ | refine AWp.block ?_)
    refine AWp.cond rfl (fun hc => ?_) (fun hc => ?_)
    · cases hc
    repeat (first | refine AWp.seq ?_ | refine AWp.block ?_)
    apply AWp.reg [] []
    · conv => lhs; simp [Tm.row, Tm.rows_eq, Cs.rows_eq, Vl.row, Vl.rows_eq, Vl.con, Vl.n, Vl.kids, q1]
    · (repeat' apply And.intro) <;> first | omega | assumption | trivial | (simp [inI, maxLen]; done) | (simp [inI, maxLen]; omega)
    repeat (first | refine AWp.seq ?_ | refine AWp.block ?_)
    refine AWp.cond rfl (fun hc => ?_) (fun hc => ?_)
    · cases hc
    repeat (first | refine AWp.seq ?_ | refine AWp.block ?_)
    apply AWp.reg [] []
    · conv => lhs; simp [Tm.row, Tm.rows_eq, Cs.rows_eq, Vl.row, Vl.rows_eq, Vl.con, Vl.n, Vl.kids, q1]
    · (repeat' apply And.intro) <;> first | omega | assumption | trivial | (simp [inI, maxLen]; done) | (simp [inI, maxLen]; omega)
    repeat (first | refine AWp.seq ?_ | refine AWp.block ?_)
    refine AWp.cond rfl (fun hc => ?_) (fun hc => ?_)
    · cases hc
    repeat (first | refine AWp.seq ?_ | refine AWp.block ?_)
    apply AWp.reg [] []
    · conv => lhs; simp [Tm.row, Tm.rows_eq, Cs.rows_eq, Vl.row, Vl.rows_eq, Vl.con, Vl.n, Vl.kids, q1]
    · (repeat' apply And.intro) <;> first | omega | assumption | trivial | (simp [inI, maxLen]; done) | (simp [inI, maxLen]; omega)
    repeat (first | refine AWp.seq ?_ | refine AWp.block ?_)
    refine AWp.cond rfl (fun hc => ?_) (fun hc => ?_)
    · cases hc
    repeat (first | refine AWp.seq ?_ | refine AWp.block ?_)
    apply AWp.reg [] []
    · conv => lhs; simp [Tm.row, Tm.rows_eq, Cs.rows_eq, Vl.row, Vl.rows_eq, Vl.con, Vl.n, Vl.kids, q1]
    · (repeat' apply And.intro) <;> first | omega | assumption | trivial | (simp [inI, maxLen]; done) | (simp [inI, maxLen]; omega)
    repeat (first | refine AWp.seq ?_ | refine AWp.block ?_)
    refine AWp.cond rfl (fun hc => ?_) (fun hc => ?_)
    rotate_left
    · cases hc
    subst q1
    have hx2 : txs.length = 2 := by
      have h4' := h4
      unfold manyB at h4'
      simp at h4'
      omega
    obtain ⟨y, z, hxs⟩ : ∃ y z, txs = [y, z] := by
      match txs, hx2 with
      | [y, z], _ => exact ⟨y, z, rfl⟩
    have hu0 : txs[0]? = some y := by rw [hxs]; rfl
    have hu0h : txs.head? = some y := by rw [hxs]; rfl
    have hu1 : txs[1]? = some z := by rw [hxs]; rfl
    have hw0 := wrongs_zero h6 0 y hu0
    have hw1 := wrongs_zero h6 1 z hu1
    rw [if_neg (by omega)] at hw0
    rw [if_pos (by omega)] at hw1
    have hy := hxN y (List.mem_of_getElem? hu0)
    have hz := hxN z (List.mem_of_getElem? hu1)
    have ha := ih y env names (deep + 1) fuel hy (hxOk y (List.mem_of_getElem? hu0)) hw0 hcov hF hf0 hf1
    rw [← hCd, ← hcd] at ha
    have hfine := evT_fine (g := false) hCF _ y env names (deep + 1) fuel (Nat.lt_succ_self _) hw0 hF hf0 hf1
    have hRk : R = evLet false C ta [y, z] env fuel := by rw [hR, evT, if_neg (by omega), if_neg (by omega), if_pos rfl, hxs]
    clear hR
    rw [evLet, evIn] at hRk
    generalize evT false C y env fuel = o at ha hfine hRk
    obtain ⟨v, f2, e2⟩ := o
    dsimp only at ha hfine hRk
    have hzz := ih z ((ta, v) :: env) (names ++ [ta]) (deep + 1) f2 hz (hxOk z (List.mem_of_getElem? hu1)) hw1 (hcov.cons ta v) (hF.cons hfine.1 ta) hfine.2.1 hfine.2.2
    rw [← hCd, ← hcd] at hzz
    have hwi := cs_with env [(ta, v)]
    obtain ⟨yk, yn, ya, yb, yvs, yxs, ycs⟩ := y
    obtain ⟨vc, vn, vks⟩ := v
    repeat (first | refine AWp.seq ?_ | refine AWp.block ?_)
    apply AWp.draw [] [.c [] [.ptr 1000 0, .agg [.d (.int yk), .d (.int yn), .d (.str ya), .d (.str yb), .d (strsD yvs), .d (.sl (yxs.map Tm.row)), .d (.sl (ycs.map Cs.row))], .mp 1001] [(1000, .blk 72 [.d (.sl (l.map Fn.row)), .d (.int fuel), .d (.int c), .d (.int 0)]), (1001, .map true true 3 (entE env))] (.agg [.d (.bool vc), .d (.int vn), .d (.sl (vks.map Vl.row))]) [(1000, .blk 72 [.d (.sl (l.map Fn.row)), .d (.int f2), .d (.int c), .d (.int e2)]), (1001, .map true true 3 (entE env))]] mixed
    · conv => lhs; simp [Tm.row, Tm.rows_eq, Cs.rows_eq, Vl.row, Vl.rows_eq, Vl.con, Vl.n, Vl.kids, hu0, hu1, hu0h]
    · kernel_rfl
    · (repeat' apply And.intro) <;> first | omega | assumption | trivial | (simp [inI, maxLen]; done) | (simp [inI, maxLen]; omega)
    by_cases q0 : e2 = 0
    · subst q0
      rw [if_neg (fun e => e rfl)] at hRk
      generalize evT false C z ((ta, Vl.mk vc vn vks) :: env) f2 = o2 at hzz hRk
      obtain ⟨⟨uc, un, uks⟩, f3, e3⟩ := o2
      subst hRk
      simp only [mapO, entE, Vl.row, Vl.rows_eq, List.cons_append, List.nil_append] at hzz hwi
      obtain ⟨zk, zn, za, zb, zvs, zxs, zcs⟩ := z
      repeat (first | refine AWp.seq ?_ | refine AWp.block ?_)
      apply AWp.draw [] [.n [(1000, 1001), (1001, 122), (1002, 5), (500, 401)] [.mp 1001, .ptr 1002 0] [(1000, .map true true 3 (entE env)), (1001, .map true true 3 (D.aput (.str ta) [.bool vc, .int vn, .sl (vks.map Vl.row)] ([]))), (1002, .blk 95 [.mp 1000])] (.mp 500) [(1000, .map true true 3 (entE env)), (1001, .map true true 3 (D.aput (.str ta) [.bool vc, .int vn, .sl (vks.map Vl.row)] ([]))), (1002, .blk 95 [.mp 1000]), (500, .map true true 3 (D.aput (.str ta) [.bool vc, .int vn, .sl (vks.map Vl.row)] (entE env)))] [500], .c [(1001, 401)] [.ptr 1000 0, .agg [.d (.int zk), .d (.int zn), .d (.str za), .d (.str zb), .d (strsD zvs), .d (.sl (zxs.map Tm.row)), .d (.sl (zcs.map Cs.row))], .mp 1001] [(1000, .blk 72 [.d (.sl (l.map Fn.row)), .d (.int f2), .d (.int c), .d (.int 0)]), (1001, .map true true 3 (D.aput (.str ta) [.bool vc, .int vn, .sl (vks.map Vl.row)] (entE env)))] (.agg [.d (.bool uc), .d (.int un), .d (.sl (uks.map Vl.row))]) [(1000, .blk 72 [.d (.sl (l.map Fn.row)), .d (.int f3), .d (.int c), .d (.int e3)]), (1001, .map true true 3 (D.aput (.str ta) [.bool vc, .int vn, .sl (vks.map Vl.row)] (entE env)))]] mixed
      · conv => lhs; simp [Tm.row, Tm.rows_eq, Cs.rows_eq, Vl.row, Vl.rows_eq, Vl.con, Vl.n, Vl.kids, hu0, hu1, hu0h]
      · kernel_rfl
      · (repeat' apply And.intro) <;> first | omega | assumption | trivial | (simp [inI, maxLen]; done) | (simp [inI, maxLen]; omega)
      refine AWp.ret ?_
      try dsimp only [thenQ, blockQ]
      apply endC.ret
      · rfl
      · conv => lhs; simp [resAV, Try.results57]
      · rfl
      · simp [moEnd, memGet]
    rw [if_pos q0] at hRk
    subst hRk
    clear hzz
    have hzz := cs_Of_err l z ((ta, Vl.mk vc vn vks) :: env) f2 c e2 q0
    simp only [mapO, entE, Vl.row, Vl.rows_eq, List.cons_append, List.nil_append] at hzz hwi
    obtain ⟨zk, zn, za, zb, zvs, zxs, zcs⟩ := z
    repeat (first | refine AWp.seq ?_ | refine AWp.block ?_)
    apply AWp.draw [] [.n [(1000, 1001), (1001, 122), (1002, 5), (500, 401)] [.mp 1001, .ptr 1002 0] [(1000, .map true true 3 (entE env)), (1001, .map true true 3 (D.aput (.str ta) [.bool vc, .int vn, .sl (vks.map Vl.row)] ([]))), (1002, .blk 95 [.mp 1000])] (.mp 500) [(1000, .map true true 3 (entE env)), (1001, .map true true 3 (D.aput (.str ta) [.bool vc, .int vn, .sl (vks.map Vl.row)] ([]))), (1002, .blk 95 [.mp 1000]), (500, .map true true 3 (D.aput (.str ta) [.bool vc, .int vn, .sl (vks.map Vl.row)] (entE env)))] [500], .c [(1001, 401)] [.ptr 1000 0, .agg [.d (.int zk), .d (.int zn), .d (.str za), .d (.str zb), .d (strsD zvs), .d (.sl (zxs.map Tm.row)), .d (.sl (zcs.map Cs.row))], .mp 1001] [(1000, .blk 72 [.d (.sl (l.map Fn.row)), .d (.int f2), .d (.int c), .d (.int e2)]), (1001, .map true true 3 (D.aput (.str ta) [.bool vc, .int vn, .sl (vks.map Vl.row)] (entE env)))] (.agg [.d (.bool false), .d (.int 0), .d (.sl (([] : List Vl).map Vl.row))]) [(1000, .blk 72 [.d (.sl (l.map Fn.row)), .d (.int f2), .d (.int c), .d (.int e2)]), (1001, .map true true 3 (D.aput (.str ta) [.bool vc, .int vn, .sl (vks.map Vl.row)] (entE env)))]] mixed
    · conv => lhs; simp [Tm.row, Tm.rows_eq, Cs.rows_eq, Vl.row, Vl.rows_eq, Vl.con, Vl.n, Vl.kids, hu0, hu1, hu0h, q0]
    · kernel_rfl
    · (repeat' apply And.intro) <;> first | omega | assumption | trivial | (simp [inI, maxLen]; done) | (simp [inI, maxLen]; omega)
    refine AWp.ret ?_
    try dsimp only [thenQ, blockQ]
    apply endC.ret
    · rfl
    · conv => lhs; simp [resAV, Try.results57]
    · rfl
    · simp [moEnd, memGet]
  repeat (first | refine AWp.seq ?_ | refine AWp.block ?_)
  apply AWp.reg [] []
  · conv => lhs; simp [Tm.row, Tm.rows_eq, Cs.rows_eq, Vl.row, Vl.rows_eq, Vl.con, Vl.n, Vl.kids, q1]
  · (repeat' apply And.intro) <;> first | omega | assumption | trivial | (simp [inI, maxLen]; done) | (simp [inI, maxLen]; omega)
  repeat (first | refine AWp.seq ?_ | refine AWp.block ?_)
  refine AWp.cond rfl (fun hc => ?_) (fun hc => ?_)
  rotate_left
  · cases hc
  have hxw : ∀ x ∈ txs, x.wrong (arOf l) names (deep + 1) = 0 := fun x hx => by
    obtain ⟨j, hj⟩ := List.mem_iff_getElem?.1 hx
    have := wrongs_zero h6 j x hj
    rw [if_neg (by omega)] at this
    exact this
  repeat (first | refine AWp.seq ?_ | refine AWp.block ?_)
  apply AWp.reg [] []
  · conv => lhs; simp [Tm.row, Tm.rows_eq, Cs.rows_eq, Vl.row, Vl.rows_eq, Vl.con, Vl.n, Vl.kids, q1]
  · (repeat' apply And.intro) <;> first | omega | assumption | trivial | (simp [inI, maxLen]; done) | (simp [inI, maxLen]; omega)
  repeat (first | refine AWp.seq ?_ | refine AWp.block ?_)
  refine AWp.le (Le.low [400] [] (fr := [(3, .ptr 3 0), (4, .ptr 4 0), (5, .ptr 5 0), (6, .ptr 6 0), (7, .clo 66 [.ptr 3 0]), (8, .clo 67 [.ptr 5 0]), (9, .arr 400 0 ([] : List Vl).length), (32, .d (.sl (txs.map Tm.row))), (33, .d (.int (txs.length : Int))), (34, .d (.int 0))]) (mem := [(3, some (.blk 70 [.ptr 1000 0])), (4, some (.blk 41 [.d (.int tk), .d (.int tn), .d (.str ta), .d (.str tb), .d (strsD tvs), .d (.sl (txs.map Tm.row)), .d (.sl (tcs.map Cs.row))])), (5, some (.blk 95 [.mp 1001])), (6, some (.blk 26 [.d (.bool false), .d (.int 0), .lit (.slice none 0 0)])), (400, some (.arr 26 3 (([] : List Vl).map Vl.row))), (1000, some (.blk 72 [.d (.sl (l.map Fn.row)), .d (.int fuel), .d (.int c), .d (.int 0)])), (1001, some (.map true true 3 (entE env)))]) rfl (by simp) (by simp)) ?_
  refine AWp.loop (σ := fun u : {u : Nat × List Vl × Int // u.1 ≤ txs.length ∧ (evL false C txs env fuel = appL u.2.1 (evL false C (txs.drop u.1) env u.2.2) ∧ u.2.1.length = u.1 ∧ (∀ v ∈ u.2.1, v.Fine) ∧ 0 ≤ u.2.2 ∧ u.2.2 ≤ 300)} => ⟨190, [(3, .ptr 3 0), (4, .ptr 4 0), (5, .ptr 5 0), (6, .ptr 6 0), (7, .clo 66 [.ptr 3 0]), (8, .clo 67 [.ptr 5 0]), (9, .arr 400 0 u.1.2.1.length), (32, .d (.sl (txs.map Tm.row))), (33, .d (.int (txs.length : Int))), (34, .d (.int u.1.1))], [(3, some (.blk 70 [.ptr 1000 0])), (4, some (.blk 41 [.d (.int tk), .d (.int tn), .d (.str ta), .d (.str tb), .d (strsD tvs), .d (.sl (txs.map Tm.row)), .d (.sl (tcs.map Cs.row))])), (5, some (.blk 95 [.mp 1001])), (6, some (.blk 26 [.d (.bool false), .d (.int 0), .lit (.slice none 0 0)])), (400, some (.arr 26 3 (u.1.2.1.map Vl.row))), (1000, some (.blk 72 [.d (.sl (l.map Fn.row)), .d (.int u.1.2.2), .d (.int c), .d (.int 0)])), (1001, some (.map true true 3 (entE env)))]⟩)
    (μ := fun u => txs.length - u.1.1) ⟨(0, [], fuel), ⟨Nat.zero_le _, ⟨by simp [appL], rfl, (fun v hv => by cases hv), hf0, hf1⟩⟩⟩ (Le.sub (by simp) (by simp)) (fun ⟨(i, us, f), ⟨hi8, hw⟩⟩ => ?_)
  dsimp only at hi8 hw ⊢
  repeat (first | refine AWp.seq ?_ | refine AWp.block ?_)
  apply AWp.reg [] []
  · conv => lhs; simp [Tm.row, Tm.rows_eq, Cs.rows_eq, Vl.row, Vl.rows_eq, Vl.con, Vl.n, Vl.kids, q1]
  · (repeat' apply And.intro) <;> first | omega | assumption | trivial | (simp [inI, maxLen]; done) | (simp [inI, maxLen]; omega)
  repeat (first | refine AWp.seq ?_ | refine AWp.block ?_)
  refine AWp.cond rfl (fun hc => ?_) (fun hc => ?_)
  · have hi1 : i < txs.length := by have := of_decide_eq_true hc; omega
    clear hc
    have h1y : txs[i]? = some txs[i] := List.getElem?_eq_getElem hi1
    have hmy : txs[i] ∈ txs := List.getElem_mem hi1
    have hdy : txs.drop i = txs[i] :: txs.drop (i + 1) := List.drop_eq_getElem_cons hi1
    generalize txs[i] = y at h1y hmy hdy
    obtain ⟨hap, hlen, hus, hfa, hfb⟩ := hw
    have hx := ih y env names (deep + 1) f (hxN y hmy) (hxOk y hmy) (hxw y hmy) hcov hF hfa hfb
    rw [← hCd, ← hcd] at hx
    have hfine := evT_fine (g := false) hCF _ y env names (deep + 1) f (Nat.lt_succ_self _) (hxw y hmy) hF hfa hfb
    rw [hdy, evL] at hap
    generalize evT false C y env f = o at hx hfine hap
    obtain ⟨⟨vc, vn, vks⟩, f2, e2⟩ := o
    dsimp only at hx hfine hap
    obtain ⟨yk, yn, ya, yb, yvs, yxs, ycs⟩ := y
    refine AWp.skip ?_
    repeat (first | refine AWp.seq ?_ | refine AWp.block ?_)
    apply AWp.reg [] []
    · conv => lhs; simp [Tm.row, Tm.rows_eq, Cs.rows_eq, Vl.row, Vl.rows_eq, Vl.con, Vl.n, Vl.kids, h1y, q1]
    · (repeat' apply And.intro) <;> first | omega | assumption | trivial | (simp [inI, maxLen]; done) | (simp [inI, maxLen]; omega)
    repeat (first | refine AWp.seq ?_ | refine AWp.block ?_)
    apply AWp.reg [] [.c [] [.ptr 1000 0, .agg [.d (.int yk), .d (.int yn), .d (.str ya), .d (.str yb), .d (strsD yvs), .d (.sl (yxs.map Tm.row)), .d (.sl (ycs.map Cs.row))], .mp 1001] [(1000, .blk 72 [.d (.sl (l.map Fn.row)), .d (.int f), .d (.int c), .d (.int 0)]), (1001, .map true true 3 (entE env))] (.agg [.d (.bool vc), .d (.int vn), .d (.sl (vks.map Vl.row))]) [(1000, .blk 72 [.d (.sl (l.map Fn.row)), .d (.int f2), .d (.int c), .d (.int e2)]), (1001, .map true true 3 (entE env))]]
    · conv => lhs; simp [Tm.row, Tm.rows_eq, Cs.rows_eq, Vl.row, Vl.rows_eq, Vl.con, Vl.n, Vl.kids, h1y, q1]
    · (repeat' apply And.intro) <;> first | omega | assumption | trivial | (simp [inI, maxLen]; done) | (simp [inI, maxLen]; omega)
    by_cases q2 : e2 = 0
    · repeat (first | refine AWp.seq ?_ | refine AWp.block ?_)
      apply AWp.reg [] []
      · conv => lhs; simp [Tm.row, Tm.rows_eq, Cs.rows_eq, Vl.row, Vl.rows_eq, Vl.con, Vl.n, Vl.kids, h1y, q1, q2]
      · (repeat' apply And.intro) <;> first | omega | assumption | trivial | (simp [inI, maxLen]; done) | (simp [inI, maxLen]; omega)
      repeat (first | refine AWp.seq ?_ | refine AWp.block ?_)
      refine AWp.cond rfl (fun hc => ?_) (fun hc => ?_)
      · cases hc
      refine AWp.skip ?_
      repeat (first | refine AWp.seq ?_ | refine AWp.block ?_)
      apply AWp.reg [] []
      · conv => lhs; simp [Tm.row, Tm.rows_eq, Cs.rows_eq, Vl.row, Vl.rows_eq, Vl.con, Vl.n, Vl.kids, h1y, q1, q2]
      · (repeat' apply And.intro) <;> first | omega | assumption | trivial | (simp [inI, maxLen]; done) | (simp [inI, maxLen]; omega)
      subst q2
      refine ⟨⟨(i + 1, us ++ [.mk vc vn vks], f2), hi1, ⟨by rw [hap, if_neg (fun e => e rfl)]; simp [appL, consL], by simp [hlen], fun v hv => (List.mem_append.1 hv).elim (hus v) fun hv => by rw [List.mem_singleton.1 hv]; exact hfine.1, hfine.2.1, hfine.2.2⟩⟩, by simp; omega, ?_⟩
      dsimp only
      exact Le.sub (by simp [Vl.row, Vl.rows_eq]) (by simp [Vl.row, Vl.rows_eq])
    repeat (first | refine AWp.seq ?_ | refine AWp.block ?_)
    apply AWp.reg [] []
    · conv => lhs; simp [Tm.row, Tm.rows_eq, Cs.rows_eq, Vl.row, Vl.rows_eq, Vl.con, Vl.n, Vl.kids, h1y, q1, q2]
    · (repeat' apply And.intro) <;> first | omega | assumption | trivial | (simp [inI, maxLen]; done) | (simp [inI, maxLen]; omega)
    repeat (first | refine AWp.seq ?_ | refine AWp.block ?_)
    refine AWp.cond rfl (fun hc => ?_) (fun hc => ?_)
    rotate_left
    · cases hc
    have hk126 : ¬ tk = 1 ∧ ¬ tk = 2 := by
      constructor <;> (intro hk; subst hk; have h4' := h4; unfold manyB at h4'; simp at h4'; rw [h4'.1] at hi1; exact absurd hi1 (Nat.not_lt_zero _))
    rw [if_pos q2] at hap
    have hRk : R = (zeroV, f2, e2) := by rw [hR, evT, if_neg hk126.1, if_neg hk126.2, if_neg q1, afterL_err (by rw [hap]; exact q2), hap]; rfl
    subst hRk
    repeat (first | refine AWp.seq ?_ | refine AWp.block ?_)
    apply AWp.reg [] []
    · conv => lhs; simp [Tm.row, Tm.rows_eq, Cs.rows_eq, Vl.row, Vl.rows_eq, Vl.con, Vl.n, Vl.kids, h1y, q1, q2]
    · (repeat' apply And.intro) <;> first | omega | assumption | trivial | (simp [inI, maxLen]; done) | (simp [inI, maxLen]; omega)
    refine AWp.ret ?_
    try dsimp only [thenQ, blockQ]
    apply endC.ret
    · rfl
    · conv => lhs; simp [resAV, Try.results57]
    · rfl
    · simp [moEnd, memGet]
  have hi1 : i = txs.length := by have := of_decide_eq_false hc; omega
  subst hi1
  clear hc
  obtain ⟨hap, hlen, hus, hfa, hfb⟩ := hw
  rw [List.drop_length, evL] at hap
  simp only [appL, List.append_nil] at hap
  refine AWp.exit ?_
  apply AWp.frzs [400]
  · conv => lhs; simp
  repeat (first | refine AWp.seq ?_ | refine AWp.block ?_)
  apply AWp.reg [] []
  · conv => lhs; simp [Tm.row, Tm.rows_eq, Cs.rows_eq, Vl.row, Vl.rows_eq, Vl.con, Vl.n, Vl.kids, q1]
  · (repeat' apply And.intro) <;> first | omega | assumption | trivial | (simp [inI, maxLen]; done) | (simp [inI, maxLen]; omega)
  by_cases q3 : tk = 1
  · repeat (first | refine AWp.seq ?_ | refine AWp.block ?_)
    apply AWp.reg [] []
    · conv => lhs; simp [Tm.row, Tm.rows_eq, Cs.rows_eq, Vl.row, Vl.rows_eq, Vl.con, Vl.n, Vl.kids, q1, q3]
    · (repeat' apply And.intro) <;> first | omega | assumption | trivial | (simp [inI, maxLen]; done) | (simp [inI, maxLen]; omega)
    repeat (first | refine AWp.seq ?_ | refine AWp.block ?_)
    refine AWp.cond rfl (fun hc => ?_) (fun hc => ?_)
    rotate_left
    · cases hc
    subst q3
    have hxs0 : txs = [] := by
      have h4' := h4
      unfold manyB at h4'
      simp at h4'
      exact h4'.1
    subst hxs0
    rw [evL] at hap
    cases hap
    unfold headE at h5
    rw [if_pos rfl] at h5
    obtain ⟨v, hv⟩ := hcov ta (by
      rw [← hasB_iff]
      cases hb : hasB names ta with
      | true => rfl
      | false => rw [hb] at h5; simp at h5)
    obtain rfl : R = (v, fuel, 0) := by rw [hR, evT, if_pos rfl, show envVal env ta = v by simp [envVal, hv]]
    have hlk : D.aget (.str ta) (entE env) = some v.row := by rw [entE_get, hv]; rfl
    obtain ⟨vc, vn, vks⟩ := v
    simp only [Vl.row, Vl.rows_eq] at hlk
    repeat (first | refine AWp.seq ?_ | refine AWp.block ?_)
    apply AWp.reg [] []
    · conv => lhs; simp [Tm.row, Tm.rows_eq, Cs.rows_eq, Vl.row, Vl.rows_eq, Vl.con, Vl.n, Vl.kids, hlk, q1]
    · (repeat' apply And.intro) <;> first | omega | assumption | trivial | (simp [inI, maxLen]; done) | (simp [inI, maxLen]; omega)
    refine AWp.ret ?_
    try dsimp only [thenQ, blockQ]
    apply endC.ret
    · rfl
    · conv => lhs; simp [resAV, Try.results57]
    · rfl
    · simp [moEnd, memGet]
  repeat (first | refine AWp.seq ?_ | refine AWp.block ?_)
  apply AWp.reg [] []
  · conv => lhs; simp [Tm.row, Tm.rows_eq, Cs.rows_eq, Vl.row, Vl.rows_eq, Vl.con, Vl.n, Vl.kids, q1, q3]
  · (repeat' apply And.intro) <;> first | omega | assumption | trivial | (simp [inI, maxLen]; done) | (simp [inI, maxLen]; omega)
  repeat (first | refine AWp.seq ?_ | refine AWp.block ?_)
  refine AWp.cond rfl (fun hc => ?_) (fun hc => ?_)
  · cases hc
  by_cases q4 : tk = 2
  · repeat (first | refine AWp.seq ?_ | refine AWp.block ?_)
    apply AWp.reg [] []
    · conv => lhs; simp [Tm.row, Tm.rows_eq, Cs.rows_eq, Vl.row, Vl.rows_eq, Vl.con, Vl.n, Vl.kids, q1, q3, q4]
    · (repeat' apply And.intro) <;> first | omega | assumption | trivial | (simp [inI, maxLen]; done) | (simp [inI, maxLen]; omega)
    repeat (first | refine AWp.seq ?_ | refine AWp.block ?_)
    refine AWp.cond rfl (fun hc => ?_) (fun hc => ?_)
    rotate_left
    · cases hc
    subst q4
    have hxs0 : txs = [] := by
      have h4' := h4
      unfold manyB at h4'
      simp at h4'
      exact h4'.1
    subst hxs0
    rw [evL] at hap
    cases hap
    obtain rfl : R = (.mk false tn [], fuel, 0) := by rw [hR, evT, if_neg (by omega), if_pos rfl]
    repeat (first | refine AWp.seq ?_ | refine AWp.block ?_)
    apply AWp.reg [] []
    · conv => lhs; simp [Tm.row, Tm.rows_eq, Cs.rows_eq, Vl.row, Vl.rows_eq, Vl.con, Vl.n, Vl.kids, q1, q3]
    · (repeat' apply And.intro) <;> first | omega | assumption | trivial | (simp [inI, maxLen]; done) | (simp [inI, maxLen]; omega)
    refine AWp.ret ?_
    try dsimp only [thenQ, blockQ]
    apply endC.ret
    · rfl
    · conv => lhs; simp [resAV, Try.results57]
    · rfl
    · simp [moEnd, memGet]
  repeat (first | refine AWp.seq ?_ | refine AWp.block ?_)
  apply AWp.reg [] []
  · conv => lhs; simp [Tm.row, Tm.rows_eq, Cs.rows_eq, Vl.row, Vl.rows_eq, Vl.con, Vl.n, Vl.kids, q1, q3, q4]
  · (repeat' apply And.intro) <;> first | omega | assumption | trivial | (simp [inI, maxLen]; done) | (simp [inI, maxLen]; omega)
  repeat (first | refine AWp.seq ?_ | refine AWp.block ?_)
  refine AWp.cond rfl (fun hc => ?_) (fun hc => ?_)
  · cases hc
  by_cases q5 : tk = 3
  · repeat (first | refine AWp.seq ?_ | refine AWp.block ?_)
    apply AWp.reg [] []
    · conv => lhs; simp [Tm.row, Tm.rows_eq, Cs.rows_eq, Vl.row, Vl.rows_eq, Vl.con, Vl.n, Vl.kids, q1, q3, q4, q5]
    · (repeat' apply And.intro) <;> first | omega | assumption | trivial | (simp [inI, maxLen]; done) | (simp [inI, maxLen]; omega)
    repeat (first | refine AWp.seq ?_ | refine AWp.block ?_)
    refine AWp.cond rfl (fun hc => ?_) (fun hc => ?_)
    rotate_left
    · cases hc
    subst q5
    have hRk : R = afterL false C 3 tn ta (us, f, 0) (fun v f => evC false C v tcs env f) := by rw [hR, evT, if_neg (by omega), if_neg (by omega), if_neg (by omega), hap]
    clear hR
    unfold afterL at hRk
    dsimp only at hRk
    rw [if_pos rfl, if_pos (.inr rfl)] at hRk
    subst hRk
    repeat (first | refine AWp.seq ?_ | refine AWp.block ?_)
    apply AWp.reg [] []
    · conv => lhs; simp [Tm.row, Tm.rows_eq, Cs.rows_eq, Vl.row, Vl.rows_eq, Vl.con, Vl.n, Vl.kids, q1, q3, q4]
    · (repeat' apply And.intro) <;> first | omega | assumption | trivial | (simp [inI, maxLen]; done) | (simp [inI, maxLen]; omega)
    refine AWp.ret ?_
    try dsimp only [thenQ, blockQ]
    apply endC.ret
    · rfl
    · conv => lhs; simp [resAV, Try.results57]
    · rfl
    · simp [moEnd, memGet]
  repeat (first | refine AWp.seq ?_ | refine AWp.block ?_)
  apply AWp.reg [] []
  · conv => lhs; simp [Tm.row, Tm.rows_eq, Cs.rows_eq, Vl.row, Vl.rows_eq, Vl.con, Vl.n, Vl.kids, q1, q3, q4, q5]
  · (repeat' apply And.intro) <;> first | omega | assumption | trivial | (simp [inI, maxLen]; done) | (simp [inI, maxLen]; omega)
  repeat (first | refine AWp.seq ?_ | refine AWp.block ?_)
  refine AWp.cond rfl (fun hc => ?_) (fun hc => ?_)
  · cases hc
  by_cases q6 : tk = 4
  · repeat (first | refine AWp.seq ?_ | refine AWp.block ?_)
    apply AWp.reg [] []
    · conv => lhs; simp [Tm.row, Tm.rows_eq, Cs.rows_eq, Vl.row, Vl.rows_eq, Vl.con, Vl.n, Vl.kids, q1, q3, q4, q5, q6]
    · (repeat' apply And.intro) <;> first | omega | assumption | trivial | (simp [inI, maxLen]; done) | (simp [inI, maxLen]; omega)
    repeat (first | refine AWp.seq ?_ | refine AWp.block ?_)
    refine AWp.cond rfl (fun hc => ?_) (fun hc => ?_)
    rotate_left
    · cases hc
    subst q6
    have hRk : R = afterL false C 4 tn ta (us, f, 0) (fun v f => evC false C v tcs env f) := by rw [hR, evT, if_neg (by omega), if_neg (by omega), if_neg (by omega), hap]
    clear hR
    unfold afterL at hRk
    dsimp only at hRk
    rw [if_neg (by omega), if_neg (fun e => e rfl), if_pos rfl] at hRk
    have hcl := hCall ta us f hus hfa hfb
    rw [← hCd, ← hcd] at hcl
    generalize C ta us f = o2 at hcl hRk
    obtain ⟨⟨uc, un, uks⟩, f3, e3⟩ := o2
    subst hRk
    repeat (first | refine AWp.seq ?_ | refine AWp.block ?_)
    apply AWp.reg [] [.c [] [.ptr 1000 0, .d (.str ta), .d (.sl (us.map Vl.row))] [(1000, .blk 72 [.d (.sl (l.map Fn.row)), .d (.int f), .d (.int c), .d (.int 0)])] (.agg [.d (.bool uc), .d (.int un), .d (.sl (uks.map Vl.row))]) [(1000, .blk 72 [.d (.sl (l.map Fn.row)), .d (.int f3), .d (.int c), .d (.int e3)])]]
    · conv => lhs; simp [Tm.row, Tm.rows_eq, Cs.rows_eq, Vl.row, Vl.rows_eq, Vl.con, Vl.n, Vl.kids, q1, q3, q4, q5]
    · (repeat' apply And.intro) <;> first | omega | assumption | trivial | (simp [inI, maxLen]; done) | (simp [inI, maxLen]; omega)
    refine AWp.ret ?_
    try dsimp only [thenQ, blockQ]
    apply endC.ret
    · rfl
    · conv => lhs; simp [resAV, Try.results57]
    · rfl
    · simp [moEnd, memGet]
  repeat (first | refine AWp.seq ?_ | refine AWp.block ?_)
  apply AWp.reg [] []
  · conv => lhs; simp [Tm.row, Tm.rows_eq, Cs.rows_eq, Vl.row, Vl.rows_eq, Vl.con, Vl.n, Vl.kids, q1, q3, q4, q5, q6]
  · (repeat' apply And.intro) <;> first | omega | assumption | trivial | (simp [inI, maxLen]; done) | (simp [inI, maxLen]; omega)
  repeat (first | refine AWp.seq ?_ | refine AWp.block ?_)
  refine AWp.cond rfl (fun hc => ?_) (fun hc => ?_)
  · cases hc
  by_cases q7 : tk = 5
  · repeat (first | refine AWp.seq ?_ | refine AWp.block ?_)
    apply AWp.reg [] []
    · conv => lhs; simp [Tm.row, Tm.rows_eq, Cs.rows_eq, Vl.row, Vl.rows_eq, Vl.con, Vl.n, Vl.kids, q1, q3, q4, q5, q6, q7]
    · (repeat' apply And.intro) <;> first | omega | assumption | trivial | (simp [inI, maxLen]; done) | (simp [inI, maxLen]; omega)
    repeat (first | refine AWp.seq ?_ | refine AWp.block ?_)
    refine AWp.cond rfl (fun hc => ?_) (fun hc => ?_)
    rotate_left
    · cases hc
    subst q7
    have hRk : R = afterL false C 5 tn ta (us, f, 0) (fun v f => evC false C v tcs env f) := by rw [hR, evT, if_neg (by omega), if_neg (by omega), if_neg (by omega), hap]
    clear hR
    unfold afterL at hRk
    dsimp only at hRk
    rw [if_neg (by omega), if_neg (fun e => e rfl), if_neg (by omega), if_pos rfl] at hRk
    have hx2 : txs.length = 2 := by
      have h4' := h4
      unfold manyB at h4'
      simp at h4'
      omega
    obtain ⟨y, z, hus2⟩ : ∃ y z, us = [y, z] := by
      match us, hlen.trans hx2 with
      | [y, z], _ => exact ⟨y, z, rfl⟩
    have hu0 : us[0]? = some y := by rw [hus2]; rfl
    have hu0h : us.head? = some y := by rw [hus2]; rfl
    have hu1 : us[1]? = some z := by rw [hus2]; rfl
    rw [show us.getD 0 zeroV = y by rw [hus2]; rfl, show us.getD 1 zeroV = z by rw [hus2]; rfl] at hRk
    clear hus2
    obtain ⟨yc, yn, yks⟩ := y
    obtain ⟨zc, zn, zks⟩ := z
    cases yc with
    | true =>
      repeat (first | refine AWp.seq ?_ | refine AWp.block ?_)
      apply AWp.reg [] []
      · conv => lhs; simp [Tm.row, Tm.rows_eq, Cs.rows_eq, Vl.row, Vl.rows_eq, Vl.con, Vl.n, Vl.kids, hu0, hu1, hu0h, q1, q3, q4, q5, q6]
      · (repeat' apply And.intro) <;> first | omega | assumption | trivial | (simp [inI, maxLen]; done) | (simp [inI, maxLen]; omega)
      repeat (first | refine AWp.seq ?_ | refine AWp.block ?_)
      refine AWp.cond rfl (fun hc => ?_) (fun hc => ?_)
      rotate_left
      · cases hc
      rw [primR_con rfl] at hRk
      subst hRk
      have hn8 := cs_Of1 l f c 10
      repeat (first | refine AWp.seq ?_ | refine AWp.block ?_)
      apply AWp.reg [] [.c [(1001, 3)] [.d (.int 10), .ptr 1001 0] [(1000, .blk 72 [.d (.sl (l.map Fn.row)), .d (.int f), .d (.int c), .d (.int 0)]), (1001, .blk 70 [.ptr 1000 0])] (.agg [.d (.bool false), .d (.int 0), .d (.sl (([] : List Vl).map Vl.row))]) [(1000, .blk 72 [.d (.sl (l.map Fn.row)), .d (.int f), .d (.int c), .d (.int 10)]), (1001, .blk 70 [.ptr 1000 0])]]
      · conv => lhs; simp [Tm.row, Tm.rows_eq, Cs.rows_eq, Vl.row, Vl.rows_eq, Vl.con, Vl.n, Vl.kids, hu0, hu1, hu0h, q1, q3, q4, q5, q6]
      · (repeat' apply And.intro) <;> first | omega | assumption | trivial | (simp [inI, maxLen]; done) | (simp [inI, maxLen]; omega)
      refine AWp.ret ?_
      try dsimp only [thenQ, blockQ]
      apply endC.ret
      · rfl
      · conv => lhs; simp [resAV, Try.results57]
      · rfl
      · simp [moEnd, memGet]
    | false =>
      cases zc with
      | true =>
        repeat (first | refine AWp.seq ?_ | refine AWp.block ?_)
        apply AWp.reg [] []
        · conv => lhs; simp [Tm.row, Tm.rows_eq, Cs.rows_eq, Vl.row, Vl.rows_eq, Vl.con, Vl.n, Vl.kids, hu0, hu1, hu0h, q1, q3, q4, q5, q6]
        · (repeat' apply And.intro) <;> first | omega | assumption | trivial | (simp [inI, maxLen]; done) | (simp [inI, maxLen]; omega)
        repeat (first | refine AWp.seq ?_ | refine AWp.block ?_)
        refine AWp.cond rfl (fun hc => ?_) (fun hc => ?_)
        rotate_left
        · cases hc
        rw [primR_con rfl] at hRk
        subst hRk
        have hn9 := cs_Of1 l f c 10
        repeat (first | refine AWp.seq ?_ | refine AWp.block ?_)
        apply AWp.reg [] [.c [(1001, 3)] [.d (.int 10), .ptr 1001 0] [(1000, .blk 72 [.d (.sl (l.map Fn.row)), .d (.int f), .d (.int c), .d (.int 0)]), (1001, .blk 70 [.ptr 1000 0])] (.agg [.d (.bool false), .d (.int 0), .d (.sl (([] : List Vl).map Vl.row))]) [(1000, .blk 72 [.d (.sl (l.map Fn.row)), .d (.int f), .d (.int c), .d (.int 10)]), (1001, .blk 70 [.ptr 1000 0])]]
        · conv => lhs; simp [Tm.row, Tm.rows_eq, Cs.rows_eq, Vl.row, Vl.rows_eq, Vl.con, Vl.n, Vl.kids, hu0, hu1, hu0h, q1, q3, q4, q5, q6]
        · (repeat' apply And.intro) <;> first | omega | assumption | trivial | (simp [inI, maxLen]; done) | (simp [inI, maxLen]; omega)
        refine AWp.ret ?_
        try dsimp only [thenQ, blockQ]
        apply endC.ret
        · rfl
        · conv => lhs; simp [resAV, Try.results57]
        · rfl
        · simp [moEnd, memGet]
      | false =>
        repeat (first | refine AWp.seq ?_ | refine AWp.block ?_)
        apply AWp.reg [] []
        · conv => lhs; simp [Tm.row, Tm.rows_eq, Cs.rows_eq, Vl.row, Vl.rows_eq, Vl.con, Vl.n, Vl.kids, hu0, hu1, hu0h, q1, q3, q4, q5, q6]
        · (repeat' apply And.intro) <;> first | omega | assumption | trivial | (simp [inI, maxLen]; done) | (simp [inI, maxLen]; omega)
        repeat (first | refine AWp.seq ?_ | refine AWp.block ?_)
        refine AWp.cond rfl (fun hc => ?_) (fun hc => ?_)
        · cases hc
        refine AWp.skip ?_
        rw [primR_num] at hRk
        have hpr := sp_refPrim tn yn zn
        have hp0 : (primV tn yn zn).2 = 0 := by
          have h5' := h5
          unfold headE at h5'
          rw [if_neg (by omega), if_neg (by omega), if_neg (by omega), if_pos rfl] at h5'
          have : 1 ≤ tn ∧ tn ≤ 5 := by
            split at h5'
            · cases h5'
            · omega
          unfold primV
          repeat' split
          all_goals first | rfl | omega
        rw [if_neg (fun e => e hp0)] at hRk
        rw [hp0] at hpr
        generalize (primV tn yn zn).1 = rv at hpr hRk
        obtain ⟨rc, rn, rks⟩ := rv
        subst hRk
        obtain ⟨w, hw⟩ : ∃ w : Int, w = 0 := ⟨_, rfl⟩
        rw [← hw] at hpr
        repeat (first | refine AWp.seq ?_ | refine AWp.block ?_)
        apply AWp.draw [] [.p (fun _ => .tuple [.agg [.d (.bool rc), .d (.int rn), .d (.sl (rks.map Vl.row))], .d (.int w)]) none] mixed
        · conv => lhs; simp [Tm.row, Tm.rows_eq, Cs.rows_eq, Vl.row, Vl.rows_eq, Vl.con, Vl.n, Vl.kids, hu0, hu1, hu0h, q1, q3, q4, q5, q6]
        · kernel_rfl
        · (repeat' apply And.intro) <;> first | omega | assumption | trivial | (simp [inI, maxLen]; done) | (simp [inI, maxLen]; omega)
        repeat (first | refine AWp.seq ?_ | refine AWp.block ?_)
        apply AWp.reg [] []
        · conv => lhs; simp [Tm.row, Tm.rows_eq, Cs.rows_eq, Vl.row, Vl.rows_eq, Vl.con, Vl.n, Vl.kids, hu0, hu1, hu0h, q1, q3, q4, q5, q6]
        · (repeat' apply And.intro) <;> first | omega | assumption | trivial | (simp [inI, maxLen]; done) | (simp [inI, maxLen]; omega)
        refine AWp.ret ?_
        try dsimp only [thenQ, blockQ]
        apply endC.ret
        · rfl
        · conv => lhs; simp [resAV, Try.results57]
        · rfl
        · simp [moEnd, memGet]
  repeat (first | refine AWp.seq ?_ | refine AWp.block ?_)
  apply AWp.reg [] []
  · conv => lhs; simp [Tm.row, Tm.rows_eq, Cs.rows_eq, Vl.row, Vl.rows_eq, Vl.con, Vl.n, Vl.kids, q1, q3, q4, q5, q6, q7]
  · (repeat' apply And.intro) <;> first | omega | assumption | trivial | (simp [inI, maxLen]; done) | (simp [inI, maxLen]; omega)
  repeat (first | refine AWp.seq ?_ | refine AWp.block ?_)
  refine AWp.cond rfl (fun hc => ?_) (fun hc => ?_)
  · cases hc
  repeat (first | refine AWp.seq ?_ | refine AWp.block ?_)
  apply AWp.reg [] []
  · conv => lhs; simp [Tm.row, Tm.rows_eq, Cs.rows_eq, Vl.row, Vl.rows_eq, Vl.con, Vl.n, Vl.kids, q1, q3, q4, q5, q6, q7]
  · (repeat' apply And.intro) <;> first | omega | assumption | trivial | (simp [inI, maxLen]; done) | (simp [inI, maxLen]; omega)
  repeat (first | refine AWp.seq ?_ | refine AWp.block ?_)
  refine AWp.cond rfl (fun hc => ?_) (fun hc => ?_)
  · cases hc
  refine AWp.skip ?_
  obtain rfl : tk = 7 := by omega
  have hRk : R = afterL false C 7 tn ta (us, f, 0) (fun v f => evC false C v tcs env f) := by rw [hR, evT, if_neg (by omega), if_neg (by omega), if_neg (by omega), hap]
  clear hR
  unfold afterL at hRk
  dsimp only at hRk
  rw [if_neg (by omega), if_neg (fun e => e rfl), if_neg (by omega), if_neg (by omega)] at hRk
  have hx1 : txs.length = 1 := by
    have h4' := h4
    unfold manyB at h4'
    simp at h4'
    omega
  obtain ⟨v, hus1⟩ : ∃ v, us = [v] := by
    match us, hlen.trans hx1 with
    | [v], _ => exact ⟨v, rfl⟩
  have hu0 : us[0]? = some v := by rw [hus1]; rfl
  have hu0h : us.head? = some v := by rw [hus1]; rfl
  have hvF : v.Fine := hus v (by rw [hus1]; simp)
  rw [show us.getD 0 zeroV = v by rw [hus1]; rfl] at hRk
  clear hus1
  obtain ⟨vc, vn, vks⟩ := v
  have hvl : vks.length ≤ 6 := hvF.2.1
  have h75 := (h7 rfl).2.1
  cases vc with
  | true =>
    repeat (first | refine AWp.seq ?_ | refine AWp.block ?_)
    apply AWp.reg [] []
    · conv => lhs; simp [Tm.row, Tm.rows_eq, Cs.rows_eq, Vl.row, Vl.rows_eq, Vl.con, Vl.n, Vl.kids, hu0, hu0h, q1, q3, q4, q5, q6, q7]
    · (repeat' apply And.intro) <;> first | omega | assumption | trivial | (simp [inI, maxLen]; done) | (simp [inI, maxLen]; omega)
    repeat (first | refine AWp.seq ?_ | refine AWp.block ?_)
    refine AWp.cond rfl (fun hc => ?_) (fun hc => ?_)
    · cases hc
    refine AWp.skip ?_
    rw [if_pos (show (Vl.mk true vn vks).con = true from rfl)] at hRk
    repeat (first | refine AWp.seq ?_ | refine AWp.block ?_)
    apply AWp.reg [] []
    · conv => lhs; simp [Tm.row, Tm.rows_eq, Cs.rows_eq, Vl.row, Vl.rows_eq, Vl.con, Vl.n, Vl.kids, hu0, hu0h]
    · (repeat' apply And.intro) <;> first | omega | assumption | trivial | (simp [inI, maxLen]; done) | (simp [inI, maxLen]; omega)
    repeat (first | refine AWp.seq ?_ | refine AWp.block ?_)
    refine AWp.loop (σ := fun u : {u : Nat // u ≤ tcs.length ∧ R = evC false C (.mk true vn vks) (tcs.drop u) env f} => ⟨190, [(3, .ptr 3 0), (6, .ptr 6 0), (7, .clo 66 [.ptr 3 0]), (8, .clo 67 [.ptr 5 0]), (9, .d (.sl (us.map Vl.row))), (137, .d (.sl (tcs.map Cs.row))), (138, .d (.int (tcs.length : Int))), (139, .d (.int u.1))], [(3, some (.blk 70 [.ptr 1000 0])), (5, some (.blk 95 [.mp 1001])), (6, some (.blk 26 [.d (.bool false), .d (.int 0), .lit (.slice none 0 0)])), (1000, some (.blk 72 [.d (.sl (l.map Fn.row)), .d (.int f), .d (.int c), .d (.int 0)])), (1001, some (.map true true 3 (entE env)))]⟩)
      (μ := fun u => tcs.length - u.1) ⟨0, ⟨Nat.zero_le _, hRk⟩⟩ (Le.sub (by simp) (by simp)) (fun ⟨i, ⟨hi34, hw3⟩⟩ => ?_)
    dsimp only
    repeat (first | refine AWp.seq ?_ | refine AWp.block ?_)
    apply AWp.reg [] []
    · conv => lhs; simp [Tm.row, Tm.rows_eq, Cs.rows_eq, Vl.row, Vl.rows_eq, Vl.con, Vl.n, Vl.kids, hu0, hu0h]
    · (repeat' apply And.intro) <;> first | omega | assumption | trivial | (simp [inI, maxLen]; done) | (simp [inI, maxLen]; omega)
    repeat (first | refine AWp.seq ?_ | refine AWp.block ?_)
    refine AWp.cond rfl (fun hc => ?_) (fun hc => ?_)
    · have hi1 : i < tcs.length := by have := of_decide_eq_true hc; omega
      clear hc
      have h1d : tcs[i]? = some tcs[i] := List.getElem?_eq_getElem hi1
      have hmd : tcs[i] ∈ tcs := List.getElem_mem hi1
      have hdd : tcs.drop i = tcs[i] :: tcs.drop (i + 1) := List.drop_eq_getElem_cons hi1
      generalize tcs[i] = d at h1d hmd hdd
      obtain ⟨dt, dws, ⟨dk, dn, da, db, dvs, dxs, dcs⟩⟩ := d
      rw [hdd] at hw3
      obtain ⟨hsz, hbo, hwl, hbw⟩ : (Tm.mk dk dn da db dvs dxs dcs).sz < N ∧ (Tm.mk dk dn da db dvs dxs dcs).Ok ∧ dws.length ≤ 6 ∧ (Tm.mk dk dn da db dvs dxs dcs).wrong (arOf l) (names ++ dws) (deep + 1) = 0 := by
        have h8 := cwrongs_zero (h7 rfl).2.2 hmd
        exact ⟨by have := Tm.sz_case (k := 7) (n := tn) (a := ta) (b := tb) (vs := tvs) (xs := txs) hmd; omega, (Cs.Oks_iff.1 hO.2.2.2 _ hmd).2.2, h8.2.2.2.2.1, h8.2.2.2.2.2⟩
      obtain ⟨W, hW⟩ : ∃ W : Int, (dws.length : Int) = W := ⟨_, rfl⟩
      obtain ⟨V, hV⟩ : ∃ V : Int, (vks.length : Int) = V := ⟨_, rfl⟩
      refine AWp.skip ?_
      repeat (first | refine AWp.seq ?_ | refine AWp.block ?_)
      apply AWp.reg [] []
      · conv => lhs; simp [Tm.row, Tm.rows_eq, Cs.rows_eq, Vl.row, Vl.rows_eq, Vl.con, Vl.n, Vl.kids, hu0, hu0h, h1d, Cs.row, hW, hV]
      · (repeat' apply And.intro) <;> first | omega | assumption | trivial | (simp [inI, maxLen]; done) | (simp [inI, maxLen]; omega)
      by_cases q10 : dt = vn
      · repeat (first | refine AWp.seq ?_ | refine AWp.block ?_)
        apply AWp.draw [] [] mixed
        · conv => lhs; simp [Tm.row, Tm.rows_eq, Cs.rows_eq, Vl.row, Vl.rows_eq, Vl.con, Vl.n, Vl.kids, hu0, hu0h, h1d, Cs.row, hW, hV, q10]
        · kernel_rfl
        · (repeat' apply And.intro) <;> first | omega | assumption | trivial | (simp [inI, maxLen]; done) | (simp [inI, maxLen]; omega)
        repeat (first | refine AWp.seq ?_ | refine AWp.block ?_)
        refine AWp.cond rfl (fun hc => ?_) (fun hc => ?_)
        rotate_left
        · cases hc
        by_cases q11 : W = V
        · repeat (first | refine AWp.seq ?_ | refine AWp.block ?_)
          apply AWp.draw [] [] mixed
          · conv => lhs; simp [Tm.row, Tm.rows_eq, Cs.rows_eq, Vl.row, Vl.rows_eq, Vl.con, Vl.n, Vl.kids, hu0, hu0h, h1d, Cs.row, hW, hV, q10, q11]
          · kernel_rfl
          · (repeat' apply And.intro) <;> first | omega | assumption | trivial | (simp [inI, maxLen]; done) | (simp [inI, maxLen]; omega)
          repeat (first | refine AWp.seq ?_ | refine AWp.block ?_)
          refine AWp.cond rfl (fun hc => ?_) (fun hc => ?_)
          · cases hc
          refine AWp.skip ?_
          have hWV : dws.length = vks.length := by omega
          rw [evC_hit q10 hWV] at hw3
          have hx := ih (.mk dk dn da db dvs dxs dcs) (bindE dws vks env) (names ++ dws) (deep + 1) f hsz hbo hbw (hcov.bind hWV) (hF.bind (Vl.Fines_iff.1 hvF.2.2) dws) hfa hfb
          rw [← hCd, ← hcd] at hx
          generalize evT false C (.mk dk dn da db dvs dxs dcs) (bindE dws vks env) f = o at hx hw3
          obtain ⟨⟨uc, un, uks⟩, f3, e3⟩ := o
          dsimp only at hx
          subst hw3
          repeat (first | refine AWp.seq ?_ | refine AWp.block ?_)
          apply AWp.reg [] []
          · conv => lhs; simp [Tm.row, Tm.rows_eq, Cs.rows_eq, Vl.row, Vl.rows_eq, Vl.con, Vl.n, Vl.kids, hu0, hu0h, h1d, Cs.row, hW, hV, q10, q11]
          · (repeat' apply And.intro) <;> first | omega | assumption | trivial | (simp [inI, maxLen]; done) | (simp [inI, maxLen]; omega)
          repeat (first | refine AWp.seq ?_ | refine AWp.block ?_)
          apply AWp.reg [] []
          · conv => lhs; simp [Tm.row, Tm.rows_eq, Cs.rows_eq, Vl.row, Vl.rows_eq, Vl.con, Vl.n, Vl.kids, hu0, hu0h, h1d, Cs.row, hW, hV, q10, q11]
          · (repeat' apply And.intro) <;> first | omega | assumption | trivial | (simp [inI, maxLen]; done) | (simp [inI, maxLen]; omega)
          repeat (first | refine AWp.seq ?_ | refine AWp.block ?_)
          refine AWp.loop (σ := fun u : {u : Nat // u ≤ dws.length} => ⟨190, [(3, .ptr 3 0), (6, .ptr 6 0), (8, .clo 67 [.ptr 5 0]), (9, .d (.sl (us.map Vl.row))), (16, .ptr 16 0), (17, .mp 161), (163, .d (strsD dws)), (164, .d (.int V)), (165, .d (.int u.1))], [(3, some (.blk 70 [.ptr 1000 0])), (5, some (.blk 95 [.mp 1001])), (6, some (.blk 26 [.d (.bool false), .d (.int 0), .lit (.slice none 0 0)])), (16, some (.blk 74 [.d (.int vn), .d (strsD dws), .d (.int dk), .d (.int dn), .d (.str da), .d (.str db), .d (strsD dvs), .d (.sl (dxs.map Tm.row)), .d (.sl (dcs.map Cs.row))])), (161, some (.map true true 3 (entE (bindE (dws.take u.1) (vks.take u.1) [])))), (1000, some (.blk 72 [.d (.sl (l.map Fn.row)), .d (.int f), .d (.int c), .d (.int 0)])), (1001, some (.map true true 3 (entE env)))]⟩)
            (μ := fun u => dws.length - u.1) ⟨0, Nat.zero_le _⟩ (Le.sub (by simp [bindE_nil, entE, hW, hV]) (by simp [bindE_nil, entE, hW, hV])) (fun ⟨j, hi41⟩ => ?_)
          dsimp only
          repeat (first | refine AWp.seq ?_ | refine AWp.block ?_)
          apply AWp.reg [] []
          · conv => lhs; simp [Tm.row, Tm.rows_eq, Cs.rows_eq, Vl.row, Vl.rows_eq, Vl.con, Vl.n, Vl.kids, hu0, hu0h, h1d, Cs.row, hW, hV, q10, q11]
          · (repeat' apply And.intro) <;> first | omega | assumption | trivial | (simp [inI, maxLen]; done) | (simp [inI, maxLen]; omega)
          repeat (first | refine AWp.seq ?_ | refine AWp.block ?_)
          refine AWp.cond rfl (fun hc => ?_) (fun hc => ?_)
          · have hi1 : j < dws.length := by have := of_decide_eq_true hc; omega
            clear hc
            have h1x : dws[j]? = some dws[j] := List.getElem?_eq_getElem hi1
            have hmx : dws[j] ∈ dws := List.getElem_mem hi1
            have hdx : dws.drop j = dws[j] :: dws.drop (j + 1) := List.drop_eq_getElem_cons hi1
            generalize dws[j] = x at h1x hmx hdx
            have h2y : vks[j]? = some (vks[j]'(by omega)) := List.getElem?_eq_getElem (by omega)
            generalize vks[j]'(by omega) = y at h2y
            have hsn := bindE_snoc h1x h2y []
            generalize bindE (dws.take j) (vks.take j) [] = E at hsn ⊢
            obtain ⟨zc, zn, zks⟩ := y
            refine AWp.skip ?_
            repeat (first | refine AWp.seq ?_ | refine AWp.block ?_)
            apply AWp.reg [] []
            · conv => lhs; simp [Tm.row, Tm.rows_eq, Cs.rows_eq, Vl.row, Vl.rows_eq, Vl.con, Vl.n, Vl.kids, hu0, hu0h, h1d, Cs.row, hW, hV, h1x, h2y, q10, q11]
            · (repeat' apply And.intro) <;> first | omega | assumption | trivial | (simp [inI, maxLen]; done) | (simp [inI, maxLen]; omega)
            repeat (first | refine AWp.seq ?_ | refine AWp.block ?_)
            apply AWp.reg [] []
            · conv => lhs; simp [Tm.row, Tm.rows_eq, Cs.rows_eq, Vl.row, Vl.rows_eq, Vl.con, Vl.n, Vl.kids, hu0, hu0h, h1d, Cs.row, hW, hV, h1x, h2y, q10, q11]
            · (repeat' apply And.intro) <;> first | omega | assumption | trivial | (simp [inI, maxLen]; done) | (simp [inI, maxLen]; omega)
            repeat (first | refine AWp.seq ?_ | refine AWp.block ?_)
            apply AWp.reg [] []
            · conv => lhs; simp [Tm.row, Tm.rows_eq, Cs.rows_eq, Vl.row, Vl.rows_eq, Vl.con, Vl.n, Vl.kids, hu0, hu0h, h1d, Cs.row, hW, hV, h1x, h2y, q10, q11]
            · (repeat' apply And.intro) <;> first | omega | assumption | trivial | (simp [inI, maxLen]; done) | (simp [inI, maxLen]; omega)
            refine ⟨⟨j + 1, hi1⟩, by simp; omega, ?_⟩
            dsimp only
            rw [hsn]
            exact Le.sub (by simp [entE, Vl.row, Vl.rows_eq, hW, hV]) (by simp [entE, Vl.row, Vl.rows_eq, hW, hV])
          have hi1 : j = dws.length := by have := of_decide_eq_false hc; omega
          subst hi1
          clear hc
          rw [List.take_length, show vks.take dws.length = vks by rw [hWV, List.take_length]]
          rw [bindE_app] at hx
          obtain ⟨E, hE⟩ : ∃ E, E = bindE dws vks [] := ⟨_, rfl⟩
          rw [← hE] at hx ⊢
          have hwi := cs_with env E
          have hob : True := trivial
          refine AWp.exit ?_
          repeat (first | refine AWp.seq ?_ | refine AWp.block ?_)
          apply AWp.draw [] [.n [(1000, 1001), (1001, 161), (1002, 5), (500, 401)] [.mp 1001, .ptr 1002 0] [(1000, .map true true 3 (entE env)), (1001, .map true true 3 (entE E)), (1002, .blk 95 [.mp 1000])] (.mp 500) [(1000, .map true true 3 (entE env)), (1001, .map true true 3 (entE E)), (1002, .blk 95 [.mp 1000]), (500, .map true true 3 (entE (E ++ env)))] [500], .c [(1001, 401)] [.ptr 1000 0, .agg [.d (.int dk), .d (.int dn), .d (.str da), .d (.str db), .d (strsD dvs), .d (.sl (dxs.map Tm.row)), .d (.sl (dcs.map Cs.row))], .mp 1001] [(1000, .blk 72 [.d (.sl (l.map Fn.row)), .d (.int f), .d (.int c), .d (.int 0)]), (1001, .map true true 3 (entE (E ++ env)))] (.agg [.d (.bool uc), .d (.int un), .d (.sl (uks.map Vl.row))]) [(1000, .blk 72 [.d (.sl (l.map Fn.row)), .d (.int f3), .d (.int c), .d (.int e3)]), (1001, .map true true 3 (entE (E ++ env)))]] mixed
          · conv => lhs; simp [Tm.row, Tm.rows_eq, Cs.rows_eq, Vl.row, Vl.rows_eq, Vl.con, Vl.n, Vl.kids, hu0, hu0h, h1d, Cs.row, hW, hV, q10, q11]
          · kernel_rfl
          · (repeat' apply And.intro) <;> first | omega | assumption | trivial | (simp [inI, maxLen]; done) | (simp [inI, maxLen]; omega)
          refine AWp.ret ?_
          try dsimp only [thenQ, blockQ]
          apply endC.ret
          · rfl
          · conv => lhs; simp [resAV, Try.results57]
          · rfl
          · simp [moEnd, memGet]
        repeat (first | refine AWp.seq ?_ | refine AWp.block ?_)
        apply AWp.draw [] [] mixed
        · conv => lhs; simp [Tm.row, Tm.rows_eq, Cs.rows_eq, Vl.row, Vl.rows_eq, Vl.con, Vl.n, Vl.kids, hu0, hu0h, h1d, Cs.row, hW, hV, q10, q11]
        · kernel_rfl
        · (repeat' apply And.intro) <;> first | omega | assumption | trivial | (simp [inI, maxLen]; done) | (simp [inI, maxLen]; omega)
        repeat (first | refine AWp.seq ?_ | refine AWp.block ?_)
        refine AWp.cond rfl (fun hc => ?_) (fun hc => ?_)
        rotate_left
        · cases hc
        rw [evC_bad q10 (by omega)] at hw3
        subst hw3
        have hn12 := cs_Of1 l f c 11
        repeat (first | refine AWp.seq ?_ | refine AWp.block ?_)
        apply AWp.reg [] [.c [(1001, 3)] [.d (.int 11), .ptr 1001 0] [(1000, .blk 72 [.d (.sl (l.map Fn.row)), .d (.int f), .d (.int c), .d (.int 0)]), (1001, .blk 70 [.ptr 1000 0])] (.agg [.d (.bool false), .d (.int 0), .d (.sl (([] : List Vl).map Vl.row))]) [(1000, .blk 72 [.d (.sl (l.map Fn.row)), .d (.int f), .d (.int c), .d (.int 11)]), (1001, .blk 70 [.ptr 1000 0])]]
        · conv => lhs; simp [Tm.row, Tm.rows_eq, Cs.rows_eq, Vl.row, Vl.rows_eq, Vl.con, Vl.n, Vl.kids, hu0, hu0h, h1d, Cs.row, hW, hV, q10, q11]
        · (repeat' apply And.intro) <;> first | omega | assumption | trivial | (simp [inI, maxLen]; done) | (simp [inI, maxLen]; omega)
        refine AWp.ret ?_
        try dsimp only [thenQ, blockQ]
        apply endC.ret
        · rfl
        · conv => lhs; simp [resAV, Try.results57]
        · rfl
        · simp [moEnd, memGet]
      repeat (first | refine AWp.seq ?_ | refine AWp.block ?_)
      apply AWp.draw [] [] mixed
      · conv => lhs; simp [Tm.row, Tm.rows_eq, Cs.rows_eq, Vl.row, Vl.rows_eq, Vl.con, Vl.n, Vl.kids, hu0, hu0h, h1d, Cs.row, hW, hV, q10]
      · kernel_rfl
      · (repeat' apply And.intro) <;> first | omega | assumption | trivial | (simp [inI, maxLen]; done) | (simp [inI, maxLen]; omega)
      repeat (first | refine AWp.seq ?_ | refine AWp.block ?_)
      refine AWp.cond rfl (fun hc => ?_) (fun hc => ?_)
      · cases hc
      refine AWp.skip ?_
      repeat (first | refine AWp.seq ?_ | refine AWp.block ?_)
      apply AWp.reg [] []
      · conv => lhs; simp [Tm.row, Tm.rows_eq, Cs.rows_eq, Vl.row, Vl.rows_eq, Vl.con, Vl.n, Vl.kids, hu0, hu0h, h1d, Cs.row, hW, hV, q10]
      · (repeat' apply And.intro) <;> first | omega | assumption | trivial | (simp [inI, maxLen]; done) | (simp [inI, maxLen]; omega)
      rw [evC_miss q10] at hw3
      refine ⟨⟨i + 1, hi1, hw3⟩, by simp; omega, ?_⟩
      dsimp only
      exact Le.sub (by simp [hV]) (by simp [hV])
    have hi1 : i = tcs.length := by have := of_decide_eq_false hc; omega
    subst hi1
    clear hc
    rw [List.drop_length, evC] at hw3
    refine AWp.exit ?_
    subst hw3
    have hn13 := cs_Of1 l f c 11
    repeat (first | refine AWp.seq ?_ | refine AWp.block ?_)
    apply AWp.reg [] [.c [(1001, 3)] [.d (.int 11), .ptr 1001 0] [(1000, .blk 72 [.d (.sl (l.map Fn.row)), .d (.int f), .d (.int c), .d (.int 0)]), (1001, .blk 70 [.ptr 1000 0])] (.agg [.d (.bool false), .d (.int 0), .d (.sl (([] : List Vl).map Vl.row))]) [(1000, .blk 72 [.d (.sl (l.map Fn.row)), .d (.int f), .d (.int c), .d (.int 11)]), (1001, .blk 70 [.ptr 1000 0])]]
    · conv => lhs; simp [Tm.row, Tm.rows_eq, Cs.rows_eq, Vl.row, Vl.rows_eq, Vl.con, Vl.n, Vl.kids, hu0, hu0h]
    · (repeat' apply And.intro) <;> first | omega | assumption | trivial | (simp [inI, maxLen]; done) | (simp [inI, maxLen]; omega)
    refine AWp.ret ?_
    try dsimp only [thenQ, blockQ]
    apply endC.ret
    · rfl
    · conv => lhs; simp [resAV, Try.results57]
    · rfl
    · simp [moEnd, memGet]
  | false =>
    repeat (first | refine AWp.seq ?_ | refine AWp.block ?_)
    apply AWp.reg [] []
    · conv => lhs; simp [Tm.row, Tm.rows_eq, Cs.rows_eq, Vl.row, Vl.rows_eq, Vl.con, Vl.n, Vl.kids, hu0, hu0h, q1, q3, q4, q5, q6, q7]
    · (repeat' apply And.intro) <;> first | omega | assumption | trivial | (simp [inI, maxLen]; done) | (simp [inI, maxLen]; omega)
    repeat (first | refine AWp.seq ?_ | refine AWp.block ?_)
    refine AWp.cond rfl (fun hc => ?_) (fun hc => ?_)
    rotate_left
    · cases hc
    rw [if_neg (show ¬ (Vl.mk false vn vks).con = true from Bool.false_ne_true)] at hRk
    subst hRk
    have hn14 := cs_Of1 l f c 10
    repeat (first | refine AWp.seq ?_ | refine AWp.block ?_)
    apply AWp.reg [] [.c [(1001, 3)] [.d (.int 10), .ptr 1001 0] [(1000, .blk 72 [.d (.sl (l.map Fn.row)), .d (.int f), .d (.int c), .d (.int 0)]), (1001, .blk 70 [.ptr 1000 0])] (.agg [.d (.bool false), .d (.int 0), .d (.sl (([] : List Vl).map Vl.row))]) [(1000, .blk 72 [.d (.sl (l.map Fn.row)), .d (.int f), .d (.int c), .d (.int 10)]), (1001, .blk 70 [.ptr 1000 0])]]
    · conv => lhs; simp [Tm.row, Tm.rows_eq, Cs.rows_eq, Vl.row, Vl.rows_eq, Vl.con, Vl.n, Vl.kids, hu0, hu0h]
    · (repeat' apply And.intro) <;> first | omega | assumption | trivial | (simp [inI, maxLen]; done) | (simp [inI, maxLen]; omega)
    refine AWp.ret ?_
    try dsimp only [thenQ, blockQ]
    apply endC.ret
    · rfl
    · conv => lhs; simp [resAV, Try.results57]
    · rfl
    · simp [moEnd, memGet]

end Go.Proofs.Ytialccgjbanmcaa
