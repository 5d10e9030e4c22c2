/- Bindings, failures, a function's place, primitives. Printed by walk_eval_b.py. -/
import Derived.Test.YtialccgjbanmcaaEvalA
import Derived.Test.YtialccgjbanmcaaCheckP
namespace Go.Proofs.Ytialccgjbanmcaa
open Go.RowKit
attribute [local simp] runD mkRc dstOk guardOk opEff opEff0 effOp pureOp callOp zEff evA constAV frGet memGet startAS frOf isGoCall idIn AS.after nextR opnIds objIds AV.ids idsL AObj.ids frNo memNo opnAny isAny mkVal rdCells wrCells fldAddr idxAddr srcRows litRows toD1 toDs setAt sliceAV optI partAV bldAV fillAV binAV binI AV.cells callEff calleeOf frKill memKill AV.kill AObj.kill AV.has AV.hasL Op.operands Call.operands keepF keepM viewIds cChk renOf moGet moWs moQ cEff moLike moHave AV.ren renL AObj.ren AObj.like kept startC moMem AV.frz frz1 frzL frSub memSub frzs AS.frz frFrz memFrz AObj.frz takeMap takeLen bleF Nat.ble_eq memAny objAny mapOp D.keyOk rowAV valRow extOp wrapOp phO
set_option linter.unusedVariables false
set_option linter.unusedSimpArgs false

abbrev Env := List (ByteArray × Vl)
def envGet : Env → ByteArray → Option Vl
  | [], _ => none
  | (x, v) :: r, s => if x = s then some v else envGet r s
abbrev zeroV : Vl := .mk false 0 []
abbrev vlP (v : Vl) : AV := .agg [.d (.bool v.con), .d (.int v.n), .d (.sl (v.kids.map Vl.row))]
theorem vlP_eq (v : Vl) : vlP v = vlAV v := by cases v; rfl
def envVal (e : Env) (s : ByteArray) : Vl := (envGet e s).getD zeroV
def envHas (e : Env) (s : ByteArray) : Bool := (envGet e s).isSome
def envD : Env → D
  | [] => .nil
  | (x, v) :: r => .ptr (.str x :: (v.row ++ [envD r]))
theorem envVal_eq {x s : ByteArray} (h : x = s) (v : Vl) (r : Env) : envVal ((x, v) :: r) s = v := by simp [envVal, envGet, h]
theorem envHas_eq {x s : ByteArray} (h : x = s) (v : Vl) (r : Env) : envHas ((x, v) :: r) s = true := by simp [envHas, envGet, h]
theorem envVal_ne {x s : ByteArray} (h : ¬ x = s) (v : Vl) (r : Env) : envVal ((x, v) :: r) s = envVal r s := by simp [envVal, envGet, h]
theorem envHas_ne {x s : ByteArray} (h : ¬ x = s) (v : Vl) (r : Env) : envHas ((x, v) :: r) s = envHas r s := by simp [envHas, envGet, h]

set_option maxRecDepth 20000 in
set_option maxHeartbeats 4000000 in
theorem sp_find (env : Env) (s : ByteArray) : PSpec Try.prog 63 [.d (envD env), .d (.str s)] (fun _ => .tuple [vlP (envVal env s), .d (.bool (envHas env s))]) none := by
  refine PSpec.of Try.func63 rfl rfl rfl (Nat.le_of_ble_eq_true rfl) ?_
  show AWp _ _ (endQ _ Try.f63 _ _ _) (startAS 23 _)
  repeat (first | refine AWp.seq ?_ | refine AWp.block ?_)
  apply AWp.reg [] []
  · conv => lhs; simp
  · trivial
  repeat (first | refine AWp.seq ?_ | refine AWp.block ?_)
  refine AWp.loop (σ := fun u : {e : Env // envVal e s = envVal env s ∧ envHas e s = envHas env s} => ⟨23, [(0, .d (envD u.1)), (1, .d (.str s)), (4, .ptr 4 0)], [(4, some (.blk 26 [.d (.bool false), .d (.int 0), .lit (.slice none 0 0)]))]⟩)
    (μ := fun u => u.1.length) ⟨env, rfl, rfl⟩ (Le.sub (by simp) (by simp)) (fun ⟨e, hv, hh⟩ => ?_)
  dsimp only
  cases e with
  | nil =>
    repeat (first | refine AWp.seq ?_ | refine AWp.block ?_)
    apply AWp.reg [] []
    · conv => lhs; simp [envD]
    · trivial
    repeat (first | refine AWp.seq ?_ | refine AWp.block ?_)
    refine AWp.cond rfl (fun h => ?_) (fun h => ?_)
    · cases h
    refine AWp.exit ?_
    repeat (first | refine AWp.seq ?_ | refine AWp.block ?_)
    apply AWp.reg [] []
    · conv => lhs; simp
    · trivial
    refine AWp.ret ?_
    try dsimp only [thenQ, blockQ]
    apply endQ.ret
    · rfl
    · conv => lhs; simp [resAV, Try.results63]
    · rw [← hv, ← hh]; rfl
  | cons p r =>
    obtain ⟨x, v⟩ := p
    obtain ⟨c, n, ks⟩ := v
    repeat (first | refine AWp.seq ?_ | refine AWp.block ?_)
    apply AWp.reg [] []
    · conv => lhs; simp [envD, Vl.row, Vl.rows_eq]
    · trivial
    repeat (first | refine AWp.seq ?_ | refine AWp.block ?_)
    refine AWp.cond rfl (fun h => ?_) (fun h => ?_)
    rotate_left
    · cases h
    refine AWp.skip ?_
    by_cases hx : x = s
    · rw [envVal_eq hx] at hv
      rw [envHas_eq hx] at hh
      repeat (first | refine AWp.seq ?_ | refine AWp.block ?_)
      apply AWp.reg [] []
      · conv => lhs; simp [envD, Vl.row, Vl.rows_eq, hx]
      · trivial
      repeat (first | refine AWp.seq ?_ | refine AWp.block ?_)
      refine AWp.cond rfl (fun h2 => ?_) (fun h2 => ?_)
      rotate_left
      · cases h2
      repeat (first | refine AWp.seq ?_ | refine AWp.block ?_)
      apply AWp.reg [] []
      · conv => lhs; simp [envD, Vl.row, Vl.rows_eq, hx]
      · trivial
      refine AWp.ret ?_
      try dsimp only [thenQ, blockQ]
      apply endQ.ret
      · rfl
      · conv => lhs; simp [resAV, Try.results63, envD, Vl.row, Vl.rows_eq, hx]
      · rw [← hv, ← hh]; rfl
    · rw [envVal_ne hx] at hv
      rw [envHas_ne hx] at hh
      repeat (first | refine AWp.seq ?_ | refine AWp.block ?_)
      apply AWp.reg [] []
      · conv => lhs; simp [envD, Vl.row, Vl.rows_eq, hx]
      · trivial
      repeat (first | refine AWp.seq ?_ | refine AWp.block ?_)
      refine AWp.cond rfl (fun h2 => ?_) (fun h2 => ?_)
      · cases h2
      refine AWp.skip ?_
      repeat (first | refine AWp.seq ?_ | refine AWp.block ?_)
      apply AWp.reg [] []
      · conv => lhs; simp [envD, Vl.row, Vl.rows_eq, hx]
      · trivial
      exact ⟨⟨r, hv, hh⟩, Nat.lt_succ_self _, Le.sub (by simp) (by simp)⟩

abbrev tlObj (l : List Fn) (fuel calls err : Int) : AObj := .blk 68 [fnsAV l, .d (.int fuel), .d (.int calls), .d (.int err)]
theorem cs_fail (l : List Fn) (fuel calls w : Int) : CSpec Try.prog 55 [.ptr 1000 0, .d (.int w)] [(1000, tlObj l fuel calls 0)] (vlAV zeroV) [(1000, tlObj l fuel calls w)] := by
  refine CSpec.of Try.func55 rfl rfl (Nat.le_of_ble_eq_true rfl) ?_
  show AWp _ _ (endC _ Try.f55 _ _) (startC 15 _ _)
  repeat (first | refine AWp.seq ?_ | refine AWp.block ?_)
  apply AWp.reg [] []
  · conv => lhs; simp
  · trivial
  repeat (first | refine AWp.seq ?_ | refine AWp.block ?_)
  apply AWp.reg [] []
  · conv => lhs; simp
  · trivial
  repeat (first | refine AWp.seq ?_ | refine AWp.block ?_)
  refine AWp.cond rfl (fun h => ?_) (fun h => ?_)
  rotate_left
  · cases h
  repeat (first | refine AWp.seq ?_ | refine AWp.block ?_)
  apply AWp.reg [] []
  · conv => lhs; simp
  · trivial
  repeat (first | refine AWp.seq ?_ | refine AWp.block ?_)
  apply AWp.reg [] []
  · conv => lhs; simp
  · trivial
  refine AWp.ret ?_
  try dsimp only [thenQ, blockQ]
  apply endC.ret
  · rfl
  · conv => lhs; simp [resAV, Try.results55]
  · rfl
  · simp [moEnd, memGet]

/-- Where a function stands first. -/
def indexF (l : List Fn) (p : Fn → Bool) : Int := match l.findIdx? p with | some i => i | none => -1
theorem indexF_some {l : List Fn} {p : Fn → Bool} {i : Nat} {x : Fn} (hx : l[i]? = some x) (h : ∀ y ∈ l.take i, p y = false) (hp : p x = true) : indexF l p = i := by
  unfold indexF
  have : l.findIdx? p = some i := by
    rw [List.findIdx?_eq_some_iff_getElem]
    have hi := (List.getElem?_eq_some_iff.1 hx)
    refine ⟨hi.1, by rw [hi.2]; exact hp, fun j hj => ?_⟩
    have hjl : j < l.length := by have := hi.1; omega
    have := h (l[j]'hjl) (List.mem_iff_getElem?.2 ⟨j, by rw [List.getElem?_take, if_pos hj]; exact List.getElem?_eq_getElem hjl⟩)
    simp [this]
  rw [this]
theorem indexF_none {l : List Fn} {p : Fn → Bool} (h : ∀ y ∈ l, p y = false) : indexF l p = -1 := by
  unfold indexF
  have : l.findIdx? p = none := by
    rw [List.findIdx?_eq_none_iff]
    exact h
  rw [this]
theorem takeF_snoc {l : List Fn} {p : Fn → Bool} {i : Nat} {x : Fn} (hx : l[i]? = some x) (h : ∀ y ∈ l.take i, p y = false) (hp : p x = false) : ∀ y ∈ l.take (i + 1), p y = false := by
  rw [List.take_add_one, hx]
  intro y hy
  rcases List.mem_append.1 hy with hy | hy
  · exact h y hy
  · simp at hy; subst hy; exact hp
abbrev fnAV : Fn → AV
  | ⟨a, ps, .mk k n b c vs xs cs⟩ => .agg [.d (.str a), .d (strsD ps), .d (.int k), .d (.int n), .d (.str b), .d (.str c), .d (strsD vs), .d (.sl (xs.map Tm.row)), .d (.sl (cs.map Cs.row))]
abbrev nbObj (s : ByteArray) : AObj := .blk 9 [.d (.str s)]
theorem cs_callFn (x : Fn) (s : ByteArray) : CSpec Try.prog 54 [fnAV x, .ptr 1000 0] [(1000, nbObj s)] (.d (.bool (eqB x.name s))) [(1000, nbObj s)] := by
  obtain ⟨g, ps, bd⟩ := x
  obtain ⟨xk, xn, xa, xb, xv, xx, xc⟩ := bd
  refine CSpec.of Try.func54 rfl rfl (Nat.le_of_ble_eq_true rfl) ?_
  show AWp _ _ (endC _ Try.f54 _ _) (startC 8 _ _)
  repeat (first | refine AWp.seq ?_ | refine AWp.block ?_)
  apply AWp.reg [] []
  · conv => lhs; simp
  · trivial
  by_cases h : g = s
  · subst h
    repeat (first | refine AWp.seq ?_ | refine AWp.block ?_)
    apply AWp.reg [] []
    · conv => lhs; simp
    · trivial
    refine AWp.ret ?_
    try dsimp only [thenQ, blockQ]
    apply endC.ret
    · rfl
    · conv => lhs; simp [resAV, Try.results54]
    · rw [eqB_self]; rfl
    · simp [moEnd, memGet]
  · repeat (first | refine AWp.seq ?_ | refine AWp.block ?_)
    apply AWp.reg [] []
    · conv => lhs; simp [h]
    · trivial
    refine AWp.ret ?_
    try dsimp only [thenQ, blockQ]
    apply endC.ret
    · rfl
    · conv => lhs; simp [resAV, Try.results54]
    · rw [eqB_ne h]; rfl
    · simp [moEnd, memGet]

set_option maxHeartbeats 1000000 in
theorem cs_IndexFn (l : List Fn) (s0 : ByteArray) (hl : l.length ≤ 879609302220) (p : Fn → Bool) (K : Nat) 
    (hk : ∀ s ∈ l, CSpec Try.prog K [fnAV s, .ptr 1000 0] [(1000, nbObj s0)] (.d (.bool (p s))) [(1000, nbObj s0)]) :
    CSpec Try.prog 53 [fnsAV l, .clo K [.ptr 1000 0]] [(1000, nbObj s0)] (.d (.int (indexF l p))) [(1000, nbObj s0)] := by
  refine CSpec.of Try.func53 rfl rfl (Nat.le_of_ble_eq_true rfl) ?_
  show AWp _ _ (endC _ Try.f53 _ _) (startC 19 _ _)
  repeat (first | refine AWp.seq ?_ | refine AWp.block ?_)
  apply AWp.reg [] []
  · conv => lhs; simp
  · trivial
  repeat (first | refine AWp.seq ?_ | refine AWp.block ?_)
  apply AWp.reg [] []
  · conv => lhs; simp
  · trivial
  repeat (first | refine AWp.seq ?_ | refine AWp.block ?_)
  refine AWp.loop (σ := fun u : {i : Nat // i ≤ l.length ∧ ∀ y ∈ l.take i, p y = false} => ⟨19, [(0, fnsAV l), (1, .clo K [.ptr 1000 0]), (7, .d (.int l.length)), (8, .d (.int u.1))], [(1000, some (nbObj s0))]⟩)
    (μ := fun u => l.length - u.1) ⟨0, Nat.zero_le _, by simp⟩ (Le.sub (by simp) (by simp)) (fun ⟨i, hi, ht⟩ => ?_)
  dsimp only
  repeat (first | refine AWp.seq ?_ | refine AWp.block ?_)
  apply AWp.reg [] []
  · conv => lhs; simp
  · trivial
  repeat (first | refine AWp.seq ?_ | refine AWp.block ?_)
  refine AWp.cond rfl (fun h => ?_) (fun h => ?_)
  · have hi1 : i < l.length := by have := of_decide_eq_true h; omega
    have h1 : l[i]? = some l[i] := List.getElem?_eq_getElem hi1
    have hmem : l[i] ∈ l := List.getElem_mem hi1
    generalize l[i] = y at h1 hmem
    have hc := hk y hmem
    obtain ⟨B, hB⟩ : ∃ B, B = p y := ⟨_, rfl⟩
    rw [← hB] at hc
    obtain ⟨g, ps, bd⟩ := y
    obtain ⟨xk, xn, xa, xb, xv, xx, xc⟩ := bd
    refine AWp.skip ?_
    repeat (first | refine AWp.seq ?_ | refine AWp.block ?_)
    apply AWp.reg [] []
    · conv => lhs; simp
    · trivial
    cases B with
    | true =>
      repeat (first | refine AWp.seq ?_ | refine AWp.block ?_)
      apply AWp.reg [] [.c [] [fnAV ⟨g, ps, .mk xk xn xa xb xv xx xc⟩, .ptr 1000 0] [(1000, nbObj s0)] (.d (.bool true)) [(1000, nbObj s0)]]
      · conv => lhs; simp [h1, Fn.row, Tm.row, Tm.rows_eq, Cs.rows_eq]
      · first | exact hc | exact ⟨by omega, hc⟩
      repeat (first | refine AWp.seq ?_ | refine AWp.block ?_)
      refine AWp.cond rfl (fun h2 => ?_) (fun h2 => ?_)
      · repeat (first | refine AWp.seq ?_ | refine AWp.block ?_)
        apply AWp.reg [] []
        · conv => lhs; simp
        · trivial
        refine AWp.ret ?_
        try dsimp only [thenQ, blockQ]
        apply endC.ret
        · rfl
        · conv => lhs; simp [resAV, Try.results53]
        · rw [indexF_some h1 ht hB.symm]; rfl
        · simp [moEnd, memGet]
      · simp at h2
    | false =>
      repeat (first | refine AWp.seq ?_ | refine AWp.block ?_)
      apply AWp.reg [] [.c [] [fnAV ⟨g, ps, .mk xk xn xa xb xv xx xc⟩, .ptr 1000 0] [(1000, nbObj s0)] (.d (.bool false)) [(1000, nbObj s0)]]
      · conv => lhs; simp [h1, Fn.row, Tm.row, Tm.rows_eq, Cs.rows_eq]
      · first | exact hc | exact ⟨by omega, hc⟩
      repeat (first | refine AWp.seq ?_ | refine AWp.block ?_)
      refine AWp.cond rfl (fun h2 => ?_) (fun h2 => ?_)
      · simp at h2
      refine AWp.skip ?_
      repeat (first | refine AWp.seq ?_ | refine AWp.block ?_)
      apply AWp.reg [] []
      · conv => lhs; simp
      · first | trivial | omega | (simp [inI, maxLen]; done) | (simp [inI, maxLen]; omega)
      refine ⟨⟨i + 1, hi1, takeF_snoc h1 ht hB.symm⟩, by simp; omega, Le.sub (by simp) (by simp)⟩
  have hi1 : i = l.length := by have := of_decide_eq_false h; omega
  subst hi1
  rw [List.take_length] at ht
  refine AWp.exit ?_
  repeat (first | refine AWp.seq ?_ | refine AWp.block ?_)
  apply AWp.reg [] []
  · conv => lhs; simp
  · trivial
  refine AWp.ret ?_
  try dsimp only [thenQ, blockQ]
  apply endC.ret
  · rfl
  · conv => lhs; simp [resAV, Try.results53]
  · rw [indexF_none ht]; rfl
  · simp [moEnd, memGet]

def bi (b : Bool) : Int := if b then 1 else 0
/-- What a primitive makes of two numbers. -/
def primV (p a b : Int) : Vl × Int :=
  if p = 1 then (.mk false (wr32 (a + b)) [], 0) else if p = 2 then (.mk false (wr32 (a - b)) [], 0) else if p = 3 then (.mk false (wr32 (a * b)) [], 0)
  else if p = 4 then (.mk true (bi (decide (a < b))) [], 0) else if p = 5 then (.mk true (bi (decide (a = b))) [], 0) else (zeroV, 1)
theorem inI_wr32 (n : Int) : -9223372036854775808 ≤ wr32 n ∧ wr32 n ≤ 9223372036854775807 := by have := wr32_in n; omega
theorem wr32_add (a b : Int) : wr32 (wr32 a + wr32 b) = wr32 (a + b) := by unfold wr32; omega
theorem wr32_sub (a b : Int) : wr32 (wr32 a - wr32 b) = wr32 (a - b) := by unfold wr32; omega
theorem wr32_mod (a : Int) : ∃ k : Int, wr32 a = a + 4294967296 * k := ⟨-((a + 2147483648) / 4294967296), by unfold wr32; omega⟩
theorem wr32_of {a b k : Int} (h : a = b + 4294967296 * k) : wr32 a = wr32 b := by unfold wr32; omega
theorem wr32_mul (a b : Int) : wr32 (wr32 a * wr32 b) = wr32 (a * b) := by
  obtain ⟨k, hk⟩ := wr32_mod a
  obtain ⟨j, hj⟩ := wr32_mod b
  refine wr32_of (k := a * j + k * b + 4294967296 * (k * j)) ?_
  rw [hk, hj, Int.add_mul, Int.mul_add, Int.mul_add, Int.mul_add, Int.mul_add, Int.mul_left_comm a, Int.mul_assoc, Int.mul_assoc, Int.mul_left_comm k]
  omega
theorem sp_Prim1 (b : Bool) : PSpec Try.prog 34 [.d (.bool b)] (fun _ => vlAV (.mk true (bi b) [])) none := by
  refine PSpec.of Try.func34 rfl rfl rfl (Nat.le_of_ble_eq_true rfl) ?_
  show AWp _ _ (endQ _ Try.f34 _ _ _) (startAS 6 _)
  repeat (first | refine AWp.seq ?_ | refine AWp.block ?_)
  apply AWp.reg [] []
  · conv => lhs; simp
  · trivial
  repeat (first | refine AWp.seq ?_ | refine AWp.block ?_)
  apply AWp.reg [] []
  · conv => lhs; simp
  · trivial
  cases b with
  | true =>
    repeat (first | refine AWp.seq ?_ | refine AWp.block ?_)
    refine AWp.cond rfl (fun h => ?_) (fun h => ?_)
    rotate_left
    · cases h
    repeat (first | refine AWp.seq ?_ | refine AWp.block ?_)
    apply AWp.reg [] []
    · conv => lhs; simp
    · trivial
    refine AWp.ret ?_
    try dsimp only [thenQ, blockQ]
    apply endQ.ret
    · rfl
    · conv => lhs; simp [resAV, Try.results34]
    · rfl
  | false =>
    repeat (first | refine AWp.seq ?_ | refine AWp.block ?_)
    refine AWp.cond rfl (fun h => ?_) (fun h => ?_)
    · cases h
    refine AWp.skip ?_
    repeat (first | refine AWp.seq ?_ | refine AWp.block ?_)
    apply AWp.reg [] []
    · conv => lhs; simp
    · trivial
    refine AWp.ret ?_
    try dsimp only [thenQ, blockQ]
    apply endQ.ret
    · rfl
    · conv => lhs; simp [resAV, Try.results34]
    · rfl
set_option maxHeartbeats 4000000 in
theorem sp_evPrim (p a b : Int) : PSpec Try.prog 12 [.d (.int p), .d (.int a), .d (.int b)] (fun _ => .tuple [vlP (primV p a b).1, .d (.int (primV p a b).2)]) none := by
  refine PSpec.of Try.func12 rfl rfl rfl (Nat.le_of_ble_eq_true rfl) ?_
  show AWp _ _ (endQ _ Try.f12 _ _ _) (startAS 49 _)
  repeat (first | refine AWp.seq ?_ | refine AWp.block ?_)
  apply AWp.reg [] []
  · conv => lhs; simp [wr32_wr]
  · (repeat' apply And.intro) <;> first | omega | assumption | trivial | (simp [inI, maxLen]; done) | (simp [inI, maxLen]; omega)
  repeat (first | refine AWp.seq ?_ | refine AWp.block ?_)
  apply AWp.reg [] []
  · conv => lhs; simp [wr32_wr]
  · (repeat' apply And.intro) <;> first | omega | assumption | trivial | (simp [inI, maxLen]; done) | (simp [inI, maxLen]; omega)
  repeat (first | refine AWp.seq ?_ | refine AWp.block ?_)
  apply AWp.reg [] []
  · conv => lhs; simp [wr32_wr]
  · (repeat' apply And.intro) <;> first | omega | assumption | trivial | (simp [inI, maxLen]; done) | (simp [inI, maxLen]; omega)
  by_cases q1 : p = 1
  · repeat (first | refine AWp.seq ?_ | refine AWp.block ?_)
    apply AWp.reg [] []
    · conv => lhs; simp [wr32_wr, q1]
    · (repeat' apply And.intro) <;> first | omega | assumption | trivial | (simp [inI, maxLen]; done) | (simp [inI, maxLen]; omega)
    repeat (first | refine AWp.seq ?_ | refine AWp.block ?_)
    refine AWp.cond rfl (fun hc => ?_) (fun hc => ?_)
    rotate_left
    · cases hc
    obtain ⟨hI1, hI2⟩ := inI_wr32 (a + b)
    repeat (first | refine AWp.seq ?_ | refine AWp.block ?_)
    apply AWp.reg [2] []
    · conv => lhs; simp [wr32_wr, q1]
    · (repeat' apply And.intro) <;> first | omega | assumption | trivial | (simp [inI, maxLen]; done) | (simp [inI, maxLen]; omega)
    refine AWp.ret ?_
    rw [show primV p a b = (.mk false (wr32 (a + b)) [], 0) by simp [primV, q1]]
    try dsimp only [thenQ, blockQ]
    apply endQ.ret
    · rfl
    · conv => lhs; simp [resAV, Try.results12, wr32_wr]
    · rfl
  repeat (first | refine AWp.seq ?_ | refine AWp.block ?_)
  apply AWp.reg [] []
  · conv => lhs; simp [wr32_wr, q1]
  · (repeat' apply And.intro) <;> first | omega | assumption | trivial | (simp [inI, maxLen]; done) | (simp [inI, maxLen]; omega)
  repeat (first | refine AWp.seq ?_ | refine AWp.block ?_)
  refine AWp.cond rfl (fun hc => ?_) (fun hc => ?_)
  · cases hc
  by_cases q2 : p = 2
  · repeat (first | refine AWp.seq ?_ | refine AWp.block ?_)
    apply AWp.reg [] []
    · conv => lhs; simp [wr32_wr, q1, q2]
    · (repeat' apply And.intro) <;> first | omega | assumption | trivial | (simp [inI, maxLen]; done) | (simp [inI, maxLen]; omega)
    repeat (first | refine AWp.seq ?_ | refine AWp.block ?_)
    refine AWp.cond rfl (fun hc => ?_) (fun hc => ?_)
    rotate_left
    · cases hc
    obtain ⟨hI1, hI2⟩ := inI_wr32 (a - b)
    repeat (first | refine AWp.seq ?_ | refine AWp.block ?_)
    apply AWp.reg [2] []
    · conv => lhs; simp [wr32_wr, q1, q2]
    · (repeat' apply And.intro) <;> first | omega | assumption | trivial | (simp [inI, maxLen]; done) | (simp [inI, maxLen]; omega)
    refine AWp.ret ?_
    rw [show primV p a b = (.mk false (wr32 (a - b)) [], 0) by simp [primV, q1, q2]]
    try dsimp only [thenQ, blockQ]
    apply endQ.ret
    · rfl
    · conv => lhs; simp [resAV, Try.results12, wr32_wr]
    · rfl
  repeat (first | refine AWp.seq ?_ | refine AWp.block ?_)
  apply AWp.reg [] []
  · conv => lhs; simp [wr32_wr, q1, q2]
  · (repeat' apply And.intro) <;> first | omega | assumption | trivial | (simp [inI, maxLen]; done) | (simp [inI, maxLen]; omega)
  repeat (first | refine AWp.seq ?_ | refine AWp.block ?_)
  refine AWp.cond rfl (fun hc => ?_) (fun hc => ?_)
  · cases hc
  by_cases q3 : p = 3
  · repeat (first | refine AWp.seq ?_ | refine AWp.block ?_)
    apply AWp.reg [] []
    · conv => lhs; simp [wr32_wr, q1, q2, q3]
    · (repeat' apply And.intro) <;> first | omega | assumption | trivial | (simp [inI, maxLen]; done) | (simp [inI, maxLen]; omega)
    repeat (first | refine AWp.seq ?_ | refine AWp.block ?_)
    refine AWp.cond rfl (fun hc => ?_) (fun hc => ?_)
    rotate_left
    · cases hc
    obtain ⟨hI1, hI2⟩ := inI_wr32 (a * b)
    repeat (first | refine AWp.seq ?_ | refine AWp.block ?_)
    apply AWp.reg [2] []
    · conv => lhs; simp [wr32_wr, q1, q2, q3]
    · (repeat' apply And.intro) <;> first | omega | assumption | trivial | (simp [inI, maxLen]; done) | (simp [inI, maxLen]; omega)
    refine AWp.ret ?_
    rw [show primV p a b = (.mk false (wr32 (a * b)) [], 0) by simp [primV, q1, q2, q3]]
    try dsimp only [thenQ, blockQ]
    apply endQ.ret
    · rfl
    · conv => lhs; simp [resAV, Try.results12, wr32_wr]
    · rfl
  repeat (first | refine AWp.seq ?_ | refine AWp.block ?_)
  apply AWp.reg [] []
  · conv => lhs; simp [wr32_wr, q1, q2, q3]
  · (repeat' apply And.intro) <;> first | omega | assumption | trivial | (simp [inI, maxLen]; done) | (simp [inI, maxLen]; omega)
  repeat (first | refine AWp.seq ?_ | refine AWp.block ?_)
  refine AWp.cond rfl (fun hc => ?_) (fun hc => ?_)
  · cases hc
  by_cases q4 : p = 4
  · repeat (first | refine AWp.seq ?_ | refine AWp.block ?_)
    apply AWp.reg [] []
    · conv => lhs; simp [wr32_wr, q1, q2, q3, q4]
    · (repeat' apply And.intro) <;> first | omega | assumption | trivial | (simp [inI, maxLen]; done) | (simp [inI, maxLen]; omega)
    repeat (first | refine AWp.seq ?_ | refine AWp.block ?_)
    refine AWp.cond rfl (fun hc => ?_) (fun hc => ?_)
    rotate_left
    · cases hc
    have hq := sp_Prim1 (decide (a < b))
    repeat (first | refine AWp.seq ?_ | refine AWp.block ?_)
    apply AWp.reg [] [.p (fun _ => vlAV (.mk true (bi (decide (a < b))) [])) none]
    · conv => lhs; simp [wr32_wr, q1, q2, q3, q4]
    · (repeat' apply And.intro) <;> first | omega | assumption | trivial | (simp [inI, maxLen]; done) | (simp [inI, maxLen]; omega)
    refine AWp.ret ?_
    rw [show primV p a b = (.mk true (bi (decide (a < b))) [], 0) by simp [primV, q1, q2, q3, q4]]
    try dsimp only [thenQ, blockQ]
    apply endQ.ret
    · rfl
    · conv => lhs; simp [resAV, Try.results12, wr32_wr]
    · rfl
  repeat (first | refine AWp.seq ?_ | refine AWp.block ?_)
  apply AWp.reg [] []
  · conv => lhs; simp [wr32_wr, q1, q2, q3, q4]
  · (repeat' apply And.intro) <;> first | omega | assumption | trivial | (simp [inI, maxLen]; done) | (simp [inI, maxLen]; omega)
  repeat (first | refine AWp.seq ?_ | refine AWp.block ?_)
  refine AWp.cond rfl (fun hc => ?_) (fun hc => ?_)
  · cases hc
  by_cases q5 : p = 5
  · repeat (first | refine AWp.seq ?_ | refine AWp.block ?_)
    apply AWp.reg [] []
    · conv => lhs; simp [wr32_wr, q1, q2, q3, q4, q5]
    · (repeat' apply And.intro) <;> first | omega | assumption | trivial | (simp [inI, maxLen]; done) | (simp [inI, maxLen]; omega)
    repeat (first | refine AWp.seq ?_ | refine AWp.block ?_)
    refine AWp.cond rfl (fun hc => ?_) (fun hc => ?_)
    rotate_left
    · cases hc
    have hq := sp_Prim1 (decide (a = b))
    repeat (first | refine AWp.seq ?_ | refine AWp.block ?_)
    apply AWp.reg [] [.p (fun _ => vlAV (.mk true (bi (decide (a = b))) [])) none]
    · conv => lhs; simp [wr32_wr, q1, q2, q3, q4, q5]
    · (repeat' apply And.intro) <;> first | omega | assumption | trivial | (simp [inI, maxLen]; done) | (simp [inI, maxLen]; omega)
    refine AWp.ret ?_
    rw [show primV p a b = (.mk true (bi (decide (a = b))) [], 0) by simp [primV, q1, q2, q3, q4, q5]]
    try dsimp only [thenQ, blockQ]
    apply endQ.ret
    · rfl
    · conv => lhs; simp [resAV, Try.results12, wr32_wr]
    · rfl
  repeat (first | refine AWp.seq ?_ | refine AWp.block ?_)
  apply AWp.reg [] []
  · conv => lhs; simp [wr32_wr, q1, q2, q3, q4, q5]
  · (repeat' apply And.intro) <;> first | omega | assumption | trivial | (simp [inI, maxLen]; done) | (simp [inI, maxLen]; omega)
  repeat (first | refine AWp.seq ?_ | refine AWp.block ?_)
  refine AWp.cond rfl (fun hc => ?_) (fun hc => ?_)
  · cases hc
  refine AWp.skip ?_
  repeat (first | refine AWp.seq ?_ | refine AWp.block ?_)
  apply AWp.reg [] []
  · conv => lhs; simp [wr32_wr, q1, q2, q3, q4, q5]
  · (repeat' apply And.intro) <;> first | omega | assumption | trivial | (simp [inI, maxLen]; done) | (simp [inI, maxLen]; omega)
  refine AWp.ret ?_
  rw [show primV p a b = (zeroV, 1) by simp [primV, q1, q2, q3, q4, q5]]
  try dsimp only [thenQ, blockQ]
  apply endQ.ret
  · rfl
  · conv => lhs; simp [resAV, Try.results12, wr32_wr]
  · rfl
set_option maxHeartbeats 4000000 in
theorem sp_refPrim (p a b : Int) : PSpec Try.prog 13 [.d (.int p), .d (.int a), .d (.int b)] (fun _ => .tuple [vlP (primV p a b).1, .d (.int (primV p a b).2)]) none := by
  refine PSpec.of Try.func13 rfl rfl rfl (Nat.le_of_ble_eq_true rfl) ?_
  show AWp _ _ (endQ _ Try.f13 _ _ _) (startAS 60 _)
  repeat (first | refine AWp.seq ?_ | refine AWp.block ?_)
  apply AWp.reg [] []
  · conv => lhs; simp
  · (repeat' apply And.intro) <;> first | omega | assumption | trivial | (simp [inI, maxLen]; done) | (simp [inI, maxLen]; omega)
  repeat (first | refine AWp.seq ?_ | refine AWp.block ?_)
  apply AWp.reg [] []
  · conv => lhs; simp
  · (repeat' apply And.intro) <;> first | omega | assumption | trivial | (simp [inI, maxLen]; done) | (simp [inI, maxLen]; omega)
  repeat (first | refine AWp.seq ?_ | refine AWp.block ?_)
  apply AWp.reg [] []
  · conv => lhs; simp
  · (repeat' apply And.intro) <;> first | omega | assumption | trivial | (simp [inI, maxLen]; done) | (simp [inI, maxLen]; omega)
  by_cases q1 : p = 1
  · repeat (first | refine AWp.seq ?_ | refine AWp.block ?_)
    apply AWp.reg [] []
    · conv => lhs; simp [q1]
    · (repeat' apply And.intro) <;> first | omega | assumption | trivial | (simp [inI, maxLen]; done) | (simp [inI, maxLen]; omega)
    repeat (first | refine AWp.seq ?_ | refine AWp.block ?_)
    refine AWp.cond rfl (fun hc => ?_) (fun hc => ?_)
    rotate_left
    · cases hc
    obtain ⟨hI1, hI2⟩ := inI_wr32 (wr32 a + wr32 b)
    repeat (first | refine AWp.seq ?_ | refine AWp.block ?_)
    apply AWp.reg [2] []
    · conv => lhs; simp [q1]
    · (repeat' apply And.intro) <;> first | omega | assumption | trivial | (simp [inI, maxLen]; done) | (simp [inI, maxLen]; omega)
    refine AWp.ret ?_
    rw [show primV p a b = (.mk false (wr32 (a + b)) [], 0) by simp [primV, q1]]
    try dsimp only [thenQ, blockQ]
    apply endQ.ret
    · rfl
    · conv => lhs; simp [resAV, Try.results13, wr32_add]
    · rfl
  repeat (first | refine AWp.seq ?_ | refine AWp.block ?_)
  apply AWp.reg [] []
  · conv => lhs; simp [q1]
  · (repeat' apply And.intro) <;> first | omega | assumption | trivial | (simp [inI, maxLen]; done) | (simp [inI, maxLen]; omega)
  repeat (first | refine AWp.seq ?_ | refine AWp.block ?_)
  refine AWp.cond rfl (fun hc => ?_) (fun hc => ?_)
  · cases hc
  by_cases q2 : p = 2
  · repeat (first | refine AWp.seq ?_ | refine AWp.block ?_)
    apply AWp.reg [] []
    · conv => lhs; simp [q1, q2]
    · (repeat' apply And.intro) <;> first | omega | assumption | trivial | (simp [inI, maxLen]; done) | (simp [inI, maxLen]; omega)
    repeat (first | refine AWp.seq ?_ | refine AWp.block ?_)
    refine AWp.cond rfl (fun hc => ?_) (fun hc => ?_)
    rotate_left
    · cases hc
    obtain ⟨hI1, hI2⟩ := inI_wr32 (wr32 a - wr32 b)
    repeat (first | refine AWp.seq ?_ | refine AWp.block ?_)
    apply AWp.reg [2] []
    · conv => lhs; simp [q1, q2]
    · (repeat' apply And.intro) <;> first | omega | assumption | trivial | (simp [inI, maxLen]; done) | (simp [inI, maxLen]; omega)
    refine AWp.ret ?_
    rw [show primV p a b = (.mk false (wr32 (a - b)) [], 0) by simp [primV, q1, q2]]
    try dsimp only [thenQ, blockQ]
    apply endQ.ret
    · rfl
    · conv => lhs; simp [resAV, Try.results13, wr32_sub]
    · rfl
  repeat (first | refine AWp.seq ?_ | refine AWp.block ?_)
  apply AWp.reg [] []
  · conv => lhs; simp [q1, q2]
  · (repeat' apply And.intro) <;> first | omega | assumption | trivial | (simp [inI, maxLen]; done) | (simp [inI, maxLen]; omega)
  repeat (first | refine AWp.seq ?_ | refine AWp.block ?_)
  refine AWp.cond rfl (fun hc => ?_) (fun hc => ?_)
  · cases hc
  by_cases q3 : p = 3
  · repeat (first | refine AWp.seq ?_ | refine AWp.block ?_)
    apply AWp.reg [] []
    · conv => lhs; simp [q1, q2, q3]
    · (repeat' apply And.intro) <;> first | omega | assumption | trivial | (simp [inI, maxLen]; done) | (simp [inI, maxLen]; omega)
    repeat (first | refine AWp.seq ?_ | refine AWp.block ?_)
    refine AWp.cond rfl (fun hc => ?_) (fun hc => ?_)
    rotate_left
    · cases hc
    obtain ⟨hI1, hI2⟩ := inI_wr32 (wr32 a * wr32 b)
    repeat (first | refine AWp.seq ?_ | refine AWp.block ?_)
    apply AWp.reg [2] []
    · conv => lhs; simp [q1, q2, q3]
    · (repeat' apply And.intro) <;> first | omega | assumption | trivial | (simp [inI, maxLen]; done) | (simp [inI, maxLen]; omega)
    refine AWp.ret ?_
    rw [show primV p a b = (.mk false (wr32 (a * b)) [], 0) by simp [primV, q1, q2, q3]]
    try dsimp only [thenQ, blockQ]
    apply endQ.ret
    · rfl
    · conv => lhs; simp [resAV, Try.results13, wr32_mul]
    · rfl
  repeat (first | refine AWp.seq ?_ | refine AWp.block ?_)
  apply AWp.reg [] []
  · conv => lhs; simp [q1, q2, q3]
  · (repeat' apply And.intro) <;> first | omega | assumption | trivial | (simp [inI, maxLen]; done) | (simp [inI, maxLen]; omega)
  repeat (first | refine AWp.seq ?_ | refine AWp.block ?_)
  refine AWp.cond rfl (fun hc => ?_) (fun hc => ?_)
  · cases hc
  by_cases q4 : p = 4
  · repeat (first | refine AWp.seq ?_ | refine AWp.block ?_)
    apply AWp.reg [] []
    · conv => lhs; simp [q1, q2, q3, q4]
    · (repeat' apply And.intro) <;> first | omega | assumption | trivial | (simp [inI, maxLen]; done) | (simp [inI, maxLen]; omega)
    repeat (first | refine AWp.seq ?_ | refine AWp.block ?_)
    refine AWp.cond rfl (fun hc => ?_) (fun hc => ?_)
    rotate_left
    · cases hc
    refine AWp.skip ?_
    repeat (first | refine AWp.seq ?_ | refine AWp.block ?_)
    refine AWp.cond rfl (fun hc => ?_) (fun hc => ?_)
    rotate_left
    · cases hc
    repeat (first | refine AWp.seq ?_ | refine AWp.block ?_)
    apply AWp.reg [] []
    · conv => lhs; simp [q1, q2, q3, q4]
    · (repeat' apply And.intro) <;> first | omega | assumption | trivial | (simp [inI, maxLen]; done) | (simp [inI, maxLen]; omega)
    by_cases q5 : a < b
    · repeat (first | refine AWp.seq ?_ | refine AWp.block ?_)
      apply AWp.reg [] []
      · conv => lhs; simp [q1, q2, q3, q4, q5]
      · (repeat' apply And.intro) <;> first | omega | assumption | trivial | (simp [inI, maxLen]; done) | (simp [inI, maxLen]; omega)
      repeat (first | refine AWp.seq ?_ | refine AWp.block ?_)
      refine AWp.cond rfl (fun hc => ?_) (fun hc => ?_)
      rotate_left
      · cases hc
      repeat (first | refine AWp.seq ?_ | refine AWp.block ?_)
      apply AWp.reg [] []
      · conv => lhs; simp [q1, q2, q3, q4, q5]
      · (repeat' apply And.intro) <;> first | omega | assumption | trivial | (simp [inI, maxLen]; done) | (simp [inI, maxLen]; omega)
      repeat (first | refine AWp.seq ?_ | refine AWp.block ?_)
      apply AWp.reg [] []
      · conv => lhs; simp [q1, q2, q3, q4, q5]
      · (repeat' apply And.intro) <;> first | omega | assumption | trivial | (simp [inI, maxLen]; done) | (simp [inI, maxLen]; omega)
      refine AWp.ret ?_
      rw [show primV p a b = (.mk true 1 [], 0) by simp [primV, bi, q1, q2, q3, q4, q5]]
      try dsimp only [thenQ, blockQ]
      apply endQ.ret
      · rfl
      · conv => lhs; simp [resAV, Try.results13]
      · rfl
    repeat (first | refine AWp.seq ?_ | refine AWp.block ?_)
    apply AWp.reg [] []
    · conv => lhs; simp [q1, q2, q3, q4, q5]
    · (repeat' apply And.intro) <;> first | omega | assumption | trivial | (simp [inI, maxLen]; done) | (simp [inI, maxLen]; omega)
    repeat (first | refine AWp.seq ?_ | refine AWp.block ?_)
    refine AWp.cond rfl (fun hc => ?_) (fun hc => ?_)
    · cases hc
    refine AWp.skip ?_
    repeat (first | refine AWp.seq ?_ | refine AWp.block ?_)
    apply AWp.reg [] []
    · conv => lhs; simp [q1, q2, q3, q4, q5]
    · (repeat' apply And.intro) <;> first | omega | assumption | trivial | (simp [inI, maxLen]; done) | (simp [inI, maxLen]; omega)
    refine AWp.ret ?_
    rw [show primV p a b = (.mk true 0 [], 0) by simp [primV, bi, q1, q2, q3, q4, q5]]
    try dsimp only [thenQ, blockQ]
    apply endQ.ret
    · rfl
    · conv => lhs; simp [resAV, Try.results13]
    · rfl
  repeat (first | refine AWp.seq ?_ | refine AWp.block ?_)
  apply AWp.reg [] []
  · conv => lhs; simp [q1, q2, q3, q4]
  · (repeat' apply And.intro) <;> first | omega | assumption | trivial | (simp [inI, maxLen]; done) | (simp [inI, maxLen]; omega)
  repeat (first | refine AWp.seq ?_ | refine AWp.block ?_)
  refine AWp.cond rfl (fun hc => ?_) (fun hc => ?_)
  · cases hc
  by_cases q6 : p = 5
  · repeat (first | refine AWp.seq ?_ | refine AWp.block ?_)
    apply AWp.reg [] []
    · conv => lhs; simp [q1, q2, q3, q4, q6]
    · (repeat' apply And.intro) <;> first | omega | assumption | trivial | (simp [inI, maxLen]; done) | (simp [inI, maxLen]; omega)
    repeat (first | refine AWp.seq ?_ | refine AWp.block ?_)
    refine AWp.cond rfl (fun hc => ?_) (fun hc => ?_)
    rotate_left
    · cases hc
    repeat (first | refine AWp.seq ?_ | refine AWp.block ?_)
    apply AWp.reg [] []
    · conv => lhs; simp [q1, q2, q3, q4, q6]
    · (repeat' apply And.intro) <;> first | omega | assumption | trivial | (simp [inI, maxLen]; done) | (simp [inI, maxLen]; omega)
    by_cases q7 : a = b
    · repeat (first | refine AWp.seq ?_ | refine AWp.block ?_)
      apply AWp.reg [] []
      · conv => lhs; simp [q1, q2, q3, q4, q6, q7]
      · (repeat' apply And.intro) <;> first | omega | assumption | trivial | (simp [inI, maxLen]; done) | (simp [inI, maxLen]; omega)
      repeat (first | refine AWp.seq ?_ | refine AWp.block ?_)
      refine AWp.cond rfl (fun hc => ?_) (fun hc => ?_)
      rotate_left
      · cases hc
      repeat (first | refine AWp.seq ?_ | refine AWp.block ?_)
      apply AWp.reg [] []
      · conv => lhs; simp [q1, q2, q3, q4, q6, q7]
      · (repeat' apply And.intro) <;> first | omega | assumption | trivial | (simp [inI, maxLen]; done) | (simp [inI, maxLen]; omega)
      repeat (first | refine AWp.seq ?_ | refine AWp.block ?_)
      apply AWp.reg [] []
      · conv => lhs; simp [q1, q2, q3, q4, q6, q7]
      · (repeat' apply And.intro) <;> first | omega | assumption | trivial | (simp [inI, maxLen]; done) | (simp [inI, maxLen]; omega)
      refine AWp.ret ?_
      rw [show primV p a b = (.mk true 1 [], 0) by simp [primV, bi, q1, q2, q3, q4, q6, q7]]
      try dsimp only [thenQ, blockQ]
      apply endQ.ret
      · rfl
      · conv => lhs; simp [resAV, Try.results13]
      · rfl
    repeat (first | refine AWp.seq ?_ | refine AWp.block ?_)
    apply AWp.reg [] []
    · conv => lhs; simp [q1, q2, q3, q4, q6, q7]
    · (repeat' apply And.intro) <;> first | omega | assumption | trivial | (simp [inI, maxLen]; done) | (simp [inI, maxLen]; omega)
    repeat (first | refine AWp.seq ?_ | refine AWp.block ?_)
    refine AWp.cond rfl (fun hc => ?_) (fun hc => ?_)
    · cases hc
    refine AWp.skip ?_
    repeat (first | refine AWp.seq ?_ | refine AWp.block ?_)
    apply AWp.reg [] []
    · conv => lhs; simp [q1, q2, q3, q4, q6, q7]
    · (repeat' apply And.intro) <;> first | omega | assumption | trivial | (simp [inI, maxLen]; done) | (simp [inI, maxLen]; omega)
    refine AWp.ret ?_
    rw [show primV p a b = (.mk true 0 [], 0) by simp [primV, bi, q1, q2, q3, q4, q6, q7]]
    try dsimp only [thenQ, blockQ]
    apply endQ.ret
    · rfl
    · conv => lhs; simp [resAV, Try.results13]
    · rfl
  repeat (first | refine AWp.seq ?_ | refine AWp.block ?_)
  apply AWp.reg [] []
  · conv => lhs; simp [q1, q2, q3, q4, q6]
  · (repeat' apply And.intro) <;> first | omega | assumption | trivial | (simp [inI, maxLen]; done) | (simp [inI, maxLen]; omega)
  repeat (first | refine AWp.seq ?_ | refine AWp.block ?_)
  refine AWp.cond rfl (fun hc => ?_) (fun hc => ?_)
  · cases hc
  refine AWp.skip ?_
  repeat (first | refine AWp.seq ?_ | refine AWp.block ?_)
  apply AWp.reg [] []
  · conv => lhs; simp [q1, q2, q3, q4, q6]
  · (repeat' apply And.intro) <;> first | omega | assumption | trivial | (simp [inI, maxLen]; done) | (simp [inI, maxLen]; omega)
  refine AWp.ret ?_
  rw [show primV p a b = (zeroV, 1) by simp [primV, q1, q2, q3, q4, q6]]
  try dsimp only [thenQ, blockQ]
  apply endQ.ret
  · rfl
  · conv => lhs; simp [resAV, Try.results13]
  · rfl
end Go.Proofs.Ytialccgjbanmcaa
