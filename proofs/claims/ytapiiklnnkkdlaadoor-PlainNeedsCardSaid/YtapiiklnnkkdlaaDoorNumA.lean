import Derived.Test.YtapiiklnnkkdlaaDoorEvalB
import Derived.Test.YtapiiklnnkkdlaaDoorFreeC
import Derived.Test.YtapiiklnnkkdlaaDoorTermB
import Derived.Test.YtapiiklnnkkdlaaDoorCheckP
import Derived.Lib.AtoiAll
import Derived.Lib.AtoiAllCases
import Derived.Lib.AtoiErrMem
/- What comes of terms: plainly. -/
namespace Go.Proofs.YtapiiklnnkkdlaaDoor
open Go.RowKit
set_option linter.unusedVariables false
set_option linter.unusedSimpArgs false
abbrev Out := Vl × Int × Int
abbrev OutL := List Vl × Int × Int
def bindE (ws : List ByteArray) (vs : List Vl) (env : Env) : Env := (ws.zip vs).reverse ++ env
mutual
def Vl.Fine : Vl → Prop
  | .mk _ n ks => (-2147483648 ≤ n ∧ n ≤ 2147483647) ∧ ks.length ≤ 6 ∧ Vl.Fines ks
def Vl.Fines : List Vl → Prop
  | [] => True
  | t :: r => t.Fine ∧ Vl.Fines r
end
theorem Vl.Fines_iff : ∀ {l : List Vl}, Vl.Fines l ↔ ∀ t ∈ l, t.Fine
  | [] => by simp [Vl.Fines]
  | t :: r => by simp [Vl.Fines, Vl.Fines_iff (l := r)]
theorem Vl.Fine.ok_at : ∀ (N : Nat) (v : Vl), v.sz < N → v.Fine → v.Ok := by
  intro N
  induction N with
  | zero => intro v h; omega
  | succ N ih =>
  intro v hN h
  obtain ⟨c, n, ks⟩ := v
  exact ⟨⟨by have := h.1.1; omega, by have := h.1.2; omega⟩, by have := h.2.1; omega, Vl.Oks_iff.2 fun x hx => ih x (by have := Vl.sz_kid (c := c) (n := n) hx; omega) (Vl.Fines_iff.1 h.2.2 x hx)⟩
theorem Vl.Fine.ok {v : Vl} (h : v.Fine) : v.Ok := Vl.Fine.ok_at _ v (Nat.lt_succ_self _) h
def EnvF (env : Env) : Prop := ∀ p ∈ env, p.2.Fine
theorem EnvF.get {s : ByteArray} {v : Vl} : ∀ {env : Env}, EnvF env → envGet env s = some v → v.Fine
  | [], _, h => by cases h
  | (x, u) :: r, hF, h => by
    rw [envGet] at h
    split at h
    · cases h; exact hF _ (List.mem_cons_self ..)
    · exact EnvF.get (fun p hp => hF p (List.mem_cons_of_mem _ hp)) h
theorem EnvF.cons {env : Env} (h : EnvF env) {v : Vl} (hv : v.Fine) (s : ByteArray) : EnvF ((s, v) :: env) := fun p hp => by
  rcases List.mem_cons.1 hp with rfl | hp
  · exact hv
  · exact h p hp
theorem EnvF.bind {env : Env} (h : EnvF env) {vs : List Vl} (hv : ∀ v ∈ vs, v.Fine) (ws : List ByteArray) : EnvF (bindE ws vs env) := fun p hp => by
  unfold bindE at hp
  rcases List.mem_append.1 hp with hp | hp
  · exact hv _ (List.of_mem_zip (List.mem_reverse.1 hp)).2
  · exact h p hp
def CovE (env : Env) (names : List ByteArray) : Prop := ∀ s ∈ names, ∃ v, envGet env s = some v
theorem CovE.cons {env : Env} {names : List ByteArray} (h : CovE env names) (a : ByteArray) (v : Vl) : CovE ((a, v) :: env) (names ++ [a]) := fun s hs => by
  by_cases e : a = s
  · exact ⟨v, by rw [envGet, if_pos e]⟩
  · rcases List.mem_append.1 hs with hs | hs
    · obtain ⟨u, hu⟩ := h s hs
      exact ⟨u, by rw [envGet, if_neg e]; exact hu⟩
    · exact absurd (List.mem_singleton.1 hs).symm e
theorem envGet_append (s : ByteArray) (b : Env) : ∀ a : Env, envGet (a ++ b) s = (envGet a s).or (envGet b s)
  | [] => by simp [envGet]
  | (x, v) :: r => by
    simp only [List.cons_append, envGet]
    split
    · rfl
    · exact envGet_append s b r
theorem envGet_mem {s : ByteArray} : ∀ {a : Env}, s ∈ a.map (·.1) → ∃ v, envGet a s = some v
  | (x, v) :: r, h => by
    by_cases e : x = s
    · exact ⟨v, by rw [envGet, if_pos e]⟩
    · rcases List.mem_cons.1 h with h | h
      · exact absurd h.symm e
      · obtain ⟨u, hu⟩ := envGet_mem h
        exact ⟨u, by rw [envGet, if_neg e]; exact hu⟩
theorem CovE.bind {env : Env} {names ws : List ByteArray} {vs : List Vl} (h : CovE env names) (hl : ws.length = vs.length) : CovE (bindE ws vs env) (names ++ ws) := fun s hs => by
  unfold bindE
  rw [envGet_append]
  by_cases hw : s ∈ ws
  · have : s ∈ ((ws.zip vs).reverse).map (·.1) := by
      rw [List.map_reverse, List.mem_reverse, List.map_fst_zip (by omega)]
      exact hw
    obtain ⟨v, hv⟩ := envGet_mem this
    exact ⟨v, by rw [hv]; rfl⟩
  · rcases List.mem_append.1 hs with hs | hs
    · obtain ⟨v, hv⟩ := h s hs
      cases envGet (ws.zip vs).reverse s with
      | none => exact ⟨v, by rw [hv]; rfl⟩
      | some u => exact ⟨u, rfl⟩
    · exact absurd hs hw
end Go.Proofs.YtapiiklnnkkdlaaDoor

namespace Go.Proofs.YtapiiklnnkkdlaaDoor
open Go.RowKit
attribute [local simp] runD mkRc ldOf stOf stOk ldArg noAny dstOk guardOk opEff opEff0 effOp pureOp callOp zEff evA constAV scalAV Value.oneCell' frGet memGet startAS frOf isGoCall idIn AS.after nextR opnIds objIds AV.ids idsL AObj.ids frNo memNo opnAny isAny mkVal rdCells wrCells fldAddr idxAddr srcRows litRows toD1 toDs setAt sliceAV optI partAV bldAV fillAV binAV binI AV.cells callEff calleeOf frKill memKill AV.kill AObj.kill AV.has AV.hasL Op.operands Call.operands keepF keepM viewIds cChk renOf moGet moWs moQ cEff moLike moHave AV.ren renL AObj.ren AObj.like kept startC moMem AV.frz frz1 frzL frSub memSub frzs AS.frz frFrz memFrz AObj.frz takeMap takeLen bleF Nat.ble_eq memAny objAny mapOp D.keyOk rowAV valRow extOp wrapOp phO frLow memLow memLow1 objLow memEmpty Low LowL
set_option linter.unusedVariables false
set_option linter.unusedSimpArgs false

end Go.Proofs.YtapiiklnnkkdlaaDoor

namespace Go.Proofs.YtapiiklnnkkdlaaDoor
open Go.RowKit
set_option linter.unusedVariables false
set_option linter.unusedSimpArgs false
def ORel (o o' : Out) : Prop := o.2 = o'.2 ∧ (o.2.2 = 0 → o.1 = o'.1)
def LRel (o o' : OutL) : Prop := o.2 = o'.2 ∧ (o.2.2 = 0 → o.1 = o'.1)
theorem ORel.refl (o : Out) : ORel o o := ⟨rfl, fun _ => rfl⟩
theorem ORel.eq {o o' : Out} (h : ORel o o') (he : o.2.2 = 0) : o = o' := by
  obtain ⟨v, f, e⟩ := o
  obtain ⟨v', f', e'⟩ := o'
  obtain ⟨h1, h2⟩ := h
  cases h1
  rw [show v = v' from h2 he]
theorem LRel.eq {o o' : OutL} (h : LRel o o') (he : o.2.2 = 0) : o = o' := by
  obtain ⟨v, f, e⟩ := o
  obtain ⟨v', f', e'⟩ := o'
  obtain ⟨h1, h2⟩ := h
  cases h1
  rw [show v = v' from h2 he]

def RnEv (names : List ByteArray) (ps : Ps) (c : Int) (env env' : Env) : Prop := ∀ s ∈ names, (∃ i, 1 ≤ i ∧ i ≤ c ∧ nowP ps s = vNm i) ∧ envVal env' (nowP ps s) = envVal env s
theorem envVal_cons (a : ByteArray) (u : Vl) (env : Env) (s : ByteArray) : envVal ((a, u) :: env) s = if a = s then u else envVal env s := by
  unfold envVal
  rw [envGet]
  split <;> rfl
theorem RnEv.mono {names : List ByteArray} {ps : Ps} {c e : Int} {env env' : Env} (h : RnEv names ps c env env') (he : c ≤ e) : RnEv names ps e env env' := fun s hs => by
  obtain ⟨⟨i, h1, h2, h3⟩, h4⟩ := h s hs
  exact ⟨⟨i, h1, by omega, h3⟩, h4⟩
theorem RnEv.one {names : List ByteArray} {ps : Ps} {c : Int} {env env' : Env} (h : RnEv names ps c env env') (h0 : 0 ≤ c) (a : ByteArray) (u : Vl) : RnEv (names ++ [a]) (ps ++ [(a, vNm (c + 1))]) (c + 1) ((a, u) :: env) ((vNm (c + 1), u) :: env') := fun s hs => by
  rw [nowP_add, envVal_cons, envVal_cons]
  by_cases e : a = s
  · rw [if_pos e, if_pos e, if_pos rfl]
    exact ⟨⟨c + 1, by omega, by omega, rfl⟩, rfl⟩
  · rw [if_neg e, if_neg e]
    have hs' : s ∈ names := (List.mem_append.1 hs).elim id fun h => absurd (List.mem_singleton.1 h).symm e
    obtain ⟨⟨i, h1, h2, h3⟩, h4⟩ := h s hs'
    rw [if_neg (fun q => by
      rw [h3] at q
      have := vNm_inj (by omega) (by omega) q
      omega)]
    exact ⟨⟨i, h1, by omega, h3⟩, h4⟩
theorem bindE_cons (w : ByteArray) (v : Vl) (ws : List ByteArray) (vs : List Vl) (env : Env) : bindE (w :: ws) (v :: vs) env = bindE ws vs ((w, v) :: env) := by
  unfold bindE
  rw [List.zip_cons_cons, List.reverse_cons, List.append_assoc]
  rfl
theorem RnEv.more : ∀ {ws : List ByteArray} {vs : List Vl} {names : List ByteArray} {ps : Ps} {c : Int} {env env' : Env}, RnEv names ps c env env' → 0 ≤ c → c + ws.length < 9223372036854775807 → ws.length = vs.length →
    RnEv (names ++ ws) (ps ++ ws.zip (freshL ws c)) (c + ws.length) (bindE ws vs env) (bindE (freshL ws c) vs env')
  | [], [], names, ps, c, env, env', h, _, _, _ => by simpa [freshL, bindE] using h
  | w :: ws, v :: vs, names, ps, c, env, env', h, h0, hb, hl => by
    rw [List.length_cons] at hb
    push_cast at hb
    have hw : wr (c + 1) = c + 1 := wr_of (by omega) (by omega)
    have h1 := RnEv.more (h.one h0 w v) (by omega) (by omega) (by simpa using hl : ws.length = vs.length)
    rw [freshL, hw, bindE_cons, bindE_cons, List.zip_cons_cons, List.length_cons]
    rw [List.append_assoc, List.append_assoc] at h1
    push_cast
    rw [show c + ((ws.length : Int) + 1) = c + 1 + ws.length from by omega]
    exact h1
  | [], _ :: _, _, _, _, _, _, _, _, _, hl => by simp at hl
  | _ :: _, [], _, _, _, _, _, _, _, _, hl => by simp at hl
structure RnOk (A : Arity) (x : Fn) : Prop where
  rt : x.body.Rt 25
  wrong : x.body.wrong A x.params 0 = 0
  bd : x.params.length + x.body.bd.length ≤ 9999999

theorem bd_le : ∀ (d : Nat) (t : Tm), t.Rt d → t.bd.length + 6 ≤ 7 * t.sz := by
  intro d
  induction d with
  | zero => intro t h; exact h.elim
  | succ d ih =>
  intro t hR
  obtain ⟨k, n, a, b, vs, xs, cs⟩ := t
  obtain ⟨hk, hmany, _, hx, hc⟩ := hR
  have hL : ∀ ys : List Tm, (∀ y ∈ ys, y ∈ xs) → (Tm.bdL ys).length ≤ 7 * Tm.szs ys := by
    intro ys
    induction ys with
    | nil => intro _; simp [Tm.bdL]
    | cons y r ih2 =>
      intro hm
      have h1 := ih y (hx y (hm y (List.mem_cons_self ..)))
      have h2 := ih2 fun z hz => hm z (List.mem_cons_of_mem _ hz)
      rw [Tm.bdL, List.length_append, Tm.szs]
      omega
  have hC : ∀ ys : List Cs, (∀ y ∈ ys, y ∈ cs) → (Cs.bdL ys).length ≤ 7 * Cs.szs ys := by
    intro ys
    induction ys with
    | nil => intro _; simp [Cs.bdL]
    | cons y r ih2 =>
      intro hm
      have hy := hc y (hm y (List.mem_cons_self ..))
      obtain ⟨t, ws, y⟩ := y
      have h1 := ih y hy.2
      have h2 := ih2 fun z hz => hm z (List.mem_cons_of_mem _ hz)
      have h3 : ws.length ≤ 6 := hy.1
      rw [Cs.bdL, Cs.bd, List.length_append, List.length_append, Cs.szs, Cs.sz]
      omega
  have h1 := hL xs fun _ h => h
  have h2 := hC cs fun _ h => h
  rw [Tm.bd, List.length_append, List.length_append, Tm.sz]
  have h3 : (if k = 6 then [a] else []).length ≤ 1 := by split <;> simp
  omega
theorem heads_map (F : Fn → Fn) (hn : ∀ x, (F x).name = x.name) (hp : ∀ x, (F x).params.length = x.params.length) {A : Arity} : ∀ (l : List Fn) (f : Arity), (∀ x ∈ l, (F x).Right A) → headsE f l = 0 → headsE f (l.map F) = 0
  | [], f, _, _ => rfl
  | x :: r, f, hR, h => by
    rw [headsE] at h
    by_cases h0 : x.headE f ≠ 0
    · rw [if_pos h0] at h; exact absurd h h0
    rw [if_neg h0] at h
    have h0 : x.headE f = 0 := Decidable.byContradiction h0
    have hx := hR x (List.mem_cons_self ..)
    have hsome : (f.get x.name).isSome = false := by
      unfold Fn.headE at h0
      split at h0
      · cases h0
      rename_i h2
      simp only [Bool.or_eq_true, not_or, Bool.not_eq_true] at h2
      exact h2.1.1.1
    have hsz := hx.sz
    have hpa := hx.params
    have hw : wr (F x).body.sz = (F x).body.sz := wrong_small hx.wrong
    have h1 : (F x).headE f = 0 := by
      unfold Fn.headE
      rw [if_neg (by rw [hn, hsome, ← hn x, hx.name, hx.twice, hx.bad]; simp), if_neg (by omega), if_neg (by rw [hw]; omega)]
    rw [List.map_cons, headsE, if_neg (by rw [h1]; simp), hn, hp]
    exact heads_map F hn hp r _ (fun y hy => hR y (List.mem_cons_of_mem _ hy)) h
theorem bodies_map (F : Fn → Fn) {A : Arity} : ∀ (l : List Fn), (∀ x ∈ l, (F x).Right A) → bodiesE A (l.map F) = 0
  | [], _ => rfl
  | x :: r, hR => by
    have hx := (hR x (List.mem_cons_self ..)).wrong
    rw [List.map_cons, bodiesE, if_neg (by rw [hx]; simp)]
    exact bodies_map F r fun y hy => hR y (List.mem_cons_of_mem _ hy)
theorem arOf_map (F : Fn → Fn) (hn : ∀ x, (F x).name = x.name) (hp : ∀ x, (F x).params.length = x.params.length) (l : List Fn) : arOf (l.map F) = arOf l := by
  unfold arOf
  rw [← List.map_reverse, List.map_map]
  refine List.map_congr_left fun x _ => ?_
  simp [hn, hp]
theorem check_map (F : Fn → Fn) (hn : ∀ x, (F x).name = x.name) (hp : ∀ x, (F x).params.length = x.params.length) {l : List Fn} (h : checkE l = 0) (hR : ∀ x ∈ l, (F x).Right (arOf l)) : checkE (l.map F) = 0 := by
  obtain ⟨h1, h2, h3, _⟩ := check_zero h
  unfold checkE
  rw [List.length_map, if_neg (by omega), heads_map F hn hp l [] hR h3, arOf_map F hn hp, bodies_map F l hR]
  simp
theorem Fn.rn_plen (f : Fn) : f.rn.params.length = f.params.length := freshL_len _ _
theorem Fn.Right.rnOk {A : Arity} {x : Fn} (h : x.Right A) (hr : x.body.Rt 25) : RnOk A x :=
  ⟨hr, h.wrong, by have := bd_le 25 x.body hr; have := h.sz; have := h.params; omega⟩
theorem Fn.Right.rn {A : Arity} {x : Fn} (h : x.Right A) (hr : x.body.Rt 25) : x.rn.Right A := by
  have hb := (h.rnOk hr).bd
  obtain ⟨e1, e2⟩ := freshL_seq x.params 0 (by omega) (by omega)
  have hp : x.rn.params = seqV 0 x.params.length := e1
  have hpa := h.params
  have hsz := h.sz
  have hs : x.rn.body.sz ≤ x.body.sz := Tm.rn_sz _ _ _
  refine ⟨h.name, by rw [hp]; exact twB_of (seqV_nodup (by omega) _), by rw [hp]; exact seqV_bad (by omega) (by omega), by rw [x.rn_plen]; exact hpa, by omega, ?_⟩
  have hR : RnR x.params (freshL x.params 0) (x.params.zip (freshL x.params 0)) := by
    have := RnR.more (names := []) (names' := []) (ps := []) (fun s hs => by cases hs) x.params (freshL x.params 0) (freshL_len _ _).symm
    simpa using this
  exact rn_wrong A 25 x.body x.params x.rn.params _ (freshC x.params 0) 0 hr h.wrong (by omega) (by omega) hR
theorem check_rn {l : List Fn} (hl : FnsOk l) (h : checkE l = 0) : checkE (l.map Fn.rn) = 0 :=
  check_map Fn.rn (fun _ => rfl) Fn.rn_plen h fun x hx => ((check_zero h).2.2.2 x hx).rn (right_all hl h x hx).2.1
theorem rn_fns {l : List Fn} (hl : FnsOk l) (h : checkE l = 0) : FnsOk (l.map Fn.rn) := by
  refine ⟨by rw [List.length_map]; exact hl.len, fun f hf => ?_⟩
  obtain ⟨x, hx, rfl⟩ := List.mem_map.1 hf
  have ho := hl.all x hx
  obtain ⟨h1, h2, h3⟩ := right_all hl h x hx
  exact ⟨ho.name, by rw [x.rn_plen]; omega, fun s hs => freshL_le _ _ s hs, x.rn_ok h1 h2⟩

def Fmo {α : Type} (F : Int → α × Int × Int) : Prop := ∀ f, 0 ≤ f → 0 ≤ (F f).2.1 ∧ ∀ k, 0 ≤ k → (F f).2.2 ≠ 12 → F (f + k) = ((F f).1, (F f).2.1 + k, (F f).2.2)
theorem Fmo.const {α : Type} (v : α) (e : Int) : Fmo fun f => (v, f, e) := fun f hf => ⟨hf, fun k _ _ => rfl⟩
theorem Fmo.map {α β : Type} {F : Int → α × Int × Int} (h : Fmo F) (g : α → Int → β) : Fmo fun f => (g (F f).1 (F f).2.2, (F f).2.1, (F f).2.2) := fun f hf => by
  obtain ⟨h1, h2⟩ := h f hf
  refine ⟨h1, fun k hk he => ?_⟩
  dsimp only at he ⊢
  rw [h2 k hk he]
theorem Fmo.bind {α β : Type} {F : Int → α × Int × Int} (h : Fmo F) (z : α → β) {G : α → Int → β × Int × Int} (hG : ∀ v, Fmo (G v)) :
    Fmo fun f => if (F f).2.2 ≠ 0 then (z (F f).1, (F f).2.1, (F f).2.2) else G (F f).1 (F f).2.1 := fun f hf => by
  obtain ⟨h1, h2⟩ := h f hf
  dsimp only
  by_cases he : (F f).2.2 ≠ 0
  · rw [if_pos he]
    refine ⟨h1, fun k hk h3 => ?_⟩
    dsimp only at h3
    rw [h2 k hk h3]
    dsimp only
    rw [if_pos he]
  · rw [if_neg he]
    obtain ⟨g1, g2⟩ := hG (F f).1 (F f).2.1 h1
    refine ⟨g1, fun k hk h3 => ?_⟩
    have h4 : (F f).2.2 ≠ 12 := fun e => he (by rw [e]; omega)
    rw [h2 k hk h4]
    dsimp only
    rw [if_neg he, g2 k hk h3]
theorem Fmo.congr {α : Type} {F G : Int → α × Int × Int} (h : Fmo F) (e : ∀ f, G f = F f) : Fmo G := by
  have : G = F := funext e
  rw [this]; exact h

abbrev PS := Nat × Int
def isBl (c : UInt8) : Bool := c.toNat == 32 || (c.toNat == 9 || c.toNat == 10)
def isBr (c : UInt8) : Bool := c.toNat == 40 || c.toNat == 41
def nBl : List UInt8 → Nat
  | [] => 0
  | c :: r => if isBl c then nBl r + 1 else 0
def nWd : List UInt8 → Nat
  | [] => 0
  | c :: r => if isBl c || isBr c then 0 else nWd r + 1
def nPk : List UInt8 → Nat
  | [] => 0
  | c :: r => if isBr c then 1 else nWd (c :: r)
def pkA (s : ByteArray) (a : Nat) : Nat := a + nBl (s.data.toList.drop a)
def pkE (s : ByteArray) (a : Nat) : Nat := a + nPk (s.data.toList.drop a)
def pkW (s : ByteArray) (a : Nat) : ByteArray := s.extract (pkA s a) (pkE s (pkA s a))
def badE (e x : Int) : Int := if e = 0 then x else e
def nxS (s : ByteArray) (p : PS) : PS := (pkE s (pkA s p.1), if (pkW s p.1).size = 0 then badE p.2 8 else p.2)
def wantS (s w : ByteArray) (p : PS) : PS := if pkW s p.1 = w then nxS s p else ((nxS s p).1, badE (nxS s p).2 2)
def namP (s : ByteArray) (p : PS) : ByteArray × PS := (pkW s p.1, if nameB (pkW s p.1) then nxS s p else ((nxS s p).1, badE (nxS s p).2 7))
def numP (w : ByteArray) : Int × Bool := match Lib.atoiAll w.data.toList with
  | .ok v => (v, decide (itoaB v = w))
  | .range => (Lib.atoiSat w.data.toList, false)
  | _ => (0, false)
def sharp (w : ByteArray) : Bool := match w.data.toList with
  | c :: _ => c.toNat == 35
  | [] => false
def tagP (g : Bool) (s : ByteArray) (p : PS) : Int × PS :=
  if decide (1 < (pkW s p.1).size) && sharp (pkW s p.1) && (numP ((pkW s p.1).extract 1 (pkW s p.1).size)).2 then ((numP ((pkW s p.1).extract 1 (pkW s p.1).size)).1, nxS s p)
  else (if g && (decide (1 < (pkW s p.1).size) && sharp (pkW s p.1)) then (numP ((pkW s p.1).extract 1 (pkW s p.1).size)).1 else 0, ((nxS s p).1, badE (nxS s p).2 2))
theorem tagP_ref (s : ByteArray) (p : PS) : tagP false s p = if decide (1 < (pkW s p.1).size) && sharp (pkW s p.1) && (numP ((pkW s p.1).extract 1 (pkW s p.1).size)).2 then ((numP ((pkW s p.1).extract 1 (pkW s p.1).size)).1, nxS s p)
  else (0, ((nxS s p).1, badE (nxS s p).2 2)) := by
  unfold tagP
  rw [Bool.false_and]
  rfl
abbrev rbr : ByteArray := ⟨#[41]⟩
abbrev lbr : ByteArray := ⟨#[40]⟩
def manyP {α : Type} (s : ByteArray) (one : PS → α × PS) : Nat → PS → List α × PS
  | 0, p => ([], p)
  | n + 1, p =>
    if p.2 = 0 then
      if pkW s p.1 = rbr then ([], wantS s rbr (pkA s p.1, p.2))
      else ((one (pkA s p.1, p.2)).1 :: (manyP s one n (one (pkA s p.1, p.2)).2).1, (manyP s one n (one (pkA s p.1, p.2)).2).2)
    else ([], wantS s rbr p)
def primsL : List ByteArray := [⟨#[43]⟩, ⟨#[45]⟩, ⟨#[42]⟩, ⟨#[60]⟩, ⟨#[61]⟩]
def primI (w : ByteArray) : List ByteArray → Int → Int → Int
  | [], _, r => r
  | x :: l, i, r => primI w l (i + 1) (if w = x then i + 1 else r)
abbrev wLet : ByteArray := ⟨#[108, 101, 116]⟩
abbrev wMatch : ByteArray := ⟨#[109, 97, 116, 99, 104]⟩
def casP (g : Bool) (s : ByteArray) (one : PS → Tm × PS) (p : PS) : Cs × PS :=
  let t := tagP g s (wantS s lbr p)
  let ws := manyP s (namP s) (s.size + 2) (wantS s lbr t.2)
  let y := one ws.2
  (.mk t.1 ws.1 y.1, wantS s rbr y.2)
def atomP (s : ByteArray) (p : PS) : Tm × PS :=
  if (numP (pkW s p.1)).2 then (.mk 2 (numP (pkW s p.1)).1 .empty .empty [] [] [], nxS s p)
  else (.mk 1 0 (pkW s p.1) .empty [] [] [], if nameB (pkW s p.1) then nxS s p else ((nxS s p).1, badE (nxS s p).2 7))
def formP (g : Bool) (s : ByteArray) (one : PS → Tm × PS) (w : ByteArray) (p : PS) : Tm × PS :=
  if sharp w then
    let t := tagP g s p
    let xs := manyP s one (s.size + 2) t.2
    (.mk 3 t.1 .empty .empty [] xs.1 [], xs.2)
  else if w = wLet then
    let nm := namP s (nxS s p)
    let x := one nm.2
    let y := one x.2
    (.mk 6 0 nm.1 .empty [] [x.1, y.1] [], wantS s rbr y.2)
  else if w = wMatch then
    let x := one (nxS s p)
    let cs := manyP s (casP g s one) (s.size + 2) x.2
    (.mk 7 0 .empty .empty [] [x.1] cs.1, cs.2)
  else if 0 < primI w primsL 0 0 then
    let x := one (nxS s p)
    let y := one x.2
    (.mk 5 (primI w primsL 0 0) .empty .empty [] [x.1, y.1] [], wantS s rbr y.2)
  else
    let nm := namP s p
    let xs := manyP s one (s.size + 2) nm.2
    (.mk 4 0 nm.1 .empty [] xs.1 [], xs.2)
def Tm.ps (g : Bool) (s : ByteArray) : Nat → PS → Tm × PS
  | 0, p => (.mk 0 0 .empty .empty [] [] [], (p.1, badE p.2 9))
  | n + 1, p =>
    if pkW s p.1 = lbr then formP g s (Tm.ps g s n) (pkW s (nxS s p).1) (pkA s (nxS s p).1, (nxS s p).2)
    else atomP s (pkA s p.1, p.2)
abbrev wFn : ByteArray := ⟨#[102, 110]⟩
def fnP (g : Bool) (s : ByteArray) (p : PS) : Fn × PS :=
  let nm := namP s (wantS s wFn (wantS s lbr p))
  let ws := manyP s (namP s) (s.size + 2) (wantS s lbr nm.2)
  let y := Tm.ps g s 25 ws.2
  (⟨nm.1, ws.1, y.1⟩, wantS s rbr y.2)
def fnsP (g : Bool) (s : ByteArray) : Nat → PS → List Fn × PS
  | 0, p => ([], p)
  | n + 1, p =>
    if p.2 = 0 then
      if (pkW s p.1).size = 0 then ([], (pkA s p.1, p.2))
      else ((fnP g s (pkA s p.1, p.2)).1 :: (fnsP g s n (fnP g s (pkA s p.1, p.2)).2).1, (fnsP g s n (fnP g s (pkA s p.1, p.2)).2).2)
    else ([], p)
def parseP (g : Bool) (s : ByteArray) : List Fn × Int :=
  if 1500 < s.size then ([], 4)
  else if (fnsP g s (s.size + 2) (0, 0)).2.2 = 0 then ((fnsP g s (s.size + 2) (0, 0)).1, 0) else ([], (fnsP g s (s.size + 2) (0, 0)).2.2)
structure Stp (s : ByteArray) (p q : PS) : Prop where
  le : p.1 ≤ q.1
  sz : q.1 ≤ s.size
  er : p.2 ≠ 0 → q.2 = p.2
structure Adv (s : ByteArray) (p q : PS) : Prop extends Stp s p q where
  on : q.2 ≠ 0 ∨ p.1 < q.1
theorem Stp.trans {s : ByteArray} {p q r : PS} (h : Stp s p q) (h2 : Stp s q r) : Stp s p r := ⟨Nat.le_trans h.le h2.le, h2.sz, fun e => by have h3 := h.er e; rw [h2.er (by rw [h3]; exact e), h3]⟩
theorem Adv.trans {s : ByteArray} {p q r : PS} (h : Stp s p q) (h2 : Adv s q r) : Adv s p r := ⟨h.trans h2.toStp, h2.on.imp id fun h3 => Nat.lt_of_le_of_lt h.le h3⟩
theorem Adv.then {s : ByteArray} {p q r : PS} (h : Adv s p q) (h2 : Stp s q r) : Adv s p r := ⟨h.toStp.trans h2, by
  rcases h.on with h3 | h3
  · exact .inl (by rw [h2.er h3]; exact h3)
  · exact .inr (Nat.lt_of_lt_of_le h3 h2.le)⟩
theorem nBl_le : ∀ l : List UInt8, nBl l ≤ l.length
  | [] => Nat.le_refl _
  | c :: r => by
    have := nBl_le r
    rw [nBl]; split <;> simp <;> omega
theorem nWd_le : ∀ l : List UInt8, nWd l ≤ l.length
  | [] => Nat.le_refl _
  | c :: r => by
    have := nWd_le r
    rw [nWd]; split <;> simp <;> omega
theorem nPk_le : ∀ l : List UInt8, nPk l ≤ l.length
  | [] => Nat.le_refl _
  | c :: r => by
    have := nWd_le (c :: r)
    rw [nPk]; split
    · simp
    · exact this
theorem toList_size (s : ByteArray) : s.data.toList.length = s.size := Array.length_toList
theorem pkA_le {s : ByteArray} {a : Nat} (h : a ≤ s.size) : a ≤ pkA s a ∧ pkA s a ≤ s.size := by
  have := nBl_le (s.data.toList.drop a)
  rw [List.length_drop, toList_size] at this
  unfold pkA; omega
theorem pkE_le {s : ByteArray} {a : Nat} (h : a ≤ s.size) : a ≤ pkE s a ∧ pkE s a ≤ s.size := by
  have := nPk_le (s.data.toList.drop a)
  rw [List.length_drop, toList_size] at this
  unfold pkE; omega
theorem pkW_size {s : ByteArray} {a : Nat} (h : a ≤ s.size) : (pkW s a).size = pkE s (pkA s a) - pkA s a := by
  have h1 := pkA_le h
  have h2 := pkE_le h1.2
  unfold pkW
  rw [ByteArray.size_extract]; omega
theorem badE_ne {e x : Int} (hx : x ≠ 0) : badE e x ≠ 0 := by
  unfold badE; split <;> assumption
theorem badE_er {e x : Int} (h : e ≠ 0) : badE e x = e := if_neg h
theorem Stp.pk {s : ByteArray} {p : PS} (h : p.1 ≤ s.size) : Stp s p (pkA s p.1, p.2) := ⟨(pkA_le h).1, (pkA_le h).2, fun _ => rfl⟩
theorem Stp.bad {s : ByteArray} {p q : PS} {x : Int} (h : Stp s p q) : Stp s p (q.1, badE q.2 x) := ⟨h.le, h.sz, fun e => by
  have h2 := h.er e
  dsimp only
  rw [badE_er (by rw [h2]; exact e), h2]⟩
theorem Adv.bad {s : ByteArray} {p q : PS} {x : Int} (h : Adv s p q) : Adv s p (q.1, badE q.2 x) := ⟨h.toStp.bad, by
  rcases h.on with h3 | h3
  · exact .inl (by dsimp only; rw [badE_er h3]; exact h3)
  · exact .inr h3⟩
theorem nxS_adv {s : ByteArray} {p : PS} (h : p.1 ≤ s.size) : Adv s p (nxS s p) := by
  have h1 := pkA_le h
  have h2 := pkE_le h1.2
  have h3 := pkW_size h
  unfold nxS
  refine ⟨⟨Nat.le_trans h1.1 h2.1, h2.2, fun e => ?_⟩, ?_⟩
  · dsimp only
    split
    · exact badE_er e
    · rfl
  · dsimp only
    split
    · exact .inl (badE_ne (by decide))
    · exact .inr (by omega)
theorem wantS_adv {s w : ByteArray} {p : PS} (h : p.1 ≤ s.size) : Adv s p (wantS s w p) := by
  unfold wantS
  split
  · exact nxS_adv h
  · exact (nxS_adv h).bad
theorem namP_adv {s : ByteArray} {p : PS} (h : p.1 ≤ s.size) : Adv s p (namP s p).2 := by
  unfold namP
  dsimp only
  split
  · exact nxS_adv h
  · exact (nxS_adv h).bad
theorem tagP_adv {g : Bool} {s : ByteArray} {p : PS} (h : p.1 ≤ s.size) : Adv s p (tagP g s p).2 := by
  unfold tagP
  split
  · exact nxS_adv h
  · exact (nxS_adv h).bad
theorem manyP_adv {α : Type} {s : ByteArray} {one : PS → α × PS} (ho : ∀ p : PS, p.1 ≤ s.size → Adv s p (one p).2) : ∀ (n : Nat) (p : PS), p.1 ≤ s.size → Stp s p (manyP s one n p).2 ∧ (n ≠ 0 → Adv s p (manyP s one n p).2) ∧ (manyP s one n p).1.length ≤ n
  | 0, p, h => ⟨⟨Nat.le_refl _, h, fun _ => rfl⟩, fun h => absurd rfl h, Nat.le_refl _⟩
  | n + 1, p, h => by
    have key : Adv s p (manyP s one (n + 1) p).2 ∧ (manyP s one (n + 1) p).1.length ≤ n + 1 := by
      rw [manyP]
      split
      · split
        · exact ⟨Adv.trans (Stp.pk h) (wantS_adv (pkA_le h).2), Nat.zero_le _⟩
        · have h1 := ho (pkA s p.1, p.2) (pkA_le h).2
          obtain ⟨h2, _, h3⟩ := manyP_adv ho n (one (pkA s p.1, p.2)).2 h1.sz
          exact ⟨Adv.trans (Stp.pk h) (h1.then h2), by simpa using h3⟩
      · exact ⟨wantS_adv h, Nat.zero_le _⟩
    exact ⟨key.1.toStp, fun _ => key.1, key.2⟩
theorem casP_adv {g : Bool} {s : ByteArray} {one : PS → Tm × PS} (ho : ∀ p : PS, p.1 ≤ s.size → Adv s p (one p).2) {p : PS} (h : p.1 ≤ s.size) : Adv s p (casP g s one p).2 := by
  unfold casP
  dsimp only
  have h1 := wantS_adv (w := lbr) h
  have h2 := tagP_adv (g := g) h1.sz
  have h3 := wantS_adv (w := lbr) h2.sz
  have h4 := (manyP_adv (fun p h => namP_adv h) (s.size + 2) _ h3.sz).1
  have h5 := ho _ h4.sz
  exact (h1.then h2.toStp).then ((h3.toStp.trans h4).trans (h5.toStp.trans (wantS_adv h5.sz).toStp))
theorem formP_adv {g : Bool} {s w : ByteArray} {one : PS → Tm × PS} (ho : ∀ p : PS, p.1 ≤ s.size → Adv s p (one p).2) {p : PS} (h : p.1 ≤ s.size) : Adv s p (formP g s one w p).2 := by
  unfold formP
  split
  · have h1 := tagP_adv (g := g) h
    exact h1.then (manyP_adv ho _ _ h1.sz).1
  split
  · have h1 := nxS_adv h
    have h2 := namP_adv h1.sz
    have h3 := ho _ h2.sz
    have h4 := ho _ h3.sz
    exact (h1.then h2.toStp).then (h3.toStp.trans (h4.toStp.trans (wantS_adv h4.sz).toStp))
  split
  · have h1 := nxS_adv h
    have h3 := ho _ h1.sz
    exact h1.then (h3.toStp.trans (manyP_adv (fun p h => casP_adv ho h) _ _ h3.sz).1)
  split
  · have h1 := nxS_adv h
    have h3 := ho _ h1.sz
    have h4 := ho _ h3.sz
    exact h1.then (h3.toStp.trans (h4.toStp.trans (wantS_adv h4.sz).toStp))
  · have h1 := namP_adv h
    exact h1.then (manyP_adv ho _ _ h1.sz).1
theorem ps_adv {g : Bool} {s : ByteArray} : ∀ (n : Nat) (p : PS), p.1 ≤ s.size → Adv s p (Tm.ps g s n p).2
  | 0, p, h => ⟨⟨Nat.le_refl _, h, fun e => badE_er e⟩, .inl (badE_ne (by decide))⟩
  | n + 1, p, h => by
    rw [Tm.ps]
    split
    · have h1 := nxS_adv h
      exact h1.then ((Stp.pk h1.sz).trans (formP_adv (ps_adv n) (pkA_le h1.sz).2).toStp)
    · refine Adv.trans (Stp.pk h) ?_
      have h1 := nxS_adv (s := s) (p := (pkA s p.1, p.2)) (pkA_le h).2
      unfold atomP
      split
      · exact h1
      · dsimp only
        split
        · exact h1
        · exact h1.bad
theorem fnP_adv {g : Bool} {s : ByteArray} {p : PS} (h : p.1 ≤ s.size) : Adv s p (fnP g s p).2 := by
  unfold fnP
  dsimp only
  have h1 := wantS_adv (w := lbr) h
  have h2 := wantS_adv (w := wFn) h1.sz
  have h3 := namP_adv h2.sz
  have h4 := wantS_adv (w := lbr) h3.sz
  have h5 := (manyP_adv (fun p h => namP_adv h) (s.size + 2) _ h4.sz).1
  have h6 := ps_adv (g := g) 25 _ h5.sz
  exact (h1.then h2.toStp).then ((h3.toStp.trans h4.toStp).trans (h5.trans (h6.toStp.trans (wantS_adv h6.sz).toStp)))

theorem numP_in (s : ByteArray) : inI (numP s).1 := by
  unfold numP
  rcases h : Lib.atoiAll s.data.toList with v | _ | _
  · exact Lib.atoiAll_bounds h
  · exact ⟨by dsimp only; decide, by dsimp only; decide⟩
  · exact Lib.atoiSat_bounds _
set_option maxRecDepth 100000 in
set_option maxHeartbeats 4000000 in
theorem number_calls (s : ByteArray) (hs : s.size ≤ 281474976710656) (w : World) (hg : GI w) : Calls Tryd.prog 137 #[.string s] w fun e w' => e = .returned (.tuple #[.int .i64 (numP s).1, .bool (numP s).2]) ∧ Below w.heap.size w w' := by
  have gi : ∀ w' : World, Below w.heap.size w w' → GI w' := fun w' hB => hg.keep fun b hb => hB.block b (hg.lt hb)
  unfold numP
  rcases h : Lib.atoiAll s.data.toList with v | _ | _
  · have hv := Lib.atoiAll_bounds h
    go_enter Tryd.func137, Tryd.ntmps137
    go_wp2_with (first
      | (go_at_call 167; refine (Tryd.strconv_Atoi_ok s (by omega) v h _).mono ?_; rintro e w1 ⟨rfl, hw⟩; have hB : Below w.heap.size w w1 := by
          rcases hw with rfl | ⟨t, rfl⟩
          · exact Below.refl _ _
          · exact Lib.bytesWorld_below _ _ _
         clear hw; have hG := (gi _ hB).pow)
      | (go_at_call 97; refine (Tryd.strconv_Itoa v hv.1 hv.2 _ (by assumption)).mono ?_; rintro e w2 ⟨rfl, k, os, rfl⟩))
    go_ret2
    refine ⟨?_, hB.trans ⟨rfl, rfl, rfl, by simp [Go.Sort.grow, World.drewN], fun b hb => ?_⟩⟩
    · have e1 : (Lib.itoa v == s.toList) = decide ((⟨(Lib.itoa v).toArray⟩ : ByteArray) = s) := by
        have h2 := ByteArray.beq_toList (⟨(Lib.itoa v).toArray⟩ : ByteArray) s
        rwa [ByteArray.toList_eq (⟨(Lib.itoa v).toArray⟩ : ByteArray)] at h2
      show _ = Ending.returned (Value.tuple #[Value.int IntKind.i64 v, Value.bool (decide ((⟨(Lib.itoa v).toArray⟩ : ByteArray) = s))])
      rw [← e1]
      rfl
    simp only [Go.Sort.grow, World.drewN]
    rw [Array.getElem?_append_left (Nat.lt_of_lt_of_le hb hB.size)]
  · obtain ⟨tp, p, hvar⟩ := hg.syn
    go_enter Tryd.func137, Tryd.ntmps137
    go_wp2_with (go_at_call 167; refine (Tryd.strconv_Atoi_syntax_var s hs h tp p _ hvar).mono ?_; rintro e w' ⟨N, rfl, _, _, hB⟩)
    go_ret2
    exact ⟨rfl, hB⟩
  · obtain ⟨tp, p, hvar⟩ := hg.rng
    go_enter Tryd.func137, Tryd.ntmps137
    go_wp2_with (go_at_call 167; refine (Tryd.strconv_Atoi_range_var s hs h tp p _ hvar).mono ?_; rintro e w' ⟨N, rfl, _, _, hB⟩)
    go_ret2
    exact ⟨rfl, hB⟩
theorem sp_Number (s : ByteArray) (hs : s.size ≤ 281474976710656) : PSpec Tryd.prog 137 [.d (.str s)] (fun _ => .tuple [.d (.int (numP s).1), .d (.bool (numP s).2)]) none := by
  refine ⟨⟨_, Tryd.func137, rfl, rfl⟩, fun d => rfl, fun _ d => rfl, by simp, fun d w ok vals hgi hok hl hv => ?_⟩
  match vals, hl with
  | ⟨[v]⟩, _ =>
  obtain ⟨rfl, _⟩ := (hv 0 _ v rfl rfl).d_inv.str_inv
  refine (number_calls s hs w hgi).mono ?_
  rintro e w' ⟨rfl, hB⟩
  obtain ⟨h1, h2⟩ := numP_in s
  exact ⟨_, ok, noG, rfl, hB, fun b h => h, fun b h => .inl h, .tuple _ _ rfl (fun i c v hc hv => by
    rcases i with _ | _ | i <;> simp at hc hv <;> subst hc hv
    · exact .d _ _ (.int _ h1 h2)
    · exact .d _ _ (.bool _)), by simp⟩
end Go.Proofs.YtapiiklnnkkdlaaDoor
