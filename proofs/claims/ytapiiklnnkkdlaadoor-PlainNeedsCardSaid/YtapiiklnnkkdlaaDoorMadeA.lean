import Derived.Test.YtapiiklnnkkdlaaDoorNumA
import Derived.Test.YtapiiklnnkkdlaaDoorEvalB
import Derived.Test.YtapiiklnnkkdlaaDoorNameY
import Derived.Test.YtapiiklnnkkdlaaDoorPlainP
import Derived.Test.YtapiiklnnkkdlaaDoorCheckP
/- Step by step the same comes of each call: plainly. -/
namespace Go.Proofs.YtapiiklnnkkdlaaDoor
open Go.RowKit
set_option linter.unusedVariables false
set_option linter.unusedSimpArgs false
def NW (s : ByteArray) : Prop := ∀ i, s ≠ wNm i
def AgE (env env' : Env) : Prop := ∀ s, NW s → envVal env' s = envVal env s
theorem AgE.cons {env env' : Env} (h : AgE env env') (a : ByteArray) (u : Vl) : AgE ((a, u) :: env) ((a, u) :: env') := fun s hs => by
  rw [envVal_cons, envVal_cons]
  split
  · rfl
  · exact h s hs
theorem AgE.step {env env' : Env} (h : AgE env env') (i : Int) (u : Vl) : AgE env ((wNm i, u) :: env') := fun s hs => by
  rw [envVal_cons, if_neg fun e => hs i e.symm]
  exact h s hs
theorem AgE.bind : ∀ {ws : List ByteArray} {vs : List Vl} {env env' : Env}, AgE env env' → AgE (bindE ws vs env) (bindE ws vs env')
  | [], vs, env, env', h => by simpa [bindE] using h
  | w :: ws, [], env, env', h => by simpa [bindE] using h
  | w :: ws, v :: vs, env, env', h => by
    rw [bindE_cons, bindE_cons]
    exact AgE.bind (h.cons w v)
structure PlOk (A : Arity) (x : Fn) : Prop where
  rt : x.body.Rt 25
  wrong : x.body.wrong A x.params 0 = 0
  params : ∀ s ∈ x.params, NW s
  bd : ∀ s ∈ x.body.bd, NW s
  sz : (x.body.sz : Int) < 9223372036854775807

theorem seqV_nw {c : Int} {n : Nat} : ∀ s ∈ seqV c n, NW s := fun s hs i => by
  unfold seqV at hs
  obtain ⟨j, _, rfl⟩ := List.mem_map.1 hs
  exact vNm_ne_wNm _ _
theorem Fn.Right.plOk {A : Arity} {x : Fn} (h : x.Right A) (hr : x.body.Rt 25) : PlOk A x.rn := by
  have hb := (h.rnOk hr).bd
  obtain ⟨e1, e2⟩ := freshL_seq x.params 0 (by omega) (by omega)
  have hp : x.rn.params = seqV 0 x.params.length := e1
  have hR := h.rn hr
  have hsz := hR.sz
  obtain ⟨h3, _⟩ := bd_rn 25 x.body (x.params.zip (freshL x.params 0)) (freshC x.params 0) hr (by omega) (by omega)
  exact ⟨x.rn_rt hr, hR.wrong, by rw [hp]; exact seqV_nw, fun s hs => seqV_nw s (h3.mem_iff.1 hs), by omega⟩

def seqW (c : Int) (n : Nat) : List ByteArray := (List.range n).map fun (i : Nat) => wNm (c + 1 + (i : Int))
theorem seqW_add (c : Int) (m n : Nat) : seqW c (m + n) = seqW c m ++ seqW (c + m) n := by
  unfold seqW
  rw [List.range_add, List.map_append, List.map_map]
  congr 1
  refine List.map_congr_left fun i _ => ?_
  simp only [Function.comp]
  congr 1
  push_cast
  omega
theorem seqW_one (c : Int) : seqW c 1 = [wNm (c + 1)] := by simp [seqW]
theorem seqW_nodup {c : Int} (hc : 0 ≤ c) (n : Nat) : (seqW c n).Nodup := by
  unfold seqW
  rw [List.nodup_iff_pairwise_ne, List.pairwise_map]
  refine List.Pairwise.imp ?_ List.nodup_range
  intro a b hab e
  have := wNm_inj (by omega) (by omega) e
  omega
def bsBd : Bs → List ByteArray
  | [] => []
  | b :: r => b.1 :: (b.2.bd ++ bsBd r)
theorem around_bd : ∀ (bs : Bs) (t : Tm), (around bs t).bd = bsBd bs ++ t.bd
  | [], t => rfl
  | b :: r, t => by simp [around, Tm.bd, Tm.bdL, Cs.bdL, bsBd, around_bd r t]
theorem bdL_nil : ∀ l : List Tm, (∀ x ∈ l, x.bd = []) → Tm.bdL l = []
  | [], _ => rfl
  | x :: r, h => by rw [Tm.bdL, h x (List.mem_cons_self ..), bdL_nil r fun y hy => h y (List.mem_cons_of_mem _ hy)]; rfl
theorem var_bd {d : Nat} {t : Tm} (hR : t.Rt d) (h : t.tk = 1) : t.bd = [] := by
  obtain ⟨k, n, a, b, vs, xs, cs⟩ := t
  change k = 1 at h
  subst h
  cases d with
  | zero => exact hR.elim
  | succ d =>
    obtain ⟨_, hmany, _⟩ := hR
    unfold manyB at hmany
    simp at hmany
    obtain ⟨rfl, rfl⟩ := hmany
    rfl
theorem perm_mid {α : Type} {x a b c d : List α} (h1 : x.Perm (a ++ b)) : (x ++ (c ++ d)).Perm ((a ++ c) ++ (b ++ d)) := by
  refine (h1.append_right _).trans ?_
  rw [List.append_assoc, List.append_assoc]
  refine List.Perm.append_left a ?_
  rw [← List.append_assoc, ← List.append_assoc]
  exact (List.perm_append_comm).append_right d
theorem pl_bd : ∀ (d : Nat) (t : Tm) (c : Int), t.Rt d → 0 ≤ c → c + t.sz < 9223372036854775807 → ∃ n : Nat, (t.pl c).2 = c + n ∧ (t.pl c).1.bd.Perm (t.bd ++ seqW c n) := by
  intro d
  induction d with
  | zero => intro t _ h; exact h.elim
  | succ d ih =>
  intro t c hR h0 hb
  obtain ⟨k, n, a, b, vs, xs, cs⟩ := t
  have hR' := hR
  obtain ⟨hk, hmany, _, hx, hc⟩ := hR'
  have hA : ∀ (ys : List Tm) (c : Int), (∀ y ∈ ys, y ∈ xs) → 0 ≤ c → c + Tm.szs ys + 1 < 9223372036854775807 → ∃ m : Nat, (Tm.ats ys c).2.2 = c + m ∧ m ≤ Tm.szs ys ∧ (bsBd (Tm.ats ys c).2.1).Perm (Tm.bdL ys ++ seqW c m) ∧ (∀ x ∈ (Tm.ats ys c).1, x.bd = []) := by
    intro ys
    induction ys with
    | nil => intro c _ _ _; exact ⟨0, by simp [Tm.ats], by simp, by simp [Tm.ats, bsBd, Tm.bdL, seqW], by simp [Tm.ats]⟩
    | cons y r ih2 =>
      intro c hm h0 hb
      rw [Tm.szs] at hb ⊢
      have hy := hx y (hm y (List.mem_cons_self ..))
      have hp := sz_pos y
      rw [Tm.ats]
      by_cases h : y.tk = 1
      · rw [if_pos h]
        obtain ⟨m, g1, g2, g3, g4⟩ := ih2 c (fun z hz => hm z (List.mem_cons_of_mem _ hz)) h0 (by push_cast at hb; omega)
        refine ⟨m, g1, by omega, by rw [Tm.bdL, var_bd hy h, List.nil_append]; exact g3, fun x hx => ?_⟩
        rcases List.mem_cons.1 hx with rfl | hx
        · exact var_bd hy h
        · exact g4 x hx
      · rw [if_neg h]
        have hw : wr (c + 1) = c + 1 := wr_of (by omega) (by push_cast at hb; omega)
        rw [hw]
        have hcnt := pl_cnt d y (c + 1) hy (by omega) (by push_cast at hb; omega)
        obtain ⟨m1, e1, e2⟩ := ih y (c + 1) hy (by omega) (by push_cast at hb; omega)
        rw [e1] at hcnt ⊢
        obtain ⟨m2, g1, g2, g3, g4⟩ := ih2 (c + 1 + m1) (fun z hz => hm z (List.mem_cons_of_mem _ hz)) (by omega) (by push_cast at hb; omega)
        refine ⟨1 + m1 + m2, by dsimp only; rw [g1]; push_cast; omega, by omega, ?_, fun x hx => ?_⟩
        · dsimp only
          rw [bsBd, Tm.bdL, seqW_add, seqW_add, seqW_one]
          have h1 := perm_mid (c := Tm.bdL r) (d := seqW (c + 1 + m1) m2) e2
          refine (List.Perm.cons _ (((List.Perm.refl _).append g3).trans h1)).trans ?_
          rw [show c + ((1 + m1 : Nat) : Int) = c + 1 + m1 from by push_cast; omega, show c + ((1 : Nat) : Int) = c + 1 from by push_cast; omega]
          rw [List.append_assoc [wNm (c + 1)]]
          exact (List.perm_middle (a := wNm (c + 1)) (l₁ := y.bd ++ Tm.bdL r) (l₂ := seqW (c + 1) m1 ++ seqW (c + 1 + m1) m2)).symm
        · rcases List.mem_cons.1 hx with rfl | hx
          · rfl
          · exact g4 x hx
  have hL : ∀ (ys : List Tm) (c : Int), (∀ y ∈ ys, y ∈ xs) → 0 ≤ c → c + Tm.szs ys < 9223372036854775807 → ∃ m : Nat, (Tm.plL ys c).2 = c + m ∧ m ≤ Tm.szs ys ∧ (Tm.bdL (Tm.plL ys c).1).Perm (Tm.bdL ys ++ seqW c m) := by
    intro ys
    induction ys with
    | nil => intro c _ _ _; exact ⟨0, by simp [Tm.plL], by simp, by simp [Tm.plL, Tm.bdL, seqW]⟩
    | cons y r ih2 =>
      intro c hm h0 hb
      rw [Tm.szs] at hb ⊢
      have hy := hx y (hm y (List.mem_cons_self ..))
      have hcnt := pl_cnt d y c hy (by omega) (by push_cast at hb; omega)
      obtain ⟨m1, e1, e2⟩ := ih y c hy (by omega) (by push_cast at hb; omega)
      rw [Tm.plL]
      rw [e1] at hcnt ⊢
      obtain ⟨m2, g1, g2, g3⟩ := ih2 (c + m1) (fun z hz => hm z (List.mem_cons_of_mem _ hz)) (by omega) (by push_cast at hb; omega)
      refine ⟨m1 + m2, by dsimp only; rw [g1]; push_cast; omega, by omega, ?_⟩
      dsimp only
      rw [Tm.bdL, Tm.bdL, seqW_add]
      exact ((List.Perm.refl _).append g3).trans (perm_mid e2)
  have hC : ∀ (ys : List Cs) (c : Int), (∀ y ∈ ys, y ∈ cs) → 0 ≤ c → c + Cs.szs ys < 9223372036854775807 → ∃ m : Nat, (Cs.plL ys c).2 = c + m ∧ m ≤ Cs.szs ys ∧ (Cs.bdL (Cs.plL ys c).1).Perm (Cs.bdL ys ++ seqW c m) := by
    intro ys
    induction ys with
    | nil => intro c _ _ _; exact ⟨0, by simp [Cs.plL], by simp, by simp [Cs.plL, Cs.bdL, seqW]⟩
    | cons y r ih2 =>
      intro c hm h0 hb
      have hy := hc y (hm y (List.mem_cons_self ..))
      obtain ⟨t, ws, y⟩ := y
      have hy := hy.2
      change y.Rt d at hy
      rw [Cs.szs, Cs.sz] at hb ⊢
      have hcnt := pl_cnt d y c hy (by omega) (by push_cast at hb; omega)
      obtain ⟨m1, e1, e2⟩ := ih y c hy (by omega) (by push_cast at hb; omega)
      rw [Cs.plL, Cs.pl]
      dsimp only
      rw [e1] at hcnt ⊢
      obtain ⟨m2, g1, g2, g3⟩ := ih2 (c + m1) (fun z hz => hm z (List.mem_cons_of_mem _ hz)) (by omega) (by push_cast at hb; omega)
      refine ⟨m1 + m2, by rw [g1]; push_cast; omega, by omega, ?_⟩
      rw [Cs.bdL, Cs.bdL, Cs.bd, Cs.bd, seqW_add]
      refine ((List.Perm.refl _).append g3).trans (perm_mid ?_)
      rw [List.append_assoc]
      exact (List.Perm.refl _).append e2
  have hs : ((Tm.mk k n a b vs xs cs).sz : Int) = 1 + Tm.szs xs + Cs.szs cs := by rw [Tm.sz]; push_cast; omega
  rw [hs] at hb
  rw [Tm.pl]
  split
  · rename_i h
    have hcs : cs = [] := by
      unfold manyB at hmany
      rcases h with rfl | rfl | rfl <;> simp at hmany <;> first | exact hmany.2 | (cases cs with | nil => rfl | cons _ _ => simp at hmany)
    subst hcs
    obtain ⟨m, g1, g2, g3, g4⟩ := hA xs c (fun _ h => h) h0 (by omega)
    refine ⟨m, g1, ?_⟩
    dsimp only
    rw [around_bd, Tm.bd, Tm.bd, if_neg (by omega), bdL_nil _ g4]
    simpa [Cs.bdL] using g3
  split
  · rename_i h
    subst h
    have hcs : cs = [] := by
      unfold manyB at hmany
      simp at hmany
      exact hmany.2
    subst hcs
    obtain ⟨m, g1, g2, g3⟩ := hL xs c (fun _ h => h) h0 (by omega)
    refine ⟨m, g1, ?_⟩
    dsimp only
    rw [Tm.bd, Tm.bd, if_pos rfl, Cs.bdL, List.append_nil, List.append_nil, List.append_assoc]
    exact (List.Perm.refl _).append g3
  split
  · rename_i h
    subst h
    obtain ⟨m, g1, g2, g3, g4⟩ := hA xs c (fun _ h => h) h0 (by omega)
    rw [g1]
    obtain ⟨m2, f1, f2, f3⟩ := hC cs (c + m) (fun _ h => h) (by omega) (by omega)
    refine ⟨m + m2, by dsimp only; rw [f1]; push_cast; omega, ?_⟩
    dsimp only
    rw [around_bd, Tm.bd, Tm.bd, if_neg (by omega), if_neg (by omega), bdL_nil _ g4, List.nil_append, List.nil_append, List.nil_append, seqW_add]
    exact ((List.Perm.refl _).append f3).trans (perm_mid g3)
  · exact ⟨0, by simp, by simp [seqW]⟩
theorem Fn.Right.pl_bd {A : Arity} {x : Fn} (h : x.Right A) (hr : x.body.Rt 25) : x.pl.bd.Nodup := by
  have hO := h.plOk hr
  have hn := x.rn_bd hr (by have := bd_le 25 x.body hr; have := h.sz; have := h.params; unfold Fn.bd; rw [List.length_append]; omega)
  obtain ⟨m, _, hp⟩ := Go.Proofs.YtapiiklnnkkdlaaDoor.pl_bd 25 x.rn.body 0 (x.rn_rt hr) (by omega) (by have := hO.sz; omega)
  have hp2 : x.pl.bd.Perm (x.rn.bd ++ seqW 0 m) := by
    unfold Fn.bd
    rw [List.append_assoc]
    exact (List.Perm.refl x.rn.params).append hp
  refine hp2.nodup_iff.2 (List.nodup_append.2 ⟨hn, seqW_nodup (by omega) m, fun s hs t ht e => ?_⟩)
  have hw : NW s := by
    unfold Fn.bd at hs
    rcases List.mem_append.1 hs with hs | hs
    · exact hO.params s hs
    · exact hO.bd s hs
  unfold seqW at ht
  obtain ⟨j, _, rfl⟩ := List.mem_map.1 ht
  exact hw _ e
theorem Fn.Right.pl_free {A : Arity} {x : Fn} (h : x.Right A) (hr : x.body.Rt 25) : ∀ s ∈ x.pl.body.free, s ∈ x.pl.params := by
  have hR := h.rn hr
  have hsz := hR.sz
  exact wrong_free A _ x.pl.body x.pl.params (-151) (Nat.lt_succ_self _) (pl_wrong A 25 x.rn.body x.rn.params x.rn.params 0 0 (-151) (x.rn_rt hr) hR.wrong (fun _ h => h) (by omega) (by omega) (by omega))
end Go.Proofs.YtapiiklnnkkdlaaDoor

namespace Go.Proofs.YtapiiklnnkkdlaaDoor
open Go.RowKit
attribute [local simp] runD mkRc ldOf stOf stOk ldArg noAny dstOk guardOk opEff opEff0 effOp pureOp callOp zEff evA constAV scalAV Value.oneCell' frGet memGet startAS frOf isGoCall idIn AS.after nextR opnIds objIds AV.ids idsL AObj.ids frNo memNo opnAny isAny mkVal rdCells wrCells fldAddr idxAddr srcRows litRows toD1 toDs setAt sliceAV optI partAV bldAV fillAV binAV binI AV.cells callEff calleeOf frKill memKill AV.kill AObj.kill AV.has AV.hasL Op.operands Call.operands keepF keepM viewIds cChk renOf moGet moWs moQ cEff moLike moHave AV.ren renL AObj.ren AObj.like kept startC moMem AV.frz frz1 frzL frSub memSub frzs AS.frz frFrz memFrz AObj.frz takeMap takeLen bleF Nat.ble_eq memAny objAny mapOp D.keyOk rowAV valRow extOp wrapOp phO
set_option linter.unusedVariables false
set_option linter.unusedSimpArgs false
def IsN (N : Nat) : Prop := ∀ t : Tm, t.Rt N → PSpec Tryd.prog 65 [tmAV t] (fun _ => .d (.bool t.isP)) none
set_option maxRecDepth 20000 in
set_option maxHeartbeats 16000000 in
theorem isP_step (N : Nat) (ih : IsN N) : IsN (N + 1) := by
  intro t hRt
  obtain ⟨R, hR⟩ : ∃ R, R = t.isP := ⟨_, rfl⟩
  rw [← hR]
  obtain ⟨tk, tn, ta, tb, tvs, txs, tcs⟩ := t
  obtain ⟨hkk, hmany, h6, hxR, hcR⟩ := hRt
  refine PSpec.of Tryd.func65 rfl rfl rfl (Nat.le_of_ble_eq_true rfl) ?_
  show AWp _ _ (endQ _ Tryd.f65 _ _ _) (startAS 52 _)
  refine AWp.rg [] [] ?_ (hr := by conv => lhs; simp [Tm.row, Tm.rows_eq, Cs.rows_eq])
  refine AWp.rg [] [] ?_ (hr := by conv => lhs; simp [Tm.row, Tm.rows_eq, Cs.rows_eq])
  by_cases q1 : tk = 3
  · refine AWp.rg [] [] ?_ (hr := by conv => lhs; simp [Tm.row, Tm.rows_eq, Cs.rows_eq, q1])
    refine AWp.cy ?_
    refine AWp.skip ?_
    refine AWp.cy ?_
    refine AWp.rg [] [] ?_ (hr := by conv => lhs; simp [Tm.row, Tm.rows_eq, Cs.rows_eq, q1])
    repeat (first | refine AWp.seq ?_ | refine AWp.block ?_)
    refine AWp.loop (σ := fun u : {u : Nat // u ≤ txs.length ∧ Tm.isL tk txs = Tm.isL tk (txs.drop u)} => ⟨52, [(1, .ptr 1 0), (17, .d (.sl (txs.map Tm.row))), (18, .d (.int (txs.length : Int))), (19, .d (.int (u.1 : Int)))], [(1, some (.blk 34 [.d (.int 3), .d (.int tn), .d (.str ta), .d (.str tb), .d (strsD tvs), .d (.sl (txs.map Tm.row)), .d (.sl (tcs.map Cs.row))]))]⟩)
      (μ := fun u => txs.length - u.1) ⟨0, ⟨Nat.zero_le _, by simp⟩⟩ (Le.sub (by simp) (by simp)) (fun ⟨i, ⟨hi7, hw⟩⟩ => ?_)
    dsimp only
    refine AWp.rg [] [] ?_ (hr := by conv => lhs; simp [Tm.row, Tm.rows_eq, Cs.rows_eq, q1])
    repeat (first | refine AWp.seq ?_ | refine AWp.block ?_)
    refine AWp.cond rfl (fun hc => ?_) (fun hc => ?_)
    · have hi1 : i < txs.length := by have := of_decide_eq_true hc; omega
      clear hc
      have h1y : txs[i]? = some txs[i] := List.getElem?_eq_getElem hi1
      have hmy : txs[i] ∈ txs := List.getElem_mem hi1
      have hdy : txs.drop i = txs[i] :: txs.drop (i + 1) := List.drop_eq_getElem_cons hi1
      generalize txs[i] = y at h1y hmy hdy
      rw [hdy, Tm.isL] at hw
      obtain ⟨yk, yn, ya, yb, yvs, yxs, ycs⟩ := y
      rw [Tm.tk] at hw
      refine AWp.skip ?_
      refine AWp.rg [] [] ?_ (hr := by conv => lhs; simp [Tm.row, Tm.rows_eq, Cs.rows_eq, h1y, q1])
      by_cases q2 : yk = 1
      · refine AWp.rg [] [] ?_ (hr := by conv => lhs; simp [Tm.row, Tm.rows_eq, Cs.rows_eq, h1y, q1, q2])
        refine AWp.cn ?_
        refine AWp.skip ?_
        refine AWp.rg [] [] ?_ (hr := by conv => lhs; simp [Tm.row, Tm.rows_eq, Cs.rows_eq, h1y, q1, q2])
        refine ⟨⟨i + 1, hi1, by rw [hw, if_neg (by omega), q2]; simp⟩, by simp; omega, ?_⟩
        dsimp only
        exact Le.sub (by simp) (by simp)
      refine AWp.rg [] [] ?_ (hr := by conv => lhs; simp [Tm.row, Tm.rows_eq, Cs.rows_eq, h1y, q1, q2])
      refine AWp.cy ?_
      obtain rfl : R = false := by rw [hR, Tm.isP, hw, if_neg (by omega), decide_eq_false q2]; rfl
      refine AWp.rg [] [] ?_ (hr := by conv => lhs; simp [Tm.row, Tm.rows_eq, Cs.rows_eq, h1y, q1, q2])
      refine AWp.ret ?_
      try dsimp only [thenQ, blockQ]
      apply endQ.ret
      · rfl
      · conv => lhs; simp [resAV, Tryd.results65]
      rfl
    have hi1 : i = txs.length := by have := of_decide_eq_false hc; omega
    subst hi1
    clear hc
    rw [List.drop_length, Tm.isL] at hw
    have hA := hw
    refine AWp.exit ?_
    refine AWp.rg [] [] ?_ (hr := by conv => lhs; simp [Tm.row, Tm.rows_eq, Cs.rows_eq, q1])
    repeat (first | refine AWp.seq ?_ | refine AWp.block ?_)
    refine AWp.loop (σ := fun u : {u : Nat // u ≤ tcs.length ∧ Cs.isL tcs = Cs.isL (tcs.drop u)} => ⟨52, [(41, .d (.sl (tcs.map Cs.row))), (42, .d (.int (tcs.length : Int))), (43, .d (.int (u.1 : Int)))], []⟩)
      (μ := fun u => tcs.length - u.1) ⟨0, ⟨Nat.zero_le _, by simp⟩⟩ (Le.sub (by simp) (by simp)) (fun ⟨i, ⟨hi20, hw2⟩⟩ => ?_)
    dsimp only
    refine AWp.rg [] [] ?_ (hr := by conv => lhs; simp [Tm.row, Tm.rows_eq, Cs.rows_eq, q1])
    repeat (first | refine AWp.seq ?_ | refine AWp.block ?_)
    refine AWp.cond rfl (fun hc => ?_) (fun hc => ?_)
    · have hi1 : i < tcs.length := by have := of_decide_eq_true hc; omega
      clear hc
      have h1d : tcs[i]? = some tcs[i] := List.getElem?_eq_getElem hi1
      have hmd : tcs[i] ∈ tcs := List.getElem_mem hi1
      have hdd : tcs.drop i = tcs[i] :: tcs.drop (i + 1) := List.drop_eq_getElem_cons hi1
      generalize tcs[i] = d at h1d hmd hdd
      rw [hdd, Cs.isL] at hw2
      have hyR := (hcR d hmd).2
      obtain ⟨dt, dws, y⟩ := d
      rw [Cs.isP] at hw2
      have hx := ih y hyR
      generalize y.isP = q at hx hw2
      obtain ⟨dk, dn, da, db, dvs, dxs, dcs⟩ := y
      refine AWp.skip ?_
      refine AWp.rg [] [] ?_ (hr := by conv => lhs; simp [Tm.row, Tm.rows_eq, Cs.rows_eq, h1d, Cs.row, q1])
      cases q with
      | true =>
        refine AWp.rg [] [.p (fun _ => .d (.bool true)) none] ?_ (hr := by conv => lhs; simp [Tm.row, Tm.rows_eq, Cs.rows_eq, h1d, Cs.row, q1])
        refine AWp.cn ?_
        refine AWp.skip ?_
        refine AWp.rg [] [] ?_ (hr := by conv => lhs; simp [Tm.row, Tm.rows_eq, Cs.rows_eq, h1d, Cs.row, q1])
        refine ⟨⟨i + 1, hi1, by rw [hw2]; rfl⟩, by simp; omega, ?_⟩
        dsimp only
        exact Le.sub (by simp) (by simp)
      | false =>
        refine AWp.rg [] [.p (fun _ => .d (.bool false)) none] ?_ (hr := by conv => lhs; simp [Tm.row, Tm.rows_eq, Cs.rows_eq, h1d, Cs.row, q1])
        refine AWp.cy ?_
        obtain rfl : R = false := by rw [hR, Tm.isP, hw2, Bool.false_and, Bool.and_false]
        refine AWp.rg [] [] ?_ (hr := by conv => lhs; simp [Tm.row, Tm.rows_eq, Cs.rows_eq, h1d, Cs.row, q1])
        refine AWp.ret ?_
        try dsimp only [thenQ, blockQ]
        apply endQ.ret
        · rfl
        · conv => lhs; simp [resAV, Tryd.results65]
        rfl
    have hi1 : i = tcs.length := by have := of_decide_eq_false hc; omega
    subst hi1
    clear hc
    rw [List.drop_length, Cs.isL] at hw2
    obtain rfl : R = true := by rw [hR, Tm.isP, hA, hw2]; rfl
    refine AWp.exit ?_
    refine AWp.rg [] [] ?_ (hr := by conv => lhs; simp [Tm.row, Tm.rows_eq, Cs.rows_eq, q1])
    refine AWp.ret ?_
    try dsimp only [thenQ, blockQ]
    apply endQ.ret
    · rfl
    · conv => lhs; simp [resAV, Tryd.results65]
    rfl
  refine AWp.rg [] [] ?_ (hr := by conv => lhs; simp [Tm.row, Tm.rows_eq, Cs.rows_eq, q1])
  refine AWp.cn ?_
  by_cases q3 : tk = 4
  · refine AWp.rg [] [] ?_ (hr := by conv => lhs; simp [Tm.row, Tm.rows_eq, Cs.rows_eq, q1, q3])
    refine AWp.cy ?_
    refine AWp.skip ?_
    refine AWp.cy ?_
    refine AWp.rg [] [] ?_ (hr := by conv => lhs; simp [Tm.row, Tm.rows_eq, Cs.rows_eq, q1, q3])
    repeat (first | refine AWp.seq ?_ | refine AWp.block ?_)
    refine AWp.loop (σ := fun u : {u : Nat // u ≤ txs.length ∧ Tm.isL tk txs = Tm.isL tk (txs.drop u)} => ⟨52, [(1, .ptr 1 0), (17, .d (.sl (txs.map Tm.row))), (18, .d (.int (txs.length : Int))), (19, .d (.int (u.1 : Int)))], [(1, some (.blk 34 [.d (.int 4), .d (.int tn), .d (.str ta), .d (.str tb), .d (strsD tvs), .d (.sl (txs.map Tm.row)), .d (.sl (tcs.map Cs.row))]))]⟩)
      (μ := fun u => txs.length - u.1) ⟨0, ⟨Nat.zero_le _, by simp⟩⟩ (Le.sub (by simp) (by simp)) (fun ⟨i, ⟨hi7, hw⟩⟩ => ?_)
    dsimp only
    refine AWp.rg [] [] ?_ (hr := by conv => lhs; simp [Tm.row, Tm.rows_eq, Cs.rows_eq, q1, q3])
    repeat (first | refine AWp.seq ?_ | refine AWp.block ?_)
    refine AWp.cond rfl (fun hc => ?_) (fun hc => ?_)
    · have hi1 : i < txs.length := by have := of_decide_eq_true hc; omega
      clear hc
      have h1y : txs[i]? = some txs[i] := List.getElem?_eq_getElem hi1
      have hmy : txs[i] ∈ txs := List.getElem_mem hi1
      have hdy : txs.drop i = txs[i] :: txs.drop (i + 1) := List.drop_eq_getElem_cons hi1
      generalize txs[i] = y at h1y hmy hdy
      rw [hdy, Tm.isL] at hw
      obtain ⟨yk, yn, ya, yb, yvs, yxs, ycs⟩ := y
      rw [Tm.tk] at hw
      refine AWp.skip ?_
      refine AWp.rg [] [] ?_ (hr := by conv => lhs; simp [Tm.row, Tm.rows_eq, Cs.rows_eq, h1y, q1, q3])
      by_cases q4 : yk = 1
      · refine AWp.rg [] [] ?_ (hr := by conv => lhs; simp [Tm.row, Tm.rows_eq, Cs.rows_eq, h1y, q1, q3, q4])
        refine AWp.cn ?_
        refine AWp.skip ?_
        refine AWp.rg [] [] ?_ (hr := by conv => lhs; simp [Tm.row, Tm.rows_eq, Cs.rows_eq, h1y, q1, q3, q4])
        refine ⟨⟨i + 1, hi1, by rw [hw, if_neg (by omega), q4]; simp⟩, by simp; omega, ?_⟩
        dsimp only
        exact Le.sub (by simp) (by simp)
      refine AWp.rg [] [] ?_ (hr := by conv => lhs; simp [Tm.row, Tm.rows_eq, Cs.rows_eq, h1y, q1, q3, q4])
      refine AWp.cy ?_
      obtain rfl : R = false := by rw [hR, Tm.isP, hw, if_neg (by omega), decide_eq_false q4]; rfl
      refine AWp.rg [] [] ?_ (hr := by conv => lhs; simp [Tm.row, Tm.rows_eq, Cs.rows_eq, h1y, q1, q3, q4])
      refine AWp.ret ?_
      try dsimp only [thenQ, blockQ]
      apply endQ.ret
      · rfl
      · conv => lhs; simp [resAV, Tryd.results65]
      rfl
    have hi1 : i = txs.length := by have := of_decide_eq_false hc; omega
    subst hi1
    clear hc
    rw [List.drop_length, Tm.isL] at hw
    have hA := hw
    refine AWp.exit ?_
    refine AWp.rg [] [] ?_ (hr := by conv => lhs; simp [Tm.row, Tm.rows_eq, Cs.rows_eq, q1, q3])
    repeat (first | refine AWp.seq ?_ | refine AWp.block ?_)
    refine AWp.loop (σ := fun u : {u : Nat // u ≤ tcs.length ∧ Cs.isL tcs = Cs.isL (tcs.drop u)} => ⟨52, [(41, .d (.sl (tcs.map Cs.row))), (42, .d (.int (tcs.length : Int))), (43, .d (.int (u.1 : Int)))], []⟩)
      (μ := fun u => tcs.length - u.1) ⟨0, ⟨Nat.zero_le _, by simp⟩⟩ (Le.sub (by simp) (by simp)) (fun ⟨i, ⟨hi20, hw2⟩⟩ => ?_)
    dsimp only
    refine AWp.rg [] [] ?_ (hr := by conv => lhs; simp [Tm.row, Tm.rows_eq, Cs.rows_eq, q1, q3])
    repeat (first | refine AWp.seq ?_ | refine AWp.block ?_)
    refine AWp.cond rfl (fun hc => ?_) (fun hc => ?_)
    · have hi1 : i < tcs.length := by have := of_decide_eq_true hc; omega
      clear hc
      have h1d : tcs[i]? = some tcs[i] := List.getElem?_eq_getElem hi1
      have hmd : tcs[i] ∈ tcs := List.getElem_mem hi1
      have hdd : tcs.drop i = tcs[i] :: tcs.drop (i + 1) := List.drop_eq_getElem_cons hi1
      generalize tcs[i] = d at h1d hmd hdd
      rw [hdd, Cs.isL] at hw2
      have hyR := (hcR d hmd).2
      obtain ⟨dt, dws, y⟩ := d
      rw [Cs.isP] at hw2
      have hx := ih y hyR
      generalize y.isP = q at hx hw2
      obtain ⟨dk, dn, da, db, dvs, dxs, dcs⟩ := y
      refine AWp.skip ?_
      refine AWp.rg [] [] ?_ (hr := by conv => lhs; simp [Tm.row, Tm.rows_eq, Cs.rows_eq, h1d, Cs.row, q1, q3])
      cases q with
      | true =>
        refine AWp.rg [] [.p (fun _ => .d (.bool true)) none] ?_ (hr := by conv => lhs; simp [Tm.row, Tm.rows_eq, Cs.rows_eq, h1d, Cs.row, q1, q3])
        refine AWp.cn ?_
        refine AWp.skip ?_
        refine AWp.rg [] [] ?_ (hr := by conv => lhs; simp [Tm.row, Tm.rows_eq, Cs.rows_eq, h1d, Cs.row, q1, q3])
        refine ⟨⟨i + 1, hi1, by rw [hw2]; rfl⟩, by simp; omega, ?_⟩
        dsimp only
        exact Le.sub (by simp) (by simp)
      | false =>
        refine AWp.rg [] [.p (fun _ => .d (.bool false)) none] ?_ (hr := by conv => lhs; simp [Tm.row, Tm.rows_eq, Cs.rows_eq, h1d, Cs.row, q1, q3])
        refine AWp.cy ?_
        obtain rfl : R = false := by rw [hR, Tm.isP, hw2, Bool.false_and, Bool.and_false]
        refine AWp.rg [] [] ?_ (hr := by conv => lhs; simp [Tm.row, Tm.rows_eq, Cs.rows_eq, h1d, Cs.row, q1, q3])
        refine AWp.ret ?_
        try dsimp only [thenQ, blockQ]
        apply endQ.ret
        · rfl
        · conv => lhs; simp [resAV, Tryd.results65]
        rfl
    have hi1 : i = tcs.length := by have := of_decide_eq_false hc; omega
    subst hi1
    clear hc
    rw [List.drop_length, Cs.isL] at hw2
    obtain rfl : R = true := by rw [hR, Tm.isP, hA, hw2]; rfl
    refine AWp.exit ?_
    refine AWp.rg [] [] ?_ (hr := by conv => lhs; simp [Tm.row, Tm.rows_eq, Cs.rows_eq, q1, q3])
    refine AWp.ret ?_
    try dsimp only [thenQ, blockQ]
    apply endQ.ret
    · rfl
    · conv => lhs; simp [resAV, Tryd.results65]
    rfl
  refine AWp.rg [] [] ?_ (hr := by conv => lhs; simp [Tm.row, Tm.rows_eq, Cs.rows_eq, q1, q3])
  refine AWp.cn ?_
  by_cases q5 : tk = 5
  · refine AWp.rg [] [] ?_ (hr := by conv => lhs; simp [Tm.row, Tm.rows_eq, Cs.rows_eq, q1, q3, q5])
    refine AWp.cy ?_
    refine AWp.skip ?_
    refine AWp.cy ?_
    refine AWp.rg [] [] ?_ (hr := by conv => lhs; simp [Tm.row, Tm.rows_eq, Cs.rows_eq, q1, q3, q5])
    repeat (first | refine AWp.seq ?_ | refine AWp.block ?_)
    refine AWp.loop (σ := fun u : {u : Nat // u ≤ txs.length ∧ Tm.isL tk txs = Tm.isL tk (txs.drop u)} => ⟨52, [(1, .ptr 1 0), (17, .d (.sl (txs.map Tm.row))), (18, .d (.int (txs.length : Int))), (19, .d (.int (u.1 : Int)))], [(1, some (.blk 34 [.d (.int 5), .d (.int tn), .d (.str ta), .d (.str tb), .d (strsD tvs), .d (.sl (txs.map Tm.row)), .d (.sl (tcs.map Cs.row))]))]⟩)
      (μ := fun u => txs.length - u.1) ⟨0, ⟨Nat.zero_le _, by simp⟩⟩ (Le.sub (by simp) (by simp)) (fun ⟨i, ⟨hi7, hw⟩⟩ => ?_)
    dsimp only
    refine AWp.rg [] [] ?_ (hr := by conv => lhs; simp [Tm.row, Tm.rows_eq, Cs.rows_eq, q1, q3, q5])
    repeat (first | refine AWp.seq ?_ | refine AWp.block ?_)
    refine AWp.cond rfl (fun hc => ?_) (fun hc => ?_)
    · have hi1 : i < txs.length := by have := of_decide_eq_true hc; omega
      clear hc
      have h1y : txs[i]? = some txs[i] := List.getElem?_eq_getElem hi1
      have hmy : txs[i] ∈ txs := List.getElem_mem hi1
      have hdy : txs.drop i = txs[i] :: txs.drop (i + 1) := List.drop_eq_getElem_cons hi1
      generalize txs[i] = y at h1y hmy hdy
      rw [hdy, Tm.isL] at hw
      obtain ⟨yk, yn, ya, yb, yvs, yxs, ycs⟩ := y
      rw [Tm.tk] at hw
      refine AWp.skip ?_
      refine AWp.rg [] [] ?_ (hr := by conv => lhs; simp [Tm.row, Tm.rows_eq, Cs.rows_eq, h1y, q1, q3, q5])
      by_cases q6 : yk = 1
      · refine AWp.rg [] [] ?_ (hr := by conv => lhs; simp [Tm.row, Tm.rows_eq, Cs.rows_eq, h1y, q1, q3, q5, q6])
        refine AWp.cn ?_
        refine AWp.skip ?_
        refine AWp.rg [] [] ?_ (hr := by conv => lhs; simp [Tm.row, Tm.rows_eq, Cs.rows_eq, h1y, q1, q3, q5, q6])
        refine ⟨⟨i + 1, hi1, by rw [hw, if_neg (by omega), q6]; simp⟩, by simp; omega, ?_⟩
        dsimp only
        exact Le.sub (by simp) (by simp)
      refine AWp.rg [] [] ?_ (hr := by conv => lhs; simp [Tm.row, Tm.rows_eq, Cs.rows_eq, h1y, q1, q3, q5, q6])
      refine AWp.cy ?_
      obtain rfl : R = false := by rw [hR, Tm.isP, hw, if_neg (by omega), decide_eq_false q6]; rfl
      refine AWp.rg [] [] ?_ (hr := by conv => lhs; simp [Tm.row, Tm.rows_eq, Cs.rows_eq, h1y, q1, q3, q5, q6])
      refine AWp.ret ?_
      try dsimp only [thenQ, blockQ]
      apply endQ.ret
      · rfl
      · conv => lhs; simp [resAV, Tryd.results65]
      rfl
    have hi1 : i = txs.length := by have := of_decide_eq_false hc; omega
    subst hi1
    clear hc
    rw [List.drop_length, Tm.isL] at hw
    have hA := hw
    refine AWp.exit ?_
    refine AWp.rg [] [] ?_ (hr := by conv => lhs; simp [Tm.row, Tm.rows_eq, Cs.rows_eq, q1, q3, q5])
    repeat (first | refine AWp.seq ?_ | refine AWp.block ?_)
    refine AWp.loop (σ := fun u : {u : Nat // u ≤ tcs.length ∧ Cs.isL tcs = Cs.isL (tcs.drop u)} => ⟨52, [(41, .d (.sl (tcs.map Cs.row))), (42, .d (.int (tcs.length : Int))), (43, .d (.int (u.1 : Int)))], []⟩)
      (μ := fun u => tcs.length - u.1) ⟨0, ⟨Nat.zero_le _, by simp⟩⟩ (Le.sub (by simp) (by simp)) (fun ⟨i, ⟨hi20, hw2⟩⟩ => ?_)
    dsimp only
    refine AWp.rg [] [] ?_ (hr := by conv => lhs; simp [Tm.row, Tm.rows_eq, Cs.rows_eq, q1, q3, q5])
    repeat (first | refine AWp.seq ?_ | refine AWp.block ?_)
    refine AWp.cond rfl (fun hc => ?_) (fun hc => ?_)
    · have hi1 : i < tcs.length := by have := of_decide_eq_true hc; omega
      clear hc
      have h1d : tcs[i]? = some tcs[i] := List.getElem?_eq_getElem hi1
      have hmd : tcs[i] ∈ tcs := List.getElem_mem hi1
      have hdd : tcs.drop i = tcs[i] :: tcs.drop (i + 1) := List.drop_eq_getElem_cons hi1
      generalize tcs[i] = d at h1d hmd hdd
      rw [hdd, Cs.isL] at hw2
      have hyR := (hcR d hmd).2
      obtain ⟨dt, dws, y⟩ := d
      rw [Cs.isP] at hw2
      have hx := ih y hyR
      generalize y.isP = q at hx hw2
      obtain ⟨dk, dn, da, db, dvs, dxs, dcs⟩ := y
      refine AWp.skip ?_
      refine AWp.rg [] [] ?_ (hr := by conv => lhs; simp [Tm.row, Tm.rows_eq, Cs.rows_eq, h1d, Cs.row, q1, q3, q5])
      cases q with
      | true =>
        refine AWp.rg [] [.p (fun _ => .d (.bool true)) none] ?_ (hr := by conv => lhs; simp [Tm.row, Tm.rows_eq, Cs.rows_eq, h1d, Cs.row, q1, q3, q5])
        refine AWp.cn ?_
        refine AWp.skip ?_
        refine AWp.rg [] [] ?_ (hr := by conv => lhs; simp [Tm.row, Tm.rows_eq, Cs.rows_eq, h1d, Cs.row, q1, q3, q5])
        refine ⟨⟨i + 1, hi1, by rw [hw2]; rfl⟩, by simp; omega, ?_⟩
        dsimp only
        exact Le.sub (by simp) (by simp)
      | false =>
        refine AWp.rg [] [.p (fun _ => .d (.bool false)) none] ?_ (hr := by conv => lhs; simp [Tm.row, Tm.rows_eq, Cs.rows_eq, h1d, Cs.row, q1, q3, q5])
        refine AWp.cy ?_
        obtain rfl : R = false := by rw [hR, Tm.isP, hw2, Bool.false_and, Bool.and_false]
        refine AWp.rg [] [] ?_ (hr := by conv => lhs; simp [Tm.row, Tm.rows_eq, Cs.rows_eq, h1d, Cs.row, q1, q3, q5])
        refine AWp.ret ?_
        try dsimp only [thenQ, blockQ]
        apply endQ.ret
        · rfl
        · conv => lhs; simp [resAV, Tryd.results65]
        rfl
    have hi1 : i = tcs.length := by have := of_decide_eq_false hc; omega
    subst hi1
    clear hc
    rw [List.drop_length, Cs.isL] at hw2
    obtain rfl : R = true := by rw [hR, Tm.isP, hA, hw2]; rfl
    refine AWp.exit ?_
    refine AWp.rg [] [] ?_ (hr := by conv => lhs; simp [Tm.row, Tm.rows_eq, Cs.rows_eq, q1, q3, q5])
    refine AWp.ret ?_
    try dsimp only [thenQ, blockQ]
    apply endQ.ret
    · rfl
    · conv => lhs; simp [resAV, Tryd.results65]
    rfl
  refine AWp.rg [] [] ?_ (hr := by conv => lhs; simp [Tm.row, Tm.rows_eq, Cs.rows_eq, q1, q3, q5])
  refine AWp.cn ?_
  by_cases q7 : tk = 7
  · refine AWp.rg [] [] ?_ (hr := by conv => lhs; simp [Tm.row, Tm.rows_eq, Cs.rows_eq, q1, q3, q5, q7])
    refine AWp.cy ?_
    refine AWp.rg [] [] ?_ (hr := by conv => lhs; simp [Tm.row, Tm.rows_eq, Cs.rows_eq, q1, q3, q5, q7])
    repeat (first | refine AWp.seq ?_ | refine AWp.block ?_)
    refine AWp.loop (σ := fun u : {u : Nat // u ≤ txs.length ∧ Tm.isL tk txs = Tm.isL tk (txs.drop u)} => ⟨52, [(1, .ptr 1 0), (17, .d (.sl (txs.map Tm.row))), (18, .d (.int (txs.length : Int))), (19, .d (.int (u.1 : Int)))], [(1, some (.blk 34 [.d (.int 7), .d (.int tn), .d (.str ta), .d (.str tb), .d (strsD tvs), .d (.sl (txs.map Tm.row)), .d (.sl (tcs.map Cs.row))]))]⟩)
      (μ := fun u => txs.length - u.1) ⟨0, ⟨Nat.zero_le _, by simp⟩⟩ (Le.sub (by simp) (by simp)) (fun ⟨i, ⟨hi7, hw⟩⟩ => ?_)
    dsimp only
    refine AWp.rg [] [] ?_ (hr := by conv => lhs; simp [Tm.row, Tm.rows_eq, Cs.rows_eq, q1, q3, q5, q7])
    repeat (first | refine AWp.seq ?_ | refine AWp.block ?_)
    refine AWp.cond rfl (fun hc => ?_) (fun hc => ?_)
    · have hi1 : i < txs.length := by have := of_decide_eq_true hc; omega
      clear hc
      have h1y : txs[i]? = some txs[i] := List.getElem?_eq_getElem hi1
      have hmy : txs[i] ∈ txs := List.getElem_mem hi1
      have hdy : txs.drop i = txs[i] :: txs.drop (i + 1) := List.drop_eq_getElem_cons hi1
      generalize txs[i] = y at h1y hmy hdy
      rw [hdy, Tm.isL] at hw
      obtain ⟨yk, yn, ya, yb, yvs, yxs, ycs⟩ := y
      rw [Tm.tk] at hw
      refine AWp.skip ?_
      refine AWp.rg [] [] ?_ (hr := by conv => lhs; simp [Tm.row, Tm.rows_eq, Cs.rows_eq, h1y, q1, q3, q5, q7])
      by_cases q8 : yk = 1
      · refine AWp.rg [] [] ?_ (hr := by conv => lhs; simp [Tm.row, Tm.rows_eq, Cs.rows_eq, h1y, q1, q3, q5, q7, q8])
        refine AWp.cn ?_
        refine AWp.skip ?_
        refine AWp.rg [] [] ?_ (hr := by conv => lhs; simp [Tm.row, Tm.rows_eq, Cs.rows_eq, h1y, q1, q3, q5, q7, q8])
        refine ⟨⟨i + 1, hi1, by rw [hw, if_neg (by omega), q8]; simp⟩, by simp; omega, ?_⟩
        dsimp only
        exact Le.sub (by simp) (by simp)
      refine AWp.rg [] [] ?_ (hr := by conv => lhs; simp [Tm.row, Tm.rows_eq, Cs.rows_eq, h1y, q1, q3, q5, q7, q8])
      refine AWp.cy ?_
      obtain rfl : R = false := by rw [hR, Tm.isP, hw, if_neg (by omega), decide_eq_false q8]; rfl
      refine AWp.rg [] [] ?_ (hr := by conv => lhs; simp [Tm.row, Tm.rows_eq, Cs.rows_eq, h1y, q1, q3, q5, q7, q8])
      refine AWp.ret ?_
      try dsimp only [thenQ, blockQ]
      apply endQ.ret
      · rfl
      · conv => lhs; simp [resAV, Tryd.results65]
      rfl
    have hi1 : i = txs.length := by have := of_decide_eq_false hc; omega
    subst hi1
    clear hc
    rw [List.drop_length, Tm.isL] at hw
    have hA := hw
    refine AWp.exit ?_
    refine AWp.rg [] [] ?_ (hr := by conv => lhs; simp [Tm.row, Tm.rows_eq, Cs.rows_eq, q1, q3, q5, q7])
    repeat (first | refine AWp.seq ?_ | refine AWp.block ?_)
    refine AWp.loop (σ := fun u : {u : Nat // u ≤ tcs.length ∧ Cs.isL tcs = Cs.isL (tcs.drop u)} => ⟨52, [(41, .d (.sl (tcs.map Cs.row))), (42, .d (.int (tcs.length : Int))), (43, .d (.int (u.1 : Int)))], []⟩)
      (μ := fun u => tcs.length - u.1) ⟨0, ⟨Nat.zero_le _, by simp⟩⟩ (Le.sub (by simp) (by simp)) (fun ⟨i, ⟨hi20, hw2⟩⟩ => ?_)
    dsimp only
    refine AWp.rg [] [] ?_ (hr := by conv => lhs; simp [Tm.row, Tm.rows_eq, Cs.rows_eq, q1, q3, q5, q7])
    repeat (first | refine AWp.seq ?_ | refine AWp.block ?_)
    refine AWp.cond rfl (fun hc => ?_) (fun hc => ?_)
    · have hi1 : i < tcs.length := by have := of_decide_eq_true hc; omega
      clear hc
      have h1d : tcs[i]? = some tcs[i] := List.getElem?_eq_getElem hi1
      have hmd : tcs[i] ∈ tcs := List.getElem_mem hi1
      have hdd : tcs.drop i = tcs[i] :: tcs.drop (i + 1) := List.drop_eq_getElem_cons hi1
      generalize tcs[i] = d at h1d hmd hdd
      rw [hdd, Cs.isL] at hw2
      have hyR := (hcR d hmd).2
      obtain ⟨dt, dws, y⟩ := d
      rw [Cs.isP] at hw2
      have hx := ih y hyR
      generalize y.isP = q at hx hw2
      obtain ⟨dk, dn, da, db, dvs, dxs, dcs⟩ := y
      refine AWp.skip ?_
      refine AWp.rg [] [] ?_ (hr := by conv => lhs; simp [Tm.row, Tm.rows_eq, Cs.rows_eq, h1d, Cs.row, q1, q3, q5, q7])
      cases q with
      | true =>
        refine AWp.rg [] [.p (fun _ => .d (.bool true)) none] ?_ (hr := by conv => lhs; simp [Tm.row, Tm.rows_eq, Cs.rows_eq, h1d, Cs.row, q1, q3, q5, q7])
        refine AWp.cn ?_
        refine AWp.skip ?_
        refine AWp.rg [] [] ?_ (hr := by conv => lhs; simp [Tm.row, Tm.rows_eq, Cs.rows_eq, h1d, Cs.row, q1, q3, q5, q7])
        refine ⟨⟨i + 1, hi1, by rw [hw2]; rfl⟩, by simp; omega, ?_⟩
        dsimp only
        exact Le.sub (by simp) (by simp)
      | false =>
        refine AWp.rg [] [.p (fun _ => .d (.bool false)) none] ?_ (hr := by conv => lhs; simp [Tm.row, Tm.rows_eq, Cs.rows_eq, h1d, Cs.row, q1, q3, q5, q7])
        refine AWp.cy ?_
        obtain rfl : R = false := by rw [hR, Tm.isP, hw2, Bool.false_and, Bool.and_false]
        refine AWp.rg [] [] ?_ (hr := by conv => lhs; simp [Tm.row, Tm.rows_eq, Cs.rows_eq, h1d, Cs.row, q1, q3, q5, q7])
        refine AWp.ret ?_
        try dsimp only [thenQ, blockQ]
        apply endQ.ret
        · rfl
        · conv => lhs; simp [resAV, Tryd.results65]
        rfl
    have hi1 : i = tcs.length := by have := of_decide_eq_false hc; omega
    subst hi1
    clear hc
    rw [List.drop_length, Cs.isL] at hw2
    obtain rfl : R = true := by rw [hR, Tm.isP, hA, hw2]; rfl
    refine AWp.exit ?_
    refine AWp.rg [] [] ?_ (hr := by conv => lhs; simp [Tm.row, Tm.rows_eq, Cs.rows_eq, q1, q3, q5, q7])
    refine AWp.ret ?_
    try dsimp only [thenQ, blockQ]
    apply endQ.ret
    · rfl
    · conv => lhs; simp [resAV, Tryd.results65]
    rfl
  refine AWp.rg [] [] ?_ (hr := by conv => lhs; simp [Tm.row, Tm.rows_eq, Cs.rows_eq, q1, q3, q5, q7])
  refine AWp.cn ?_
  by_cases q9 : tk = 6
  · refine AWp.rg [] [] ?_ (hr := by conv => lhs; simp [Tm.row, Tm.rows_eq, Cs.rows_eq, q1, q3, q5, q7, q9])
    refine AWp.cy ?_
    refine AWp.rg [] [] ?_ (hr := by conv => lhs; simp [Tm.row, Tm.rows_eq, Cs.rows_eq, q1, q3, q5, q7, q9])
    repeat (first | refine AWp.seq ?_ | refine AWp.block ?_)
    refine AWp.loop (σ := fun u : {u : Nat // u ≤ txs.length ∧ Tm.isL tk txs = Tm.isL tk (txs.drop u)} => ⟨52, [(1, .ptr 1 0), (30, .d (.sl (txs.map Tm.row))), (31, .d (.int (txs.length : Int))), (32, .d (.int (u.1 : Int)))], [(1, some (.blk 34 [.d (.int 6), .d (.int tn), .d (.str ta), .d (.str tb), .d (strsD tvs), .d (.sl (txs.map Tm.row)), .d (.sl (tcs.map Cs.row))]))]⟩)
      (μ := fun u => txs.length - u.1) ⟨0, ⟨Nat.zero_le _, by simp⟩⟩ (Le.sub (by simp) (by simp)) (fun ⟨i, ⟨hi14, hw⟩⟩ => ?_)
    dsimp only
    refine AWp.rg [] [] ?_ (hr := by conv => lhs; simp [Tm.row, Tm.rows_eq, Cs.rows_eq, q1, q3, q5, q7, q9])
    repeat (first | refine AWp.seq ?_ | refine AWp.block ?_)
    refine AWp.cond rfl (fun hc => ?_) (fun hc => ?_)
    · have hi1 : i < txs.length := by have := of_decide_eq_true hc; omega
      clear hc
      have h1y : txs[i]? = some txs[i] := List.getElem?_eq_getElem hi1
      have hmy : txs[i] ∈ txs := List.getElem_mem hi1
      have hdy : txs.drop i = txs[i] :: txs.drop (i + 1) := List.drop_eq_getElem_cons hi1
      generalize txs[i] = y at h1y hmy hdy
      rw [hdy, Tm.isL] at hw
      have hx := ih y (hxR y hmy)
      generalize y.isP = q at hx hw
      obtain ⟨yk, yn, ya, yb, yvs, yxs, ycs⟩ := y
      refine AWp.skip ?_
      refine AWp.rg [] [] ?_ (hr := by conv => lhs; simp [Tm.row, Tm.rows_eq, Cs.rows_eq, h1y, q1, q3, q5, q7, q9])
      cases q with
      | true =>
        refine AWp.rg [] [.p (fun _ => .d (.bool true)) none] ?_ (hr := by conv => lhs; simp [Tm.row, Tm.rows_eq, Cs.rows_eq, h1y, q1, q3, q5, q7, q9])
        refine AWp.cn ?_
        refine AWp.skip ?_
        refine AWp.rg [] [] ?_ (hr := by conv => lhs; simp [Tm.row, Tm.rows_eq, Cs.rows_eq, h1y, q1, q3, q5, q7, q9])
        refine ⟨⟨i + 1, hi1, by rw [hw, if_pos q9]; rfl⟩, by simp; omega, ?_⟩
        dsimp only
        exact Le.sub (by simp) (by simp)
      | false =>
        refine AWp.rg [] [.p (fun _ => .d (.bool false)) none] ?_ (hr := by conv => lhs; simp [Tm.row, Tm.rows_eq, Cs.rows_eq, h1y, q1, q3, q5, q7, q9])
        refine AWp.cy ?_
        obtain rfl : R = false := by rw [hR, Tm.isP, hw, if_pos q9]; rfl
        refine AWp.rg [] [] ?_ (hr := by conv => lhs; simp [Tm.row, Tm.rows_eq, Cs.rows_eq, h1y, q1, q3, q5, q7, q9])
        refine AWp.ret ?_
        try dsimp only [thenQ, blockQ]
        apply endQ.ret
        · rfl
        · conv => lhs; simp [resAV, Tryd.results65]
        rfl
    have hi1 : i = txs.length := by have := of_decide_eq_false hc; omega
    subst hi1
    clear hc
    rw [List.drop_length, Tm.isL] at hw
    have hA := hw
    refine AWp.exit ?_
    refine AWp.rg [] [] ?_ (hr := by conv => lhs; simp [Tm.row, Tm.rows_eq, Cs.rows_eq, q1, q3, q5, q7, q9])
    repeat (first | refine AWp.seq ?_ | refine AWp.block ?_)
    refine AWp.loop (σ := fun u : {u : Nat // u ≤ tcs.length ∧ Cs.isL tcs = Cs.isL (tcs.drop u)} => ⟨52, [(41, .d (.sl (tcs.map Cs.row))), (42, .d (.int (tcs.length : Int))), (43, .d (.int (u.1 : Int)))], []⟩)
      (μ := fun u => tcs.length - u.1) ⟨0, ⟨Nat.zero_le _, by simp⟩⟩ (Le.sub (by simp) (by simp)) (fun ⟨i, ⟨hi20, hw2⟩⟩ => ?_)
    dsimp only
    refine AWp.rg [] [] ?_ (hr := by conv => lhs; simp [Tm.row, Tm.rows_eq, Cs.rows_eq, q1, q3, q5, q7, q9])
    repeat (first | refine AWp.seq ?_ | refine AWp.block ?_)
    refine AWp.cond rfl (fun hc => ?_) (fun hc => ?_)
    · have hi1 : i < tcs.length := by have := of_decide_eq_true hc; omega
      clear hc
      have h1d : tcs[i]? = some tcs[i] := List.getElem?_eq_getElem hi1
      have hmd : tcs[i] ∈ tcs := List.getElem_mem hi1
      have hdd : tcs.drop i = tcs[i] :: tcs.drop (i + 1) := List.drop_eq_getElem_cons hi1
      generalize tcs[i] = d at h1d hmd hdd
      rw [hdd, Cs.isL] at hw2
      have hyR := (hcR d hmd).2
      obtain ⟨dt, dws, y⟩ := d
      rw [Cs.isP] at hw2
      have hx := ih y hyR
      generalize y.isP = q at hx hw2
      obtain ⟨dk, dn, da, db, dvs, dxs, dcs⟩ := y
      refine AWp.skip ?_
      refine AWp.rg [] [] ?_ (hr := by conv => lhs; simp [Tm.row, Tm.rows_eq, Cs.rows_eq, h1d, Cs.row, q1, q3, q5, q7, q9])
      cases q with
      | true =>
        refine AWp.rg [] [.p (fun _ => .d (.bool true)) none] ?_ (hr := by conv => lhs; simp [Tm.row, Tm.rows_eq, Cs.rows_eq, h1d, Cs.row, q1, q3, q5, q7, q9])
        refine AWp.cn ?_
        refine AWp.skip ?_
        refine AWp.rg [] [] ?_ (hr := by conv => lhs; simp [Tm.row, Tm.rows_eq, Cs.rows_eq, h1d, Cs.row, q1, q3, q5, q7, q9])
        refine ⟨⟨i + 1, hi1, by rw [hw2]; rfl⟩, by simp; omega, ?_⟩
        dsimp only
        exact Le.sub (by simp) (by simp)
      | false =>
        refine AWp.rg [] [.p (fun _ => .d (.bool false)) none] ?_ (hr := by conv => lhs; simp [Tm.row, Tm.rows_eq, Cs.rows_eq, h1d, Cs.row, q1, q3, q5, q7, q9])
        refine AWp.cy ?_
        obtain rfl : R = false := by rw [hR, Tm.isP, hw2, Bool.false_and, Bool.and_false]
        refine AWp.rg [] [] ?_ (hr := by conv => lhs; simp [Tm.row, Tm.rows_eq, Cs.rows_eq, h1d, Cs.row, q1, q3, q5, q7, q9])
        refine AWp.ret ?_
        try dsimp only [thenQ, blockQ]
        apply endQ.ret
        · rfl
        · conv => lhs; simp [resAV, Tryd.results65]
        rfl
    have hi1 : i = tcs.length := by have := of_decide_eq_false hc; omega
    subst hi1
    clear hc
    rw [List.drop_length, Cs.isL] at hw2
    obtain rfl : R = true := by rw [hR, Tm.isP, hA, hw2]; rfl
    refine AWp.exit ?_
    refine AWp.rg [] [] ?_ (hr := by conv => lhs; simp [Tm.row, Tm.rows_eq, Cs.rows_eq, q1, q3, q5, q7, q9])
    refine AWp.ret ?_
    try dsimp only [thenQ, blockQ]
    apply endQ.ret
    · rfl
    · conv => lhs; simp [resAV, Tryd.results65]
    rfl
  refine AWp.rg [] [] ?_ (hr := by conv => lhs; simp [Tm.row, Tm.rows_eq, Cs.rows_eq, q1, q3, q5, q7, q9])
  refine AWp.cn ?_
  refine AWp.skip ?_
  have hA : Tm.isL tk txs = true := by
    have h12 : tk = 1 ∨ tk = 2 := by omega
    have : txs = [] := by
      unfold manyB at hmany
      rcases h12 with rfl | rfl <;> simp at hmany <;> exact hmany.1
    rw [this, Tm.isL]
  refine AWp.rg [] [] ?_ (hr := by conv => lhs; simp [Tm.row, Tm.rows_eq, Cs.rows_eq, q1, q3, q5, q7, q9])
  repeat (first | refine AWp.seq ?_ | refine AWp.block ?_)
  refine AWp.loop (σ := fun u : {u : Nat // u ≤ tcs.length ∧ Cs.isL tcs = Cs.isL (tcs.drop u)} => ⟨52, [(41, .d (.sl (tcs.map Cs.row))), (42, .d (.int (tcs.length : Int))), (43, .d (.int (u.1 : Int)))], []⟩)
    (μ := fun u => tcs.length - u.1) ⟨0, ⟨Nat.zero_le _, by simp⟩⟩ (Le.sub (by simp) (by simp)) (fun ⟨i, ⟨hi20, hw2⟩⟩ => ?_)
  dsimp only
  refine AWp.rg [] [] ?_ (hr := by conv => lhs; simp [Tm.row, Tm.rows_eq, Cs.rows_eq, q1, q3, q5, q7, q9])
  repeat (first | refine AWp.seq ?_ | refine AWp.block ?_)
  refine AWp.cond rfl (fun hc => ?_) (fun hc => ?_)
  · have hi1 : i < tcs.length := by have := of_decide_eq_true hc; omega
    clear hc
    have h1d : tcs[i]? = some tcs[i] := List.getElem?_eq_getElem hi1
    have hmd : tcs[i] ∈ tcs := List.getElem_mem hi1
    have hdd : tcs.drop i = tcs[i] :: tcs.drop (i + 1) := List.drop_eq_getElem_cons hi1
    generalize tcs[i] = d at h1d hmd hdd
    rw [hdd, Cs.isL] at hw2
    have hyR := (hcR d hmd).2
    obtain ⟨dt, dws, y⟩ := d
    rw [Cs.isP] at hw2
    have hx := ih y hyR
    generalize y.isP = q at hx hw2
    obtain ⟨dk, dn, da, db, dvs, dxs, dcs⟩ := y
    refine AWp.skip ?_
    refine AWp.rg [] [] ?_ (hr := by conv => lhs; simp [Tm.row, Tm.rows_eq, Cs.rows_eq, h1d, Cs.row, q1, q3, q5, q7, q9])
    cases q with
    | true =>
      refine AWp.rg [] [.p (fun _ => .d (.bool true)) none] ?_ (hr := by conv => lhs; simp [Tm.row, Tm.rows_eq, Cs.rows_eq, h1d, Cs.row, q1, q3, q5, q7, q9])
      refine AWp.cn ?_
      refine AWp.skip ?_
      refine AWp.rg [] [] ?_ (hr := by conv => lhs; simp [Tm.row, Tm.rows_eq, Cs.rows_eq, h1d, Cs.row, q1, q3, q5, q7, q9])
      refine ⟨⟨i + 1, hi1, by rw [hw2]; rfl⟩, by simp; omega, ?_⟩
      dsimp only
      exact Le.sub (by simp) (by simp)
    | false =>
      refine AWp.rg [] [.p (fun _ => .d (.bool false)) none] ?_ (hr := by conv => lhs; simp [Tm.row, Tm.rows_eq, Cs.rows_eq, h1d, Cs.row, q1, q3, q5, q7, q9])
      refine AWp.cy ?_
      obtain rfl : R = false := by rw [hR, Tm.isP, hw2, Bool.false_and, Bool.and_false]
      refine AWp.rg [] [] ?_ (hr := by conv => lhs; simp [Tm.row, Tm.rows_eq, Cs.rows_eq, h1d, Cs.row, q1, q3, q5, q7, q9])
      refine AWp.ret ?_
      try dsimp only [thenQ, blockQ]
      apply endQ.ret
      · rfl
      · conv => lhs; simp [resAV, Tryd.results65]
      rfl
  have hi1 : i = tcs.length := by have := of_decide_eq_false hc; omega
  subst hi1
  clear hc
  rw [List.drop_length, Cs.isL] at hw2
  obtain rfl : R = true := by rw [hR, Tm.isP, hA, hw2]; rfl
  refine AWp.exit ?_
  refine AWp.rg [] [] ?_ (hr := by conv => lhs; simp [Tm.row, Tm.rows_eq, Cs.rows_eq, q1, q3, q5, q7, q9])
  refine AWp.ret ?_
  try dsimp only [thenQ, blockQ]
  apply endQ.ret
  · rfl
  · conv => lhs; simp [resAV, Tryd.results65]
  rfl
theorem isP_all : ∀ N, IsN N
  | 0 => fun _ h => h.elim
  | N + 1 => isP_step N (isP_all N)

@[simp] theorem le_maxLen18y : 18 ≤ maxLen := by decide
@[simp] theorem le_maxLen24y : 24 ≤ maxLen := by decide
@[simp] theorem le_maxLen52y : 52 ≤ maxLen := by decide
def txD : ByteArray := ⟨#[40, 102, 110, 32, 102, 32, 40, 120, 41, 32, 40, 43, 32, 40, 42, 32, 120, 32, 50, 41, 32, 120, 41, 41]⟩
def fD : Fn := fnHq (parseP false txD).1
theorem fD_eq : (parseP false txD).1 = [fD] := by kernel_rfl
theorem fD_pt : fD.body.Ok ∧ fD.body.Rt 25 ∧ fD.params.length ≤ 6 := one_pt fD_eq (fnsOk_of (by kernel_rfl)) (by kernel_rfl)
def txE5 : ByteArray := ⟨#[40, 102, 110, 32, 102, 32, 40, 120, 41, 32, 40, 43, 32, 120, 32, 49, 41, 41]⟩
def fE : Fn := fnHq (parseP false txE5).1
theorem fE_eq : (parseP false txE5).1 = [fE] := by kernel_rfl
theorem fE_pt : fE.body.Ok ∧ fE.body.Rt 25 ∧ fE.params.length ≤ 6 := one_pt fE_eq (fnsOk_of (by kernel_rfl)) (by kernel_rfl)
theorem fD_pl : fD.pl.body.Ok ∧ fD.pl.body.Rt 25 ∧ fD.pl.params.length ≤ 6 := one_pt (l := [fD.pl]) rfl (fnsOk_of (by kernel_rfl)) (by kernel_rfl)
theorem fD_is : fD.pl.body.isP = true := by kernel_rfl
theorem fE_is : fE.body.isP = false := by kernel_rfl
theorem fD_ok : fD.pl.okB = true := by kernel_rfl
theorem fD_wt : Nat.ble (Fn.wtL [fD.pl]) 1000000 = true := by kernel_rfl
theorem fD_sh : Fn.shL [fD.pl] ⟨#[]⟩ = ⟨#[40, 102, 110, 32, 102, 32, 40, 118, 49, 41, 32, 40, 108, 101, 116, 32, 119, 49, 32, 40, 108, 101, 116, 32, 119, 50, 32, 50, 32, 40, 42, 32, 118, 49, 32, 119, 50, 41, 41, 32, 40, 43, 32, 119, 49, 32, 118, 49, 41, 41, 41, 10]⟩ := by kernel_rfl
set_option maxRecDepth 20000 in
set_option maxHeartbeats 16000000 in
theorem sp_fn5 (s : ByteArray) (f : Fn) (h : (parseP false s).1 = [f]) : PSpec Tryd.prog 64 [.d (.str s)] (fun _ => fnAV f) none := by
  have hP := sp_Parse s
  generalize parseP false s = o at hP h
  obtain ⟨L, E⟩ := o
  dsimp only at hP h
  subst h
  obtain ⟨fg, fps, ⟨fk, fn, fa, fb, fvs, fxs, fcs⟩⟩ := f
  simp only [fnsAV, List.map_cons, List.map_nil, Fn.row, Tm.row, Tm.rows_eq, Cs.rows_eq, strR] at hP
  refine PSpec.of Tryd.func64 rfl rfl rfl (Nat.le_of_ble_eq_true rfl) ?_
  show AWp _ _ (endQ _ Tryd.f64 _ _ _) (startAS 13 _)
  refine AWp.rg [] [] ?_ (hr := by conv => lhs; simp [Fn.row, Tm.row, Tm.rows_eq, Cs.rows_eq])
  refine AWp.rg [] [.p (fun _ => .tuple [.d (.sl [[.str fg, strsD fps, .int fk, .int fn, .str fa, .str fb, strsD fvs, .sl (fxs.map Tm.row), .sl (fcs.map Cs.row)]]), .d (.int E)]) none] ?_ (hr := by conv => lhs; simp [Fn.row, Tm.row, Tm.rows_eq, Cs.rows_eq])
  refine AWp.rg [] [] ?_ (hr := by conv => lhs; simp [Fn.row, Tm.row, Tm.rows_eq, Cs.rows_eq])
  refine AWp.ret ?_
  try dsimp only [thenQ, blockQ]
  apply endQ.ret
  · rfl
  · conv => lhs; simp [resAV, Tryd.results64]
  first | rfl | simp [resVal]
set_option maxRecDepth 20000 in
set_option maxHeartbeats 16000000 in
theorem sp_alive5 : PSpec Tryd.prog 23 [] (fun _ => .d (.bool true)) none := by
  have ha := sp_fn5 txD fD fD_eq
  have hb := sp_fn5 txE5 fE fE_eq
  unfold txD at ha
  unfold txE5 at hb
  have pA := fD_pt
  have pB := fE_pt
  have pG := fD_pl
  have hi1 := fD_is
  have hi2 := fE_is
  have hok := fD_ok
  have hwt := Nat.le_of_ble_eq_true fD_wt
  have hsh := fD_sh
  generalize fD = a at *
  generalize fE = b at *
  have h1 := sp_PlFn a pA.1 pA.2.1 pA.2.2
  have hpr := sp_Print [a.pl] (fun f hf => by rw [List.mem_singleton.1 hf]; exact (Fn.okB_ok hok).2) (by omega)
  rw [hsh] at hpr
  have hl1 := isP_all 25 a.pl.body pG.2.1
  rw [hi1] at hl1
  have hl2 := isP_all 25 b.body pB.2.1
  rw [hi2] at hl2
  have hall := sp_PlAll [a.pl] (by simp) (fun f hf => by rw [List.mem_singleton.1 hf]; exact pG)
  rw [List.map_cons, List.map_nil] at hall
  clear pA pB pG hi1 hi2 hok hwt hsh
  generalize a.pl.pl = k at hall
  generalize a.pl = g at *
  obtain ⟨ag, aps, ⟨ak, an, aa, ab, avs, axs, acs⟩⟩ := a
  obtain ⟨bg, bps, ⟨bk, bn, ba, bb, bvs, bxs, bcs⟩⟩ := b
  obtain ⟨gg, gps, ⟨gk, gn, ga, gb, gvs, gxs, gcs⟩⟩ := g
  obtain ⟨kg, kps, ⟨kk, kn, ka, kb, kvs, kxs, kcs⟩⟩ := k
  simp only [fnsAV, List.map_cons, List.map_nil, Fn.row, Tm.row, Tm.rows_eq, Cs.rows_eq, strR] at hpr hall
  try dsimp only [fnAV, tmAV] at ha
  try dsimp only [fnAV, tmAV] at hb
  try dsimp only [fnAV, tmAV] at h1
  try dsimp only [fnAV, tmAV] at hpr
  try dsimp only [fnAV, tmAV] at hl1
  try dsimp only [fnAV, tmAV] at hl2
  try dsimp only [fnAV, tmAV] at hall
  refine PSpec.of Tryd.func23 rfl rfl rfl (Nat.le_of_ble_eq_true rfl) ?_
  show AWp _ _ (endQ _ Tryd.f23 _ _ _) (startAS 26 _)
  refine AWp.rg [] [] ?_ (hr := by conv => lhs; simp [Fn.row, Tm.row, Tm.rows_eq, Cs.rows_eq])
  refine AWp.rg [] [.p (fun _ => .agg [.d (.str ag), .d (strsD aps), .d (.int ak), .d (.int an), .d (.str aa), .d (.str ab), .d (strsD avs), .d (.sl (axs.map Tm.row)), .d (.sl (acs.map Cs.row))]) none, .p (fun _ => .agg [.d (.str gg), .d (strsD gps), .d (.int gk), .d (.int gn), .d (.str ga), .d (.str gb), .d (strsD gvs), .d (.sl (gxs.map Tm.row)), .d (.sl (gcs.map Cs.row))]) none] ?_ (hr := by conv => lhs; simp [Fn.row, Tm.row, Tm.rows_eq, Cs.rows_eq])
  refine AWp.rg [1, 17] [.p (fun _ => .d (.str (⟨#[40, 102, 110, 32, 102, 32, 40, 118, 49, 41, 32, 40, 108, 101, 116, 32, 119, 49, 32, 40, 108, 101, 116, 32, 119, 50, 32, 50, 32, 40, 42, 32, 118, 49, 32, 119, 50, 41, 41, 32, 40, 43, 32, 119, 49, 32, 118, 49, 41, 41, 41, 10]⟩))) none, .p (fun _ => .d (.bool true)) none, .p (fun _ => .agg [.d (.str bg), .d (strsD bps), .d (.int bk), .d (.int bn), .d (.str ba), .d (.str bb), .d (strsD bvs), .d (.sl (bxs.map Tm.row)), .d (.sl (bcs.map Cs.row))]) none, .p (fun _ => .d (.bool false)) none, .p (fun _ => .d (.sl [[.str kg, strsD kps, .int kk, .int kn, .str ka, .str kb, strsD kvs, .sl (kxs.map Tm.row), .sl (kcs.map Cs.row)]])) none] ?_ (hr := by conv => lhs; simp [Fn.row, Tm.row, Tm.rows_eq, Cs.rows_eq])
  refine AWp.ret ?_
  try dsimp only [thenQ, blockQ]
  apply endQ.ret
  · rfl
  · conv => lhs; simp [resAV, Tryd.results23]
  rfl
end Go.Proofs.YtapiiklnnkkdlaaDoor

namespace Go.Proofs.YtapiiklnnkkdlaaDoor
open Go.RowKit
attribute [local simp] runD mkRc ldOf stOf stOk ldArg noAny dstOk guardOk opEff opEff0 effOp pureOp callOp zEff evA constAV scalAV Value.oneCell' frGet memGet startAS frOf isGoCall idIn AS.after nextR opnIds objIds AV.ids idsL AObj.ids frNo memNo opnAny isAny mkVal rdCells wrCells fldAddr idxAddr srcRows litRows toD1 toDs setAt sliceAV optI partAV bldAV fillAV binAV binI AV.cells callEff calleeOf frKill memKill AV.kill AObj.kill AV.has AV.hasL Op.operands Call.operands keepF keepM viewIds cChk renOf moGet moWs moQ cEff moLike moHave AV.ren renL AObj.ren AObj.like kept startC moMem AV.frz frz1 frzL frSub memSub frzs AS.frz frFrz memFrz AObj.frz takeMap takeLen bleF Nat.ble_eq memAny objAny mapOp D.keyOk rowAV valRow extOp wrapOp phO frLow memLow memLow1 objLow memEmpty Low LowL
set_option linter.unusedVariables false
set_option linter.unusedSimpArgs false

end Go.Proofs.YtapiiklnnkkdlaaDoor

namespace Go.Proofs.YtapiiklnnkkdlaaDoor
open Go.RowKit
attribute [local simp] runD mkRc ldOf stOf stOk ldArg noAny dstOk guardOk opEff opEff0 effOp pureOp callOp zEff evA constAV scalAV Value.oneCell' frGet memGet startAS frOf isGoCall idIn AS.after nextR opnIds objIds AV.ids idsL AObj.ids frNo memNo opnAny isAny mkVal rdCells wrCells fldAddr idxAddr srcRows litRows toD1 toDs setAt sliceAV optI partAV bldAV fillAV binAV binI AV.cells callEff calleeOf frKill memKill AV.kill AObj.kill AV.has AV.hasL Op.operands Call.operands keepF keepM viewIds cChk renOf moGet moWs moQ cEff moLike moHave AV.ren renL AObj.ren AObj.like kept startC moMem AV.frz frz1 frzL frSub memSub frzs AS.frz frFrz memFrz AObj.frz takeMap takeLen bleF Nat.ble_eq memAny objAny mapOp D.keyOk rowAV valRow extOp wrapOp phO
set_option linter.unusedVariables false
set_option linter.unusedSimpArgs false
theorem pl_all_pt {l : List Fn} (hl : FnsOk l) (h : checkE l = 0) : ∀ f ∈ l.map Fn.pl, f.Pt := fun f hf => by
  obtain ⟨g, hg, rfl⟩ := List.mem_map.1 hf
  obtain ⟨k1, k2, k3⟩ := right_all hl h g hg
  have := ((check_zero h).2.2.2 g hg).sz
  exact Fn.pl_pt g k1 k2 k3 (by omega)
end Go.Proofs.YtapiiklnnkkdlaaDoor
