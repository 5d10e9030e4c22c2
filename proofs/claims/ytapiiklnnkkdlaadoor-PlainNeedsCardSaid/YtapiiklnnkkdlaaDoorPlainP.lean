import Derived.Test.YtapiiklnnkkdlaaDoorScopeC
import Derived.Test.YtapiiklnnkkdlaaDoorNameD
import Derived.RangeFuncNested
import Derived.RangeFuncWrites
import Derived.RangeFuncBound
import Derived.RangeFuncCalls
import Derived.RangeFuncLeaves
import Derived.RangeFuncBox
import Derived.Shelf.Abstract
import Derived.WalkKit
import Derived.OwnWalkIn
import Derived.TacticsInMore
import Derived.LoopNIn
import Derived.LoopIn
import Derived.Test.YtapiiklnnkkdlaaDoorTermB
import Derived.Test.YtapiiklnnkkdlaaDoorCheckP
import Derived.Test.YtapiiklnnkkdlaaDoorFreeC
/- names.Alike. Printed by a small program. -/
namespace Go.Proofs.YtapiiklnnkkdlaaDoor
open Go.RowKit
attribute [local simp] runD mkRc ldOf stOf stOk ldArg noAny dstOk guardOk opEff opEff0 effOp pureOp callOp zEff evA constAV scalAV Value.oneCell' frGet memGet startAS frOf isGoCall idIn AS.after nextR opnIds objIds AV.ids idsL AObj.ids frNo memNo opnAny isAny mkVal rdCells wrCells fldAddr idxAddr srcRows litRows toD1 toDs setAt sliceAV optI partAV bldAV fillAV binAV binI AV.cells callEff calleeOf frKill memKill AV.kill AObj.kill AV.has AV.hasL Op.operands Call.operands keepF keepM viewIds cChk renOf moGet moWs moQ cEff moLike moHave AV.ren renL AObj.ren AObj.like kept startC moMem AV.frz frz1 frzL frSub memSub frzs AS.frz frFrz memFrz AObj.frz takeMap takeLen bleF Nat.ble_eq memAny objAny mapOp D.keyOk rowAV valRow extOp wrapOp phO
set_option linter.unusedVariables false
set_option linter.unusedSimpArgs false
set_option maxRecDepth 20000 in
set_option maxHeartbeats 16000000 in
theorem sp_Alike (f g : Fn) (hf : f.body.Ok ∧ f.body.Rt 25 ∧ f.params.length ≤ 6) (hg : g.body.Ok ∧ g.body.Rt 25 ∧ g.params.length ≤ 6) (hO : f.rn.body.Ok) : PSpec Tryd.prog 62 [fnAV f, fnAV g] (fun _ => .d (.bool (eqB f.rn g.rn))) none := by
  have hx := sp_NFn f hf.1 hf.2.1 hf.2.2
  have hy := sp_NFn g hg.1 hg.2.1 hg.2.2
  have hpl : f.rn.params.length ≤ 6 := by unfold Fn.rn; dsimp only; rw [freshL_len]; exact hf.2.2
  generalize hp : f.rn = p at hx hO hpl ⊢
  generalize hq : g.rn = q at hy ⊢
  obtain ⟨B, hB⟩ : ∃ B, B = eqB p q := ⟨_, rfl⟩
  rw [← hB]
  obtain ⟨pg, pps, py⟩ := p
  obtain ⟨qg, qps, qy⟩ := q
  dsimp only at hO hpl
  have he := sp_Equal pps qps (by omega)
  have hs := sp_scSame py qy hO
  obtain ⟨E1, hE1⟩ : ∃ E, E = eqB pps qps := ⟨_, rfl⟩
  obtain ⟨E2, hE2⟩ : ∃ E, E = eqB py qy := ⟨_, rfl⟩
  rw [← hE1] at he
  rw [← hE2] at hs
  obtain ⟨ag, aps, ⟨ak, an, aa, ab, avs, axs, acs⟩⟩ := f
  obtain ⟨bg, bps, ⟨bk, bn, ba, bb, bvs, bxs, bcs⟩⟩ := g
  obtain ⟨pk, pn, pa, pb, pvs, pxs, pcs⟩ := py
  obtain ⟨qk, qn, qa, qb, qvs, qxs, qcs⟩ := qy
  dsimp only [fnAV] at hx hy
  refine PSpec.of Tryd.func62 rfl rfl rfl (Nat.le_of_ble_eq_true rfl) ?_
  show AWp _ _ (endQ _ Tryd.f62 _ _ _) (startAS 30 _)
  refine AWp.rg [] [] ?_ (hr := by conv => lhs; simp [fnAV, Tm.row, Tm.rows_eq, Cs.rows_eq])
  refine AWp.dw [] [.p (fun _ => .agg [.d (.str pg), .d (strsD pps), .d (.int pk), .d (.int pn), .d (.str pa), .d (.str pb), .d (strsD pvs), .d (.sl (pxs.map Tm.row)), .d (.sl (pcs.map Cs.row))]) none, .p (fun _ => .agg [.d (.str qg), .d (strsD qps), .d (.int qk), .d (.int qn), .d (.str qa), .d (.str qb), .d (strsD qvs), .d (.sl (qxs.map Tm.row)), .d (.sl (qcs.map Cs.row))]) none] mixed ?_ (hr := by conv => lhs; simp [fnAV, Tm.row, Tm.rows_eq, Cs.rows_eq])
  by_cases q1 : pg = qg
  · cases E1 with
    | true =>
      refine AWp.rg [] [.p (fun _ => .d (.bool true)) none, .p (fun _ => .d (.bool E2)) none] ?_ (hr := by conv => lhs; simp [fnAV, Tm.row, Tm.rows_eq, Cs.rows_eq, q1])
      refine AWp.ret ?_
      have h1 := eqB_iff.1 hE1.symm
      obtain rfl : B = E2 := by
        rw [hB, hE2, Bool.eq_iff_iff, eqB_iff, eqB_iff, q1, h1]
        constructor
        · intro h; injection h
        · intro h; rw [h]
      try dsimp only [thenQ, blockQ]
      apply endQ.ret
      · rfl
      · conv => lhs; simp [resAV, Tryd.results62]
      rfl
    | false =>
      refine AWp.rg [] [.p (fun _ => .d (.bool false)) none] ?_ (hr := by conv => lhs; simp [fnAV, Tm.row, Tm.rows_eq, Cs.rows_eq, q1])
      refine AWp.ret ?_
      obtain rfl : B = false := by
        rw [hB]
        refine eqB_ne fun h => ?_
        have h2 : pps = qps := by injection h
        rw [eqB_iff.2 h2] at hE1
        cases hE1
      try dsimp only [thenQ, blockQ]
      apply endQ.ret
      · rfl
      · conv => lhs; simp [resAV, Tryd.results62]
      rfl
  refine AWp.rg [] [] ?_ (hr := by conv => lhs; simp [fnAV, Tm.row, Tm.rows_eq, Cs.rows_eq, q1])
  refine AWp.ret ?_
  obtain rfl : B = false := by rw [hB]; exact eqB_ne fun h => q1 (by injection h)
  try dsimp only [thenQ, blockQ]
  apply endQ.ret
  · rfl
  · conv => lhs; simp [resAV, Tryd.results62]
  rfl
end Go.Proofs.YtapiiklnnkkdlaaDoor

namespace Go.Proofs.YtapiiklnnkkdlaaDoor
open Go.RowKit
set_option linter.unusedVariables false
set_option linter.unusedSimpArgs false
theorem vNm_le (c : Int) : (vNm (wr c)).size ≤ 140737488355328 := by
  have := vsz (wr c) (wr_in c)
  omega
theorem nowP_le : ∀ (ps : Ps) (s : ByteArray), s.size ≤ 140737488355328 → (∀ p ∈ ps, p.2.size ≤ 140737488355328) → (nowP ps s).size ≤ 140737488355328 := by
  intro ps s hs hp
  unfold nowP
  have : ∀ (ps : Ps) (o : ByteArray), o.size ≤ 140737488355328 → (∀ p ∈ ps, p.2.size ≤ 140737488355328) → (ps.foldl (fun o p => if p.1 = s then p.2 else o) o).size ≤ 140737488355328 := by
    intro ps
    induction ps with
    | nil => intro o ho _; exact ho
    | cons p r ih =>
      intro o ho h
      simp only [List.foldl_cons]
      refine ih _ ?_ fun q hq => h q (List.mem_cons_of_mem _ hq)
      split
      · exact h p (List.mem_cons_self ..)
      · exact ho
  exact this ps s hs hp
theorem freshL_le : ∀ (l : List ByteArray) (c : Int), ∀ s ∈ freshL l c, s.size ≤ 140737488355328
  | [], _, s, h => by cases h
  | _ :: r, c, s, h => by
    rw [freshL] at h
    rcases List.mem_cons.1 h with rfl | h
    · exact vNm_le _
    · exact freshL_le r _ s h
theorem rn_ok : ∀ (d : Nat) (t : Tm) (ps : Ps) (c : Int), t.Rt d → t.Ok → (∀ p ∈ ps, p.2.size ≤ 140737488355328) → (t.rn ps c).1.Ok := by
  intro d
  induction d with
  | zero => intro t _ _ h; exact h.elim
  | succ d ih =>
  intro t ps c hR hO hps
  obtain ⟨k, n, a, b, vs, xs, cs⟩ := t
  obtain ⟨_, _, _, hx, hc⟩ := hR
  obtain ⟨⟨o1, o2, o3⟩, ⟨o4, o5, o6⟩, o7, o8⟩ := hO
  rw [Tm.Oks_iff] at o7
  rw [Cs.Oks_iff] at o8
  have hL : ∀ (ys : List Tm) (i : Nat) (nm : ByteArray) (c : Int), (∀ y ∈ ys, y ∈ xs) → nm.size ≤ 140737488355328 → Tm.Oks (Tm.rns k a ps i ys nm c).1 ∧ (Tm.rns k a ps i ys nm c).2.1.size ≤ 140737488355328 ∧ (Tm.rns k a ps i ys nm c).1.length = ys.length := by
    intro ys
    induction ys with
    | nil => intro i nm c _ h; exact ⟨trivial, h, rfl⟩
    | cons y r ih2 =>
      intro i nm c hm hn
      have hy := hm y (List.mem_cons_self ..)
      rw [Tm.rns]
      split
      · have h1 := ih y (ps ++ [(a, vNm (wr (c + 1)))]) (wr (c + 1)) (hx y hy) (o7 y hy) (fun p hp => (List.mem_append.1 hp).elim (hps p) fun hp => by rw [List.mem_singleton.1 hp]; exact vNm_le _)
        obtain ⟨h2, h3, h4⟩ := ih2 (i + 1) (vNm (wr (c + 1))) (y.rn (ps ++ [(a, vNm (wr (c + 1)))]) (wr (c + 1))).2 (fun z hz => hm z (List.mem_cons_of_mem _ hz)) (vNm_le _)
        exact ⟨⟨h1, h2⟩, h3, by simp [h4]⟩
      · have h1 := ih y ps c (hx y hy) (o7 y hy) hps
        obtain ⟨h2, h3, h4⟩ := ih2 (i + 1) nm (y.rn ps c).2 (fun z hz => hm z (List.mem_cons_of_mem _ hz)) hn
        exact ⟨⟨h1, h2⟩, h3, by simp [h4]⟩
  have hC : ∀ (ys : List Cs) (c : Int), (∀ y ∈ ys, y ∈ cs) → Cs.Oks (Cs.rnL ys ps c).1 ∧ (Cs.rnL ys ps c).1.length = ys.length := by
    intro ys
    induction ys with
    | nil => intro c _; exact ⟨trivial, rfl⟩
    | cons y r ih2 =>
      intro c hm
      have hy := hm y (List.mem_cons_self ..)
      obtain ⟨t, ws, y⟩ := y
      obtain ⟨hw, hyR⟩ := hc _ hy
      obtain ⟨p1, p2, p3⟩ := o8 _ hy
      rw [Cs.rnL, Cs.rn]
      have h1 := ih y (ps ++ ws.zip (freshL ws c)) (freshC ws c) hyR p3 (fun p hp => (List.mem_append.1 hp).elim (hps p) fun hp => freshL_le ws c _ (List.of_mem_zip hp).2)
      obtain ⟨h2, h4⟩ := ih2 (y.rn (ps ++ ws.zip (freshL ws c)) (freshC ws c)).2 fun z hz => hm z (List.mem_cons_of_mem _ hz)
      exact ⟨⟨⟨freshL_le ws c, by rw [freshL_len]; exact p2, h1⟩, h2⟩, by simp [h4]⟩
  rw [Tm.rn]
  split
  · exact ⟨⟨nowP_le ps a o1 hps, o2, o3⟩, ⟨o4, by simp, by simp⟩, trivial, trivial⟩
  · obtain ⟨h1, h2, h3⟩ := hL xs 0 a c (fun y hy => hy) o1
    obtain ⟨h4, h5⟩ := hC cs (Tm.rns k a ps 0 xs a c).2.2 fun y hy => hy
    exact ⟨⟨h2, o2, o3⟩, ⟨o4, by rw [h3]; exact o5, by rw [h5]; exact o6⟩, h1, h4⟩
theorem Fn.rn_ok (f : Fn) (hb : f.body.Ok) (hr : f.body.Rt 25) : f.rn.body.Ok :=
  Go.Proofs.YtapiiklnnkkdlaaDoor.rn_ok 25 f.body _ _ hr hb fun p hp => freshL_le _ _ _ (List.of_mem_zip hp).2
theorem right_all {l : List Fn} (hl : FnsOk l) (h : checkE l = 0) : ∀ f ∈ l, f.body.Ok ∧ f.body.Rt 25 ∧ f.params.length ≤ 6 := fun f hf => by
  have hr := (check_zero h).2.2.2 f hf
  exact ⟨(hl.all f hf).body, wrong_rt _ 25 _ _ 0 (by omega) hr.wrong, hr.params⟩

def IdP (ps : Ps) : Prop := ∀ p ∈ ps, p.1 = p.2
theorem nowP_id {ps : Ps} (h : IdP ps) (s : ByteArray) : nowP ps s = s := by
  unfold nowP
  induction ps with
  | nil => rfl
  | cons p r ih =>
    have h1 := h p (List.mem_cons_self ..)
    simp only [List.foldl_cons]
    have h2 : (if p.1 = s then p.2 else s) = s := by
      split
      · rename_i e; rw [← h1, e]
      · rfl
    rw [h2]
    exact ih fun q hq => h q (List.mem_cons_of_mem _ hq)
theorem IdP.append {ps qs : Ps} (h : IdP ps) (h2 : IdP qs) : IdP (ps ++ qs) := fun p hp => (List.mem_append.1 hp).elim (h p) (h2 p)
theorem IdP.zip (l : List ByteArray) : IdP (l.zip l) := by
  induction l with
  | nil => intro p hp; cases hp
  | cons x r ih =>
    intro p hp
    rw [List.zip_cons_cons] at hp
    rcases List.mem_cons.1 hp with rfl | hp
    · rfl
    · exact ih p hp
theorem freshL_twice : ∀ (l : List ByteArray) (c e : Int), freshL (freshL l e) c = freshL l c
  | [], _, _ => rfl
  | _ :: r, c, e => by simp only [freshL, freshL_twice r]
theorem freshC_twice : ∀ (l : List ByteArray) (c e : Int), freshC (freshL l e) c = freshC l c
  | [], _, _ => rfl
  | _ :: r, c, e => by simp only [freshL, freshC, freshC_twice r]
theorem rt_let {d : Nat} {k n : Int} {a b : ByteArray} {vs : List ByteArray} {xs : List Tm} {cs : List Cs} (h : (Tm.mk k n a b vs xs cs).Rt (d + 1)) (hk : k = 6) : ∃ x y, xs = [x, y] ∧ cs = [] := by
  obtain ⟨_, hm, _⟩ := h
  subst hk
  unfold manyB at hm
  simp at hm
  obtain ⟨h2, rfl⟩ := hm
  rcases xs with _ | ⟨x, _ | ⟨y, _ | ⟨z, l⟩⟩⟩
  · cases h2
  · cases h2
  · exact ⟨x, y, rfl, rfl⟩
  · simp at h2
theorem rns_no {k : Int} (hk : k ≠ 6) (a : ByteArray) (ps : Ps) : ∀ (l : List Tm) (i : Nat) (nm : ByteArray) (c : Int), (Tm.rns k a ps i l nm c).2.1 = nm
  | [], _, _, _ => rfl
  | x :: r, i, nm, c => by
    rw [Tm.rns, if_neg fun h => hk h.1]
    exact rns_no hk a ps r _ _ _
theorem rn_rn : ∀ (d : Nat) (t : Tm) (ps qs : Ps) (c : Int), t.Rt d → IdP qs → (t.rn ps c).1.rn qs c = ((t.rn ps c).1, (t.rn ps c).2) := by
  intro d
  induction d with
  | zero => intro t _ _ _ h; exact h.elim
  | succ d ih =>
  intro t ps qs c hR hq
  obtain ⟨k, n, a, b, vs, xs, cs⟩ := t
  have hR' := hR
  obtain ⟨_, _, _, hx, hc⟩ := hR'
  rw [Tm.rn]
  by_cases hk1 : k = 1
  · rw [if_pos hk1]
    dsimp only
    rw [Tm.rn, if_pos hk1, nowP_id hq]
  rw [if_neg hk1]
  dsimp only
  rw [Tm.rn, if_neg hk1]
  by_cases hk6 : k = 6
  · obtain ⟨x, y, rfl, rfl⟩ := rt_let hR hk6
    subst hk6
    have h1 := ih x ps qs c (hx x (by simp)) hq
    have h2 := ih y (ps ++ [(a, vNm (wr ((x.rn ps c).2 + 1)))]) (qs ++ [(vNm (wr ((x.rn ps c).2 + 1)), vNm (wr ((x.rn ps c).2 + 1)))]) (wr ((x.rn ps c).2 + 1)) (hx y (by simp)) (hq.append fun p hp => by rw [List.mem_singleton.1 hp])
    simp [Tm.rns, Cs.rnL, h1, h2]
  · have hL : ∀ (ys : List Tm) (i : Nat) (nm nm' a' : ByteArray) (c : Int), (∀ y ∈ ys, y ∈ xs) → Tm.rns k a' qs i (Tm.rns k a ps i ys nm c).1 nm' c = ((Tm.rns k a ps i ys nm c).1, nm', (Tm.rns k a ps i ys nm c).2.2) := by
      intro ys
      induction ys with
      | nil => intro i nm nm' a' c _; rfl
      | cons y r ih2 =>
        intro i nm nm' a' c hm
        have h1 := ih y ps qs c (hx y (hm y (List.mem_cons_self ..))) hq
        have h2 := ih2 (i + 1) nm nm' a' (y.rn ps c).2 fun z hz => hm z (List.mem_cons_of_mem _ hz)
        rw [Tm.rns, if_neg fun h => hk6 h.1]
        dsimp only
        rw [Tm.rns, if_neg fun h => hk6 h.1, h1]
        dsimp only
        rw [h2]
    have hC : ∀ (ys : List Cs) (c : Int), (∀ y ∈ ys, y ∈ cs) → Cs.rnL (Cs.rnL ys ps c).1 qs c = ((Cs.rnL ys ps c).1, (Cs.rnL ys ps c).2) := by
      intro ys
      induction ys with
      | nil => intro c _; rfl
      | cons y r ih2 =>
        intro c hm
        have hy := hm y (List.mem_cons_self ..)
        obtain ⟨t, ws, y⟩ := y
        have h1 := ih y (ps ++ ws.zip (freshL ws c)) (qs ++ (freshL ws c).zip (freshL ws c)) (freshC ws c) (hc _ hy).2 (hq.append (IdP.zip _))
        have h2 := ih2 (y.rn (ps ++ ws.zip (freshL ws c)) (freshC ws c)).2 fun z hz => hm z (List.mem_cons_of_mem _ hz)
        rw [Cs.rnL, Cs.rn]
        dsimp only
        rw [Cs.rnL, Cs.rn, freshL_twice, freshC_twice, h1]
        dsimp only
        rw [h2]
    rw [hL xs 0 a _ _ c fun y hy => hy]
    dsimp only
    rw [hC cs _ fun y hy => hy]
theorem Fn.rn_rn (f : Fn) (hr : f.body.Rt 25) : f.rn.rn = f.rn := by
  have h := Go.Proofs.YtapiiklnnkkdlaaDoor.rn_rn 25 f.body (f.params.zip (freshL f.params 0)) ((freshL f.params 0).zip (freshL f.params 0)) (freshC f.params 0) hr (IdP.zip _)
  unfold Fn.rn
  dsimp only
  rw [freshL_twice, freshC_twice, h]
mutual
def Tm.bd : Tm → List ByteArray
  | .mk k _ a _ _ xs cs => (if k = 6 then [a] else []) ++ (Tm.bdL xs ++ Cs.bdL cs)
def Tm.bdL : List Tm → List ByteArray
  | [] => []
  | x :: r => x.bd ++ Tm.bdL r
def Cs.bdL : List Cs → List ByteArray
  | [] => []
  | c :: r => c.bd ++ Cs.bdL r
def Cs.bd : Cs → List ByteArray
  | .mk _ ws y => ws ++ y.bd
end
def seqV (c : Int) (n : Nat) : List ByteArray := (List.range n).map fun (i : Nat) => vNm (c + 1 + (i : Int))
theorem seqV_add (c : Int) (m n : Nat) : seqV c (m + n) = seqV c m ++ seqV (c + m) n := by
  unfold seqV
  rw [List.range_add, List.map_append, List.map_map]
  congr 1
  refine List.map_congr_left fun i _ => ?_
  show vNm _ = vNm _
  congr 1
  push_cast
  omega
theorem seqV_one (c : Int) : seqV c 1 = [vNm (c + 1)] := by simp [seqV]
theorem wr_of {c : Int} (h : 0 ≤ c) (h2 : c < 9223372036854775807) : wr c = c := wr_id ⟨by omega, by omega⟩
theorem freshL_seq : ∀ (l : List ByteArray) (c : Int), 0 ≤ c → c + l.length < 9223372036854775807 → freshL l c = seqV c l.length ∧ freshC l c = c + l.length
  | [], c, _, _ => ⟨rfl, by simp [freshC]⟩
  | x :: r, c, h, h2 => by
    rw [List.length_cons] at h2
    have hw : wr (c + 1) = c + 1 := wr_of (by omega) (by omega)
    obtain ⟨h3, h4⟩ := freshL_seq r (c + 1) (by omega) (by omega)
    refine ⟨?_, ?_⟩
    · rw [freshL, hw, h3, List.length_cons, Nat.add_comm r.length 1, seqV_add, seqV_one]
      rfl
    · rw [freshC, hw, h4, List.length_cons]; omega
theorem bd_rn : ∀ (d : Nat) (t : Tm) (ps : Ps) (c : Int), t.Rt d → 0 ≤ c → c + t.bd.length < 9223372036854775807 → (t.rn ps c).1.bd.Perm (seqV c t.bd.length) ∧ (t.rn ps c).2 = c + t.bd.length := by
  intro d
  induction d with
  | zero => intro t _ _ h; exact h.elim
  | succ d ih =>
  intro t ps c hR h0 hb
  obtain ⟨k, n, a, b, vs, xs, cs⟩ := t
  have hR' := hR
  obtain ⟨hk, hmany, _, hx, hc⟩ := hR'
  rw [Tm.rn]
  by_cases hk1 : k = 1
  · subst hk1
    unfold manyB at hmany
    simp at hmany
    obtain ⟨rfl, rfl⟩ := hmany
    rw [if_pos rfl]
    exact ⟨by simp [Tm.bd, Tm.bdL, Cs.bdL, seqV], by simp [Tm.bd, Tm.bdL, Cs.bdL]⟩
  rw [if_neg hk1]
  by_cases hk6 : k = 6
  · obtain ⟨x, y, rfl, rfl⟩ := rt_let hR hk6
    subst hk6
    have hl : (Tm.mk 6 n a b vs [x, y] []).bd.length = x.bd.length + (1 + y.bd.length) := by simp [Tm.bd, Tm.bdL, Cs.bdL]; omega
    rw [hl] at hb ⊢
    obtain ⟨h1, h2⟩ := ih x ps c (hx x (by simp)) h0 (by push_cast at hb ⊢; omega)
    have hw : wr (c + x.bd.length + 1) = c + x.bd.length + 1 := wr_of (by omega) (by push_cast at hb; omega)
    obtain ⟨h3, h4⟩ := ih y (ps ++ [(a, vNm (c + x.bd.length + 1))]) (c + x.bd.length + 1) (hx y (by simp)) (by omega) (by push_cast at hb ⊢; omega)
    refine ⟨?_, ?_⟩
    · simp [Tm.rns, Cs.rnL, Tm.bd, Tm.bdL, Cs.bdL, h2, hw]
      rw [seqV_add, seqV_add, seqV_one, show c + (x.bd.length : Int) + ((1 : Nat) : Int) = c + x.bd.length + 1 from by omega]
      refine List.Perm.trans ?_ ((List.perm_middle (a := vNm (c + x.bd.length + 1)) (l₁ := seqV c x.bd.length) (l₂ := seqV (c + x.bd.length + 1) y.bd.length)).symm)
      exact List.Perm.cons _ (h1.append h3)
    · simp [Tm.rns, Cs.rnL, h2, hw, h4]; omega
  · have hL : ∀ (ys : List Tm) (i : Nat) (nm : ByteArray) (c : Int), (∀ y ∈ ys, y ∈ xs) → 0 ≤ c → c + (Tm.bdL ys).length < 9223372036854775807 → (Tm.bdL (Tm.rns k a ps i ys nm c).1).Perm (seqV c (Tm.bdL ys).length) ∧ (Tm.rns k a ps i ys nm c).2.2 = c + (Tm.bdL ys).length := by
      intro ys
      induction ys with
      | nil => intro i nm c _ _ _; exact ⟨by simp [Tm.rns, Tm.bdL, seqV], by simp [Tm.rns, Tm.bdL]⟩
      | cons y r ih2 =>
        intro i nm c hm h0 hb
        rw [Tm.bdL, List.length_append] at hb ⊢
        obtain ⟨h1, h2⟩ := ih y ps c (hx y (hm y (List.mem_cons_self ..))) h0 (by push_cast at hb; omega)
        obtain ⟨h3, h4⟩ := ih2 (i + 1) nm (c + y.bd.length) (fun z hz => hm z (List.mem_cons_of_mem _ hz)) (by omega) (by push_cast at hb; omega)
        rw [Tm.rns, if_neg fun h => hk6 h.1, h2]
        dsimp only
        rw [Tm.bdL, seqV_add]
        exact ⟨h1.append h3, by rw [h4]; push_cast; omega⟩
    have hC : ∀ (ys : List Cs) (c : Int), (∀ y ∈ ys, y ∈ cs) → 0 ≤ c → c + (Cs.bdL ys).length < 9223372036854775807 → (Cs.bdL (Cs.rnL ys ps c).1).Perm (seqV c (Cs.bdL ys).length) ∧ (Cs.rnL ys ps c).2 = c + (Cs.bdL ys).length := by
      intro ys
      induction ys with
      | nil => intro c _ _ _; exact ⟨by simp [Cs.rnL, Cs.bdL, seqV], by simp [Cs.rnL, Cs.bdL]⟩
      | cons y r ih2 =>
        intro c hm h0 hb
        have hy := hm y (List.mem_cons_self ..)
        obtain ⟨t, ws, y⟩ := y
        rw [Cs.bdL, Cs.bd, List.length_append, List.length_append] at hb ⊢
        obtain ⟨e1, e2⟩ := freshL_seq ws c h0 (by push_cast at hb; omega)
        obtain ⟨h1, h2⟩ := ih y (ps ++ ws.zip (freshL ws c)) (c + ws.length) (hc _ hy).2 (by omega) (by push_cast at hb; omega)
        obtain ⟨h3, h4⟩ := ih2 (c + ws.length + y.bd.length) (fun z hz => hm z (List.mem_cons_of_mem _ hz)) (by omega) (by push_cast at hb; omega)
        rw [Cs.rnL, Cs.rn, e2, h2]
        dsimp only
        rw [Cs.bdL, Cs.bd, seqV_add, seqV_add, show c + ((ws.length + y.bd.length : Nat) : Int) = c + ws.length + y.bd.length from by push_cast; omega, e1]
        exact ⟨((List.Perm.refl _).append (by rw [← e1]; exact h1)).append h3, by rw [h4]; push_cast; omega⟩
    have hl : (Tm.mk k n a b vs xs cs).bd.length = (Tm.bdL xs).length + (Cs.bdL cs).length := by simp [Tm.bd, hk6]
    rw [hl] at hb ⊢
    obtain ⟨h1, h2⟩ := hL xs 0 a c (fun _ h => h) h0 (by push_cast at hb; omega)
    obtain ⟨h3, h4⟩ := hC cs (c + (Tm.bdL xs).length) (fun _ h => h) (by omega) (by push_cast at hb; omega)
    rw [h2]
    dsimp only
    rw [Tm.bd, if_neg hk6, List.nil_append, seqV_add]
    exact ⟨h1.append h3, by rw [h4]; push_cast; omega⟩
def decVal (l : List UInt8) : Nat := l.foldl (fun a c => a * 10 + (c.toNat - 48)) 0
theorem decVal_digits (u : Nat) : decVal (Lib.decDigits u) = u := by
  induction u using Nat.strongRecOn with
  | _ u ih =>
    by_cases h : u < 10
    · rw [Lib.decDigits, dif_pos h]
      have h1 : (UInt8.ofNat (48 + u)).toNat = 48 + u := by rw [UInt8.toNat_ofNat']; omega
      simp only [decVal, List.foldl_cons, List.foldl_nil, h1]
      omega
    · rw [Lib.decDigits, dif_neg h]
      have h1 : (UInt8.ofNat (48 + u % 10)).toNat = 48 + u % 10 := by rw [UInt8.toNat_ofNat']; omega
      have h2 := ih (u / 10) (by omega)
      unfold decVal at h2 ⊢
      rw [List.foldl_append, h2, List.foldl_cons, List.foldl_nil, h1]
      omega
theorem itoaB_inj {a b : Int} (ha : 0 ≤ a) (hb : 0 ≤ b) (h : itoaB a = itoaB b) : a = b := by
  unfold itoaB Lib.itoa at h
  rw [if_neg (by omega), if_neg (by omega)] at h
  injection h with h
  have h1 : Lib.decDigits a.toNat = Lib.decDigits b.toNat := by
    have := congrArg Array.toList h
    simpa using this
  have h2 := congrArg decVal h1
  rw [decVal_digits, decVal_digits] at h2
  omega
theorem append_left_inj {p a b : ByteArray} (h : p ++ a = p ++ b) : a = b := by
  have h1 := congrArg (fun x : ByteArray => x.data.toList) h
  simp only [ByteArray.data_append, Array.toList_append] at h1
  have h2 := List.append_cancel_left h1
  obtain ⟨a⟩ := a
  obtain ⟨b⟩ := b
  congr 1
  exact Array.toList_inj.1 h2
theorem vNm_inj {a b : Int} (ha : 0 ≤ a) (hb : 0 ≤ b) (h : vNm a = vNm b) : a = b := itoaB_inj ha hb (append_left_inj h)
theorem seqV_nodup {c : Int} (hc : 0 ≤ c) (n : Nat) : (seqV c n).Nodup := by
  unfold seqV
  rw [List.nodup_iff_pairwise_ne, List.pairwise_map]
  refine List.Pairwise.imp ?_ List.nodup_range
  intro a b hab e
  have := vNm_inj (by omega) (by omega) e
  omega
def Fn.bd (f : Fn) : List ByteArray := f.params ++ f.body.bd
theorem Fn.rn_bd (f : Fn) (hr : f.body.Rt 25) (hb : (f.bd.length : Int) < 9223372036854775807) : f.rn.bd.Nodup := by
  unfold Fn.bd at hb
  rw [List.length_append] at hb
  push_cast at hb
  obtain ⟨h1, h2⟩ := freshL_seq f.params 0 (by omega) (by omega)
  obtain ⟨h3, _⟩ := bd_rn 25 f.body (f.params.zip (freshL f.params 0)) (freshC f.params 0) hr (by omega) (by omega)
  unfold Fn.bd Fn.rn
  dsimp only
  have h4 : (freshL f.params 0 ++ (f.body.rn (f.params.zip (freshL f.params 0)) (freshC f.params 0)).1.bd).Perm (seqV 0 (f.params.length + f.body.bd.length)) := by
    rw [seqV_add]
    exact (List.Perm.of_eq h1).append (h2 ▸ h3)
  exact h4.nodup_iff.2 (seqV_nodup (by omega) _)
end Go.Proofs.YtapiiklnnkkdlaaDoor

namespace Go.Proofs.YtapiiklnnkkdlaaDoor
open Go.RowKit Go.Shelf
set_option linter.unusedVariables false
set_option linter.unusedSimpArgs false
attribute [local go_sem] Oper.semAt_some
def KpB (n₀ Bs : Nat) (A B : World) : Prop := Below n₀ A B ∧ B.cell? ⟨Bs, 0, none⟩ = A.cell? ⟨Bs, 0, none⟩
theorem KpB.refl (n₀ Bs : Nat) (A : World) : KpB n₀ Bs A A := ⟨Below.refl _ _, rfl⟩
theorem KpB.trans {n₀ Bs : Nat} {A B C : World} (h : KpB n₀ Bs A B) (k : KpB n₀ Bs B C) : KpB n₀ Bs A C := ⟨h.1.trans k.1, k.2.trans h.2⟩

attribute [local go_sem] Oper.semAt_some
def cnt (k : Int) : List ByteArray → Tm → Tm
  | [], t => t
  | s :: r, t => .mk k 0 s .empty [] [cnt k r t] []
def cntF (k : Int) (t : Tm) (pre : List (Int × ByteArray)) : Tm := pre.foldl (fun t x => .mk k 0 x.2 .empty [] [t] []) t
def BInv (k : Int) (t : Tm) (ok : Nat → Prop) (n0 : Nat) (z : Array Value) (pre : List (Int × ByteArray)) (W : World) : Prop :=
  n0 + 3 ≤ W.heap.size ∧ ∃ (S : Nat → Prop) (c0 c1 c2 c3 c4 c5 c6 : Value), (∀ b, S b → n0 + 3 ≤ b ∧ ∃ cs t fr, W.heap[b]? = some (.cells cs t fr)) ∧ Blk W n0 34 #[c0, c1, c2, c3, c4, c5, c6] ∧ Blk W (n0 + 1) 34 z ∧
    ((∀ p ∈ pre, p.2.size ≤ maxLen) → RepRow W (fun b => ok b ∨ S b) (cntF k t pre).row [c0, c1, c2, c3, c4, c5, c6])
theorem blk_kept {W W' : World} {row : Option Nat} {b : Nat} {o : Obj} (ho : o.isCells = true) (h : W.heap[b]? = some o) (hg : W.grownBy W' row) (hr : ∀ r, row = some r → ∃ o : Obj, W.heap[r]? = some o ∧ o.isCells = false) : W'.heap[b]? = some o := by
  refine (hg.block b (Array.getElem?_eq_some_iff.1 h).1 fun e => ?_).trans h
  obtain ⟨o', h1, h2⟩ := hr b e.symm
  rw [h] at h1
  cases h1
  rw [ho] at h2
  cases h2
theorem BInv.own (k : Int) (t : Tm) (ok : Nat → Prop) (n0 B : Nat) (z : Array Value) (hB : n0 ≤ B) (hok : ∀ b, ok b → b < n0) : OwnFrom B (BInv k t ok n0 z) := by
  rintro pre W W' row ⟨hsz, S, c0, c1, c2, c3, c4, c5, c6, hS, hb3, hb4, hrow⟩ hg hr
  have hr' : ∀ r, row = some r → ∃ o : Obj, W.heap[r]? = some o ∧ o.isCells = false := fun r e => (hr r e).2
  refine ⟨Nat.le_trans hsz hg.size, S, c0, c1, c2, c3, c4, c5, c6, fun b hb => ?_, blk_kept rfl hb3 hg hr', blk_kept rfl hb4 hg hr', fun hpre => ⟨(hrow hpre).1, fun j d v hd hv => ((hrow hpre).2 j d v hd hv).keep fun p hp => World.cell?_heap ?_⟩⟩
  · obtain ⟨h1, cs, t, fr, h2⟩ := hS b hb
    exact ⟨h1, cs, t, fr, blk_kept rfl h2 hg hr'⟩
  · rcases hp with hp | hp
    · have := hok _ hp
      have hlt : p.block < W.heap.size := by have := hb3.lt; omega
      refine hg.block _ hlt fun e => ?_
      have := (hr _ e.symm).1
      omega
    · obtain ⟨h1, cs, t, fr, h2⟩ := hS _ hp
      exact (blk_kept rfl h2 hg hr').trans h2.symm
section
variable {F : Fence} {nF : Nat} {P : Program}
end
end Go.Proofs.YtapiiklnnkkdlaaDoor

namespace Go.Proofs.YtapiiklnnkkdlaaDoor
open Go.RowKit
set_option linter.unusedVariables false
set_option linter.unusedSimpArgs false
def inN (l o : List ByteArray) : List ByteArray := l.filter fun s => hasB o s
def Tm.nm : Tm → ByteArray
  | .mk _ _ a _ _ _ _ => a
def moreN (had : List ByteArray) : List Tm → List ByteArray
  | [] => []
  | x :: r => if hasB had x.nm then x.nm :: moreN (had ++ [x.nm]) r else moreN (had ++ [x.nm]) r
def letH (a : ByteArray) (own : List ByteArray) : List Tm → List (List ByteArray)
  | [x, y] => [inN own x.free, inN own (woN y.free [a]) ++ [a]]
  | _ => []
def letD (a : ByteArray) (own : List ByteArray) : List Tm → List ByteArray
  | [x, y] => inN (inN own x.free) (woN y.free [a])
  | _ => []
def nmH : List Tm → ByteArray
  | x :: _ => x.nm
  | [] => .empty
mutual
def Tm.ow : Tm → List ByteArray → Tm
  | .mk k n a b vs xs cs, has => cnt 9 (woN has (Tm.mk k n a b vs xs cs).free) (
      if k = 3 ∨ k = 4 ∨ k = 5 then cnt 8 (moreN [] xs) (.mk k n a b vs xs cs)
      else if k = 6 then cnt 8 (letD a (inN has (Tm.mk k n a b vs xs cs).free) xs) (.mk 6 0 a .empty [] (Tm.owZ xs (letH a (inN has (Tm.mk k n a b vs xs cs).free) xs)) [])
      else if k = 7 then .mk 7 0 .empty .empty [] xs (Cs.owL cs (inN has (Tm.mk k n a b vs xs cs).free) (nmH xs))
      else .mk k n a b vs xs cs)
def Tm.owZ : List Tm → List (List ByteArray) → List Tm
  | [], _ => []
  | x :: r, hs => x.ow (hs.headD []) :: Tm.owZ r hs.tail
def Cs.owL : List Cs → List ByteArray → ByteArray → List Cs
  | [], _, _ => []
  | c :: r, own, nm => c.ow own nm :: Cs.owL r own nm
def Cs.ow : Cs → List ByteArray → ByteArray → Cs
  | .mk t ws y, own, nm => .mk t ws (cnt 8 (inN ws y.free) (cnt 9 (if hasB y.free nm then [] else [nm]) (y.ow (if hasB y.free nm then own ++ inN ws y.free else woN (own ++ inN ws y.free) [nm]))))
end
def Fn.ow (f : Fn) : Fn := ⟨f.name, f.params, f.body.ow f.params⟩
end Go.Proofs.YtapiiklnnkkdlaaDoor

namespace Go.Proofs.YtapiiklnnkkdlaaDoor
open Go.RowKit
attribute [local simp] runD mkRc ldOf stOf stOk ldArg noAny dstOk guardOk opEff opEff0 effOp pureOp callOp zEff evA constAV scalAV Value.oneCell' frGet memGet startAS frOf isGoCall idIn AS.after nextR opnIds objIds AV.ids idsL AObj.ids frNo memNo opnAny isAny mkVal rdCells wrCells fldAddr idxAddr srcRows litRows toD1 toDs setAt sliceAV optI partAV bldAV fillAV binAV binI AV.cells callEff calleeOf frKill memKill AV.kill AObj.kill AV.has AV.hasL Op.operands Call.operands keepF keepM viewIds cChk renOf moGet moWs moQ cEff moLike moHave AV.ren renL AObj.ren AObj.like kept startC moMem AV.frz frz1 frzL frSub memSub frzs AS.frz frFrz memFrz AObj.frz takeMap takeLen bleF Nat.ble_eq memAny objAny mapOp D.keyOk rowAV valRow extOp wrapOp phO frLow memLow memLow1 objLow memEmpty Low LowL
set_option linter.unusedVariables false
set_option linter.unusedSimpArgs false


theorem Tm.Ok.nm {x : Tm} (h : x.Ok) : x.nm.size ≤ 140737488355328 := by
  obtain ⟨k, n, a, b, vs, xs, cs⟩ := x
  exact h.1.1
theorem Tm.Fit.cs {k n : Int} {a b : ByteArray} {vs : List ByteArray} {xs : List Tm} {cs : List Cs} (h : (Tm.mk k n a b vs xs cs).Fit) : ∀ c ∈ cs, (∀ s ∈ c.2, s.size ≤ 140737488355328) ∧ c.3.Fit := fun c hc => by
  obtain ⟨t, ws, x⟩ := c
  have h1 := Cs.Oks_iff.1 h.ok.2.2.2 _ hc
  exact ⟨h1.1, (h.case hc).1⟩
structure Fn.Pt (f : Fn) : Prop where
  rt : f.body.Rt 175
  fit : f.body.Fit
  par : f.params.length ≤ 6
  pars : ∀ s ∈ f.params, s.size ≤ 140737488355328
end Go.Proofs.YtapiiklnnkkdlaaDoor

namespace Go.Proofs.YtapiiklnnkkdlaaDoor
open Go.RowKit
set_option linter.unusedVariables false
set_option linter.unusedSimpArgs false
def wNm (c : Int) : ByteArray := ⟨#[119]⟩ ++ itoaB c
theorem lit119 : ((⟨#[119]⟩ : ByteArray).size ≤ maxLen) = True := eq_true (by show 1 ≤ 9223372036854775807; omega)
theorem wsz (e : Int) (h : inI e) : (wNm e).size ≤ 22 := by
  have := itoaB_size h
  show (⟨#[119]⟩ ++ itoaB e : ByteArray).size ≤ 22
  rw [ByteArray.size_append]
  have h1 : (⟨#[119]⟩ : ByteArray).size = 1 := rfl
  omega
theorem wNm_le (c : Int) : (wNm (wr c)).size ≤ 140737488355328 := by
  have := wsz (wr c) (wr_in c)
  omega
abbrev Bs := List (ByteArray × Tm)
def Tm.tk : Tm → Int
  | .mk k _ _ _ _ _ _ => k
def varT (s : ByteArray) : Tm := .mk 1 0 s .empty [] [] []
def around : Bs → Tm → Tm
  | [], t => t
  | b :: r, t => .mk 6 0 b.1 .empty [] [b.2, around r t] []
mutual
def Tm.pl : Tm → Int → Tm × Int
  | .mk k n a b vs xs cs, c =>
    if k = 3 ∨ k = 4 ∨ k = 5 then (around (Tm.ats xs c).2.1 (.mk k n a .empty [] (Tm.ats xs c).1 []), (Tm.ats xs c).2.2)
    else if k = 6 then (.mk 6 0 a .empty [] (Tm.plL xs c).1 [], (Tm.plL xs c).2)
    else if k = 7 then (around (Tm.ats xs c).2.1 (.mk 7 0 .empty .empty [] (Tm.ats xs c).1 (Cs.plL cs (Tm.ats xs c).2.2).1), (Cs.plL cs (Tm.ats xs c).2.2).2)
    else (.mk k n a b vs xs cs, c)
def Tm.ats : List Tm → Int → List Tm × Bs × Int
  | [], c => ([], [], c)
  | x :: r, c => if x.tk = 1 then (x :: (Tm.ats r c).1, (Tm.ats r c).2.1, (Tm.ats r c).2.2)
    else (varT (wNm (wr (c + 1))) :: (Tm.ats r (x.pl (wr (c + 1))).2).1, (wNm (wr (c + 1)), (x.pl (wr (c + 1))).1) :: (Tm.ats r (x.pl (wr (c + 1))).2).2.1, (Tm.ats r (x.pl (wr (c + 1))).2).2.2)
def Tm.plL : List Tm → Int → List Tm × Int
  | [], c => ([], c)
  | x :: r, c => ((x.pl c).1 :: (Tm.plL r (x.pl c).2).1, (Tm.plL r (x.pl c).2).2)
def Cs.plL : List Cs → Int → List Cs × Int
  | [], c => ([], c)
  | d :: r, c => ((d.pl c).1 :: (Cs.plL r (d.pl c).2).1, (Cs.plL r (d.pl c).2).2)
def Cs.pl : Cs → Int → Cs × Int
  | .mk t ws y, c => (.mk t ws (y.pl c).1, (y.pl c).2)
end
theorem ats_len : ∀ (l : List Tm) (c : Int), (Tm.ats l c).1.length = l.length
  | [], _ => rfl
  | x :: r, c => by
    rw [Tm.ats]
    split <;> simp [ats_len r]
def Fn.pl (f : Fn) : Fn := ⟨f.rn.name, f.rn.params, (f.rn.body.pl 0).1⟩
theorem rn_rt : ∀ (d : Nat) (t : Tm) (ps : Ps) (c : Int), t.Rt d → (t.rn ps c).1.Rt d := by
  intro d
  induction d with
  | zero => intro t _ _ h; exact h.elim
  | succ d ih =>
  intro t ps c hR
  obtain ⟨k, n, a, b, vs, xs, cs⟩ := t
  obtain ⟨h1, h2, h3, hx, hc⟩ := hR
  have hL : ∀ (ys : List Tm) (i : Nat) (nm : ByteArray) (c : Int), (∀ y ∈ ys, y ∈ xs) → (∀ y ∈ (Tm.rns k a ps i ys nm c).1, y.Rt d) ∧ (Tm.rns k a ps i ys nm c).1.length = ys.length := by
    intro ys
    induction ys with
    | nil => intro i nm c _; exact ⟨fun y h => by simp [Tm.rns] at h, rfl⟩
    | cons y r ih2 =>
      intro i nm c hm
      have hy := hm y (List.mem_cons_self ..)
      rw [Tm.rns]
      split
      · obtain ⟨h2, h4⟩ := ih2 (i + 1) (vNm (wr (c + 1))) (y.rn (ps ++ [(a, vNm (wr (c + 1)))]) (wr (c + 1))).2 (fun z hz => hm z (List.mem_cons_of_mem _ hz))
        exact ⟨fun z hz => (List.mem_cons.1 hz).elim (fun e => e ▸ ih y _ _ (hx y hy)) (h2 z), by simp [h4]⟩
      · obtain ⟨h2, h4⟩ := ih2 (i + 1) nm (y.rn ps c).2 (fun z hz => hm z (List.mem_cons_of_mem _ hz))
        exact ⟨fun z hz => (List.mem_cons.1 hz).elim (fun e => e ▸ ih y _ _ (hx y hy)) (h2 z), by simp [h4]⟩
  have hC : ∀ (ys : List Cs) (c : Int), (∀ y ∈ ys, y ∈ cs) → (∀ y ∈ (Cs.rnL ys ps c).1, y.2.length ≤ 6 ∧ y.3.Rt d) ∧ (Cs.rnL ys ps c).1.length = ys.length := by
    intro ys
    induction ys with
    | nil => intro c _; exact ⟨fun y h => by simp [Cs.rnL] at h, rfl⟩
    | cons y r ih2 =>
      intro c hm
      have hy := hc y (hm y (List.mem_cons_self ..))
      rw [Cs.rnL]
      obtain ⟨h2, h4⟩ := ih2 (y.rn ps c).2 (fun z hz => hm z (List.mem_cons_of_mem _ hz))
      obtain ⟨t, ws, z⟩ := y
      refine ⟨fun z hz => (List.mem_cons.1 hz).elim (fun e => ?_) (h2 z), by simp [h4]⟩
      rw [e, Cs.rn]
      exact ⟨by dsimp only; rw [freshL_len]; exact hy.1, ih _ _ _ hy.2⟩
  rw [Tm.rn]
  split
  · rename_i hk
    subst hk
    have h2' := h2
    unfold manyB at h2'
    simp at h2'
    obtain ⟨e1, e2⟩ := h2'
    subst e1 e2
    have h0 : Tm.Rt (d + 1) (.mk 1 n (nowP ps a) b vs [] []) := by
      rw [Tm.Rt]
      exact ⟨h1, h2, h3, by simp, by simp⟩
    exact h0
  · obtain ⟨q1, q2⟩ := hL xs 0 a c (fun _ h => h)
    obtain ⟨q3, q4⟩ := hC cs (Tm.rns k a ps 0 xs a c).2.2 (fun _ h => h)
    refine ⟨h1, ?_, ?_, q1, q3⟩
    · rw [q2, q4]; exact h2
    · rw [q2, q4]; exact h3
end Go.Proofs.YtapiiklnnkkdlaaDoor
