import Derived.Test.YtapiiklnnkkdlaaDoorNameB
/- Other names, plainly: they fit. -/
namespace Go.Proofs.YtapiiklnnkkdlaaDoor
open Go.RowKit
set_option linter.unusedVariables false
set_option linter.unusedSimpArgs false
theorem vNm_le (c : Int) : (vNm (wr c)).size ≤ 140737488355328 := by
  have := vsz (wr c) (wr_in c)
  omega
theorem nowP_le : ∀ (ps : Ps) (s : ByteArray), s.size ≤ 140737488355328 → (∀ p ∈ ps, p.2.size ≤ 140737488355328) → (nowP ps s).size ≤ 140737488355328 := by
  intro ps s hs hp
  unfold nowP
  have : ∀ (ps : Ps) (o : ByteArray), o.size ≤ 140737488355328 → (∀ p ∈ ps, p.2.size ≤ 140737488355328) → (ps.foldl (fun o p => if p.1 = s then p.2 else o) o).size ≤ 140737488355328 := by
    intro ps
    induction ps with
    | nil => intro o ho _; exact ho
    | cons p r ih =>
      intro o ho h
      simp only [List.foldl_cons]
      refine ih _ ?_ fun q hq => h q (List.mem_cons_of_mem _ hq)
      split
      · exact h p (List.mem_cons_self ..)
      · exact ho
  exact this ps s hs hp
theorem freshL_le : ∀ (l : List ByteArray) (c : Int), ∀ s ∈ freshL l c, s.size ≤ 140737488355328
  | [], _, s, h => by cases h
  | _ :: r, c, s, h => by
    rw [freshL] at h
    rcases List.mem_cons.1 h with rfl | h
    · exact vNm_le _
    · exact freshL_le r _ s h
theorem rn_ok : ∀ (d : Nat) (t : Tm) (ps : Ps) (c : Int), t.Rt d → t.Ok → (∀ p ∈ ps, p.2.size ≤ 140737488355328) → (t.rn ps c).1.Ok := by
  intro d
  induction d with
  | zero => intro t _ _ h; exact h.elim
  | succ d ih =>
  intro t ps c hR hO hps
  obtain ⟨k, n, a, b, vs, xs, cs⟩ := t
  obtain ⟨_, _, _, hx, hc⟩ := hR
  obtain ⟨⟨o1, o2, o3⟩, ⟨o4, o5, o6⟩, o7, o8⟩ := hO
  rw [Tm.Oks_iff] at o7
  rw [Cs.Oks_iff] at o8
  have hL : ∀ (ys : List Tm) (i : Nat) (nm : ByteArray) (c : Int), (∀ y ∈ ys, y ∈ xs) → nm.size ≤ 140737488355328 → Tm.Oks (Tm.rns k a ps i ys nm c).1 ∧ (Tm.rns k a ps i ys nm c).2.1.size ≤ 140737488355328 ∧ (Tm.rns k a ps i ys nm c).1.length = ys.length := by
    intro ys
    induction ys with
    | nil => intro i nm c _ h; exact ⟨trivial, h, rfl⟩
    | cons y r ih2 =>
      intro i nm c hm hn
      have hy := hm y (List.mem_cons_self ..)
      rw [Tm.rns]
      split
      · have h1 := ih y (ps ++ [(a, vNm (wr (c + 1)))]) (wr (c + 1)) (hx y hy) (o7 y hy) (fun p hp => (List.mem_append.1 hp).elim (hps p) fun hp => by rw [List.mem_singleton.1 hp]; exact vNm_le _)
        obtain ⟨h2, h3, h4⟩ := ih2 (i + 1) (vNm (wr (c + 1))) (y.rn (ps ++ [(a, vNm (wr (c + 1)))]) (wr (c + 1))).2 (fun z hz => hm z (List.mem_cons_of_mem _ hz)) (vNm_le _)
        exact ⟨⟨h1, h2⟩, h3, by simp [h4]⟩
      · have h1 := ih y ps c (hx y hy) (o7 y hy) hps
        obtain ⟨h2, h3, h4⟩ := ih2 (i + 1) nm (y.rn ps c).2 (fun z hz => hm z (List.mem_cons_of_mem _ hz)) hn
        exact ⟨⟨h1, h2⟩, h3, by simp [h4]⟩
  have hC : ∀ (ys : List Cs) (c : Int), (∀ y ∈ ys, y ∈ cs) → Cs.Oks (Cs.rnL ys ps c).1 ∧ (Cs.rnL ys ps c).1.length = ys.length := by
    intro ys
    induction ys with
    | nil => intro c _; exact ⟨trivial, rfl⟩
    | cons y r ih2 =>
      intro c hm
      have hy := hm y (List.mem_cons_self ..)
      obtain ⟨t, ws, y⟩ := y
      obtain ⟨hw, hyR⟩ := hc _ hy
      obtain ⟨p1, p2, p3⟩ := o8 _ hy
      rw [Cs.rnL, Cs.rn]
      have h1 := ih y (ps ++ ws.zip (freshL ws c)) (freshC ws c) hyR p3 (fun p hp => (List.mem_append.1 hp).elim (hps p) fun hp => freshL_le ws c _ (List.of_mem_zip hp).2)
      obtain ⟨h2, h4⟩ := ih2 (y.rn (ps ++ ws.zip (freshL ws c)) (freshC ws c)).2 fun z hz => hm z (List.mem_cons_of_mem _ hz)
      exact ⟨⟨⟨freshL_le ws c, by rw [freshL_len]; exact p2, h1⟩, h2⟩, by simp [h4]⟩
  rw [Tm.rn]
  split
  · exact ⟨⟨nowP_le ps a o1 hps, o2, o3⟩, ⟨o4, by simp, by simp⟩, trivial, trivial⟩
  · obtain ⟨h1, h2, h3⟩ := hL xs 0 a c (fun y hy => hy) o1
    obtain ⟨h4, h5⟩ := hC cs (Tm.rns k a ps 0 xs a c).2.2 fun y hy => hy
    exact ⟨⟨h2, o2, o3⟩, ⟨o4, by rw [h3]; exact o5, by rw [h5]; exact o6⟩, h1, h4⟩
theorem Fn.rn_ok (f : Fn) (hb : f.body.Ok) (hr : f.body.Rt 25) : f.rn.body.Ok :=
  Go.Proofs.YtapiiklnnkkdlaaDoor.rn_ok 25 f.body _ _ hr hb fun p hp => freshL_le _ _ _ (List.of_mem_zip hp).2
theorem right_all {l : List Fn} (hl : FnsOk l) (h : checkE l = 0) : ∀ f ∈ l, f.body.Ok ∧ f.body.Rt 25 ∧ f.params.length ≤ 6 := fun f hf => by
  have hr := (check_zero h).2.2.2 f hf
  exact ⟨(hl.all f hf).body, wrong_rt _ 25 _ _ 0 (by omega) hr.wrong, hr.params⟩

def wNm (c : Int) : ByteArray := ⟨#[119]⟩ ++ itoaB c
theorem lit119 : ((⟨#[119]⟩ : ByteArray).size ≤ maxLen) = True := eq_true (by show 1 ≤ 9223372036854775807; omega)
theorem wsz (e : Int) (h : inI e) : (wNm e).size ≤ 22 := by
  have := itoaB_size h
  show (⟨#[119]⟩ ++ itoaB e : ByteArray).size ≤ 22
  rw [ByteArray.size_append]
  have h1 : (⟨#[119]⟩ : ByteArray).size = 1 := rfl
  omega
theorem wNm_le (c : Int) : (wNm (wr c)).size ≤ 140737488355328 := by
  have := wsz (wr c) (wr_in c)
  omega
abbrev Bs := List (ByteArray × Tm)
def Tm.tk : Tm → Int
  | .mk k _ _ _ _ _ _ => k
def varT (s : ByteArray) : Tm := .mk 1 0 s .empty [] [] []
def around : Bs → Tm → Tm
  | [], t => t
  | b :: r, t => .mk 6 0 b.1 .empty [] [b.2, around r t] []
mutual
def Tm.pl : Tm → Int → Tm × Int
  | .mk k n a b vs xs cs, c =>
    if k = 3 ∨ k = 4 ∨ k = 5 then (around (Tm.ats xs c).2.1 (.mk k n a .empty [] (Tm.ats xs c).1 []), (Tm.ats xs c).2.2)
    else if k = 6 then (.mk 6 0 a .empty [] (Tm.plL xs c).1 [], (Tm.plL xs c).2)
    else if k = 7 then (around (Tm.ats xs c).2.1 (.mk 7 0 .empty .empty [] (Tm.ats xs c).1 (Cs.plL cs (Tm.ats xs c).2.2).1), (Cs.plL cs (Tm.ats xs c).2.2).2)
    else (.mk k n a b vs xs cs, c)
def Tm.ats : List Tm → Int → List Tm × Bs × Int
  | [], c => ([], [], c)
  | x :: r, c => if x.tk = 1 then (x :: (Tm.ats r c).1, (Tm.ats r c).2.1, (Tm.ats r c).2.2)
    else (varT (wNm (wr (c + 1))) :: (Tm.ats r (x.pl (wr (c + 1))).2).1, (wNm (wr (c + 1)), (x.pl (wr (c + 1))).1) :: (Tm.ats r (x.pl (wr (c + 1))).2).2.1, (Tm.ats r (x.pl (wr (c + 1))).2).2.2)
def Tm.plL : List Tm → Int → List Tm × Int
  | [], c => ([], c)
  | x :: r, c => ((x.pl c).1 :: (Tm.plL r (x.pl c).2).1, (Tm.plL r (x.pl c).2).2)
def Cs.plL : List Cs → Int → List Cs × Int
  | [], c => ([], c)
  | d :: r, c => ((d.pl c).1 :: (Cs.plL r (d.pl c).2).1, (Cs.plL r (d.pl c).2).2)
def Cs.pl : Cs → Int → Cs × Int
  | .mk t ws y, c => (.mk t ws (y.pl c).1, (y.pl c).2)
end
theorem ats_len : ∀ (l : List Tm) (c : Int), (Tm.ats l c).1.length = l.length
  | [], _ => rfl
  | x :: r, c => by
    rw [Tm.ats]
    split <;> simp [ats_len r]
def Fn.pl (f : Fn) : Fn := ⟨f.rn.name, f.rn.params, (f.rn.body.pl 0).1⟩
theorem rn_rt : ∀ (d : Nat) (t : Tm) (ps : Ps) (c : Int), t.Rt d → (t.rn ps c).1.Rt d := by
  intro d
  induction d with
  | zero => intro t _ _ h; exact h.elim
  | succ d ih =>
  intro t ps c hR
  obtain ⟨k, n, a, b, vs, xs, cs⟩ := t
  obtain ⟨h1, h2, h3, hx, hc⟩ := hR
  have hL : ∀ (ys : List Tm) (i : Nat) (nm : ByteArray) (c : Int), (∀ y ∈ ys, y ∈ xs) → (∀ y ∈ (Tm.rns k a ps i ys nm c).1, y.Rt d) ∧ (Tm.rns k a ps i ys nm c).1.length = ys.length := by
    intro ys
    induction ys with
    | nil => intro i nm c _; exact ⟨fun y h => by simp [Tm.rns] at h, rfl⟩
    | cons y r ih2 =>
      intro i nm c hm
      have hy := hm y (List.mem_cons_self ..)
      rw [Tm.rns]
      split
      · obtain ⟨h2, h4⟩ := ih2 (i + 1) (vNm (wr (c + 1))) (y.rn (ps ++ [(a, vNm (wr (c + 1)))]) (wr (c + 1))).2 (fun z hz => hm z (List.mem_cons_of_mem _ hz))
        exact ⟨fun z hz => (List.mem_cons.1 hz).elim (fun e => e ▸ ih y _ _ (hx y hy)) (h2 z), by simp [h4]⟩
      · obtain ⟨h2, h4⟩ := ih2 (i + 1) nm (y.rn ps c).2 (fun z hz => hm z (List.mem_cons_of_mem _ hz))
        exact ⟨fun z hz => (List.mem_cons.1 hz).elim (fun e => e ▸ ih y _ _ (hx y hy)) (h2 z), by simp [h4]⟩
  have hC : ∀ (ys : List Cs) (c : Int), (∀ y ∈ ys, y ∈ cs) → (∀ y ∈ (Cs.rnL ys ps c).1, y.2.length ≤ 6 ∧ y.3.Rt d) ∧ (Cs.rnL ys ps c).1.length = ys.length := by
    intro ys
    induction ys with
    | nil => intro c _; exact ⟨fun y h => by simp [Cs.rnL] at h, rfl⟩
    | cons y r ih2 =>
      intro c hm
      have hy := hc y (hm y (List.mem_cons_self ..))
      rw [Cs.rnL]
      obtain ⟨h2, h4⟩ := ih2 (y.rn ps c).2 (fun z hz => hm z (List.mem_cons_of_mem _ hz))
      obtain ⟨t, ws, z⟩ := y
      refine ⟨fun z hz => (List.mem_cons.1 hz).elim (fun e => ?_) (h2 z), by simp [h4]⟩
      rw [e, Cs.rn]
      exact ⟨by dsimp only; rw [freshL_len]; exact hy.1, ih _ _ _ hy.2⟩
  rw [Tm.rn]
  split
  · rename_i hk
    subst hk
    have h2' := h2
    unfold manyB at h2'
    simp at h2'
    obtain ⟨e1, e2⟩ := h2'
    subst e1 e2
    have h0 : Tm.Rt (d + 1) (.mk 1 n (nowP ps a) b vs [] []) := by
      rw [Tm.Rt]
      exact ⟨h1, h2, h3, by simp, by simp⟩
    exact h0
  · obtain ⟨q1, q2⟩ := hL xs 0 a c (fun _ h => h)
    obtain ⟨q3, q4⟩ := hC cs (Tm.rns k a ps 0 xs a c).2.2 (fun _ h => h)
    refine ⟨h1, ?_, ?_, q1, q3⟩
    · rw [q2, q4]; exact h2
    · rw [q2, q4]; exact h3
end Go.Proofs.YtapiiklnnkkdlaaDoor

namespace Go.Proofs.YtapiiklnnkkdlaaDoor
open Go.RowKit
attribute [local simp] runD mkRc ldOf stOf stOk ldArg noAny dstOk guardOk opEff opEff0 effOp pureOp callOp zEff evA constAV scalAV Value.oneCell' frGet memGet startAS frOf isGoCall idIn AS.after nextR opnIds objIds AV.ids idsL AObj.ids frNo memNo opnAny isAny mkVal rdCells wrCells fldAddr idxAddr srcRows litRows toD1 toDs setAt sliceAV optI partAV bldAV fillAV binAV binI AV.cells callEff calleeOf frKill memKill AV.kill AObj.kill AV.has AV.hasL Op.operands Call.operands keepF keepM viewIds cChk renOf moGet moWs moQ cEff moLike moHave AV.ren renL AObj.ren AObj.like kept startC moMem AV.frz frz1 frzL frSub memSub frzs AS.frz frFrz memFrz AObj.frz takeMap takeLen bleF Nat.ble_eq memAny objAny mapOp D.keyOk rowAV valRow extOp wrapOp phO frLow memLow memLow1 objLow memEmpty Low LowL
set_option linter.unusedVariables false
set_option linter.unusedSimpArgs false
abbrev mkO (c : Int) : AObj := .blk 117 [.d (.int c)]
theorem tmrl (a : Tm) : a.row.length = 7 := by cases a; simp [Tm.row]
set_option maxRecDepth 20000 in
set_option maxHeartbeats 16000000 in
theorem cs_mkFresh (c : Int) : CSpec Tryd.prog 170 [.ptr 1000 0] [(1000, mkO c)] (.d (.str (wNm (wr (c + 1))))) [(1000, mkO (wr (c + 1)))] := by
  obtain ⟨e, he⟩ : ∃ e : Int, wr (c + 1) = e := ⟨_, rfl⟩
  rw [he]
  have heI : inI e := by rw [← he]; exact wr_in _
  have hit := sp_Itoa e heI
  have hsz := itoaB_size heI
  have h1s : (⟨#[119]⟩ : ByteArray).size = 1 := rfl
  rw [wNm]
  refine CSpec.of Tryd.func170 rfl rfl (Nat.le_of_ble_eq_true rfl) ?_
  show AWp _ _ (endC _ Tryd.f170 _ _) (startC 16 _ _)
  refine AWp.rg [] [] ?_ (hr := by conv => lhs; simp [lit119])
  refine AWp.rg [4] [] ?_ (hr := by conv => lhs; simp [lit119, he])
  refine AWp.rg [] [.p (fun _ => .d (.str (itoaB e))) none] ?_ (hr := by conv => lhs; simp [lit119, he])
  refine AWp.ret ?_
  try dsimp only [thenQ, blockQ]
  apply endC.ret
  · rfl
  · conv => lhs; simp [resAV, Tryd.results170]
  · rfl
  · simp [moEnd, memGet, wNm]
set_option maxRecDepth 20000 in
set_option maxHeartbeats 16000000 in
theorem cs_simpleA1 (c c1 c2 e : Int) (s : ByteArray) (l done : List Tm) (tk tn : Int) (ta tb : ByteArray) (tvs : List ByteArray) (txs : List Tm) (tcs : List Cs) (xk xn : Int) (xa xb : ByteArray) (xvs : List ByteArray) (xxs : List Tm) (xcs : List Cs) (yk yn : Int) (ya yb : ByteArray) (yvs : List ByteArray) (yxs : List Tm) (ycs : List Cs) (zk zn : Int) (za zb : ByteArray) (zvs : List ByteArray) (zxs : List Tm) (zcs : List Cs) 
    (hcl : CSpec Tryd.prog 169 [tmAV (.mk 1 xn xa xb xvs xxs xcs), .ptr 1001 0, .ptr 1002 0, .ptr 1003 0, .ptr 1004 0] [(1000, .blk 117 [.d (.int c)]), (1001, .blk 115 [.ptr 1000 0]), (1002, .blk 31 [.d (.sl (l.map Tm.row))]), (1003, .blk 31 [.d (.sl (done.map Tm.row))]), (1004, .blk 158 [.clo 157 [.ptr 1005 0]]), (1005, .blk 34 [.d (.int tk), .d (.int tn), .d (.str ta), .d (.str tb), .d (strsD tvs), .d (.sl (txs.map Tm.row)), .d (.sl (tcs.map Cs.row))])] (tmAV (.mk zk zn za zb zvs zxs zcs)) [(1000, .blk 117 [.d (.int c2)]), (1001, .blk 115 [.ptr 1000 0]), (1002, .blk 31 [.d (.sl (l.map Tm.row))]), (1003, .blk 31 [.d (.sl (done.map Tm.row))]), (1004, .blk 158 [.clo 157 [.ptr 1005 0]]), (1005, .blk 34 [.d (.int tk), .d (.int tn), .d (.str ta), .d (.str tb), .d (strsD tvs), .d (.sl (txs.map Tm.row)), .d (.sl (tcs.map Cs.row))])]) :
    CSpec Tryd.prog 158 [.ptr 1000 0, tmAV (.mk 1 xn xa xb xvs xxs xcs), .clo 169 [.ptr 1001 0, .ptr 1002 0, .ptr 1003 0, .ptr 1004 0]] [(1000, .blk 117 [.d (.int c)]), (1001, .blk 115 [.ptr 1000 0]), (1002, .blk 31 [.d (.sl (l.map Tm.row))]), (1003, .blk 31 [.d (.sl (done.map Tm.row))]), (1004, .blk 158 [.clo 157 [.ptr 1005 0]]), (1005, .blk 34 [.d (.int tk), .d (.int tn), .d (.str ta), .d (.str tb), .d (strsD tvs), .d (.sl (txs.map Tm.row)), .d (.sl (tcs.map Cs.row))])] (tmAV (.mk zk zn za zb zvs zxs zcs)) [(1000, .blk 117 [.d (.int c2)]), (1001, .blk 115 [.ptr 1000 0]), (1002, .blk 31 [.d (.sl (l.map Tm.row))]), (1003, .blk 31 [.d (.sl (done.map Tm.row))]), (1004, .blk 158 [.clo 157 [.ptr 1005 0]]), (1005, .blk 34 [.d (.int tk), .d (.int tn), .d (.str ta), .d (.str tb), .d (strsD tvs), .d (.sl (txs.map Tm.row)), .d (.sl (tcs.map Cs.row))])] := by
  refine CSpec.of Tryd.func158 rfl rfl (Nat.le_of_ble_eq_true rfl) ?_
  show AWp _ _ (endC _ Tryd.f158 _ _) (startC 28 _ _)
  refine AWp.rg [] [] ?_ (hr := by conv => lhs; simp [Tm.row, Tm.rows_eq, Cs.rows_eq])
  refine AWp.rg [] [] ?_ (hr := by conv => lhs; simp [Tm.row, Tm.rows_eq, Cs.rows_eq])
  refine AWp.cy ?_
  refine AWp.rg [] [.c [] [.agg [.d (.int 1), .d (.int xn), .d (.str xa), .d (.str xb), .d (strsD xvs), .d (.sl (xxs.map Tm.row)), .d (.sl (xcs.map Cs.row))], .ptr 1001 0, .ptr 1002 0, .ptr 1003 0, .ptr 1004 0] [(1000, .blk 117 [.d (.int c)]), (1001, .blk 115 [.ptr 1000 0]), (1002, .blk 31 [.d (.sl (l.map Tm.row))]), (1003, .blk 31 [.d (.sl (done.map Tm.row))]), (1004, .blk 158 [.clo 157 [.ptr 1005 0]]), (1005, .blk 34 [.d (.int tk), .d (.int tn), .d (.str ta), .d (.str tb), .d (strsD tvs), .d (.sl (txs.map Tm.row)), .d (.sl (tcs.map Cs.row))])] (.agg [.d (.int zk), .d (.int zn), .d (.str za), .d (.str zb), .d (strsD zvs), .d (.sl (zxs.map Tm.row)), .d (.sl (zcs.map Cs.row))]) [(1000, .blk 117 [.d (.int c2)]), (1001, .blk 115 [.ptr 1000 0]), (1002, .blk 31 [.d (.sl (l.map Tm.row))]), (1003, .blk 31 [.d (.sl (done.map Tm.row))]), (1004, .blk 158 [.clo 157 [.ptr 1005 0]]), (1005, .blk 34 [.d (.int tk), .d (.int tn), .d (.str ta), .d (.str tb), .d (strsD tvs), .d (.sl (txs.map Tm.row)), .d (.sl (tcs.map Cs.row))])]] ?_ (hr := by conv => lhs; simp [Tm.row, Tm.rows_eq, Cs.rows_eq])
  refine AWp.ret ?_
  try dsimp only [thenQ, blockQ]
  apply endC.ret
  · rfl
  · conv => lhs; simp [resAV, Tryd.results158]
  · first | rfl | simp [resVal, tmAV, Tm.row, Tm.rows_eq, Cs.rows_eq, AV.nilD, nilDL, strsD]
  · simp [moEnd, memGet]
set_option maxRecDepth 20000 in
set_option maxHeartbeats 16000000 in
theorem cs_simpleA2 (c c1 c2 e : Int) (s : ByteArray) (l done : List Tm) (tk tn : Int) (ta tb : ByteArray) (tvs : List ByteArray) (txs : List Tm) (tcs : List Cs) (xk xn : Int) (xa xb : ByteArray) (xvs : List ByteArray) (xxs : List Tm) (xcs : List Cs) (yk yn : Int) (ya yb : ByteArray) (yvs : List ByteArray) (yxs : List Tm) (ycs : List Cs) (zk zn : Int) (za zb : ByteArray) (zvs : List ByteArray) (zxs : List Tm) (zcs : List Cs) (hk1 : ¬ xk = 1)
    (hfr : CSpec Tryd.prog 170 [.ptr 1000 0] [(1000, mkO c)] (.d (.str s)) [(1000, mkO e)])
    (hx : CSpec Tryd.prog 109 [.ptr 1000 0, tmAV (.mk xk xn xa xb xvs xxs xcs)] [(1000, mkO e)] (tmAV (.mk yk yn ya yb yvs yxs ycs)) [(1000, mkO c1)])
    (hcl : CSpec Tryd.prog 169 [.agg [.d (.int 1), .d (.int 0), .d (.str s), .d (.str .empty), .d (.sl []), .d (.sl []), .d (.sl [])], .ptr 1001 0, .ptr 1002 0, .ptr 1003 0, .ptr 1004 0] [(1000, .blk 117 [.d (.int c1)]), (1001, .blk 115 [.ptr 1000 0]), (1002, .blk 31 [.d (.sl (l.map Tm.row))]), (1003, .blk 31 [.d (.sl (done.map Tm.row))]), (1004, .blk 158 [.clo 157 [.ptr 1005 0]]), (1005, .blk 34 [.d (.int tk), .d (.int tn), .d (.str ta), .d (.str tb), .d (strsD tvs), .d (.sl (txs.map Tm.row)), .d (.sl (tcs.map Cs.row))])] (tmAV (.mk zk zn za zb zvs zxs zcs)) [(1000, .blk 117 [.d (.int c2)]), (1001, .blk 115 [.ptr 1000 0]), (1002, .blk 31 [.d (.sl (l.map Tm.row))]), (1003, .blk 31 [.d (.sl (done.map Tm.row))]), (1004, .blk 158 [.clo 157 [.ptr 1005 0]]), (1005, .blk 34 [.d (.int tk), .d (.int tn), .d (.str ta), .d (.str tb), .d (strsD tvs), .d (.sl (txs.map Tm.row)), .d (.sl (tcs.map Cs.row))])]) :
    CSpec Tryd.prog 158 [.ptr 1000 0, tmAV (.mk xk xn xa xb xvs xxs xcs), .clo 169 [.ptr 1001 0, .ptr 1002 0, .ptr 1003 0, .ptr 1004 0]] [(1000, .blk 117 [.d (.int c)]), (1001, .blk 115 [.ptr 1000 0]), (1002, .blk 31 [.d (.sl (l.map Tm.row))]), (1003, .blk 31 [.d (.sl (done.map Tm.row))]), (1004, .blk 158 [.clo 157 [.ptr 1005 0]]), (1005, .blk 34 [.d (.int tk), .d (.int tn), .d (.str ta), .d (.str tb), .d (strsD tvs), .d (.sl (txs.map Tm.row)), .d (.sl (tcs.map Cs.row))])] (tmAV (.mk 6 0 s .empty [] [.mk yk yn ya yb yvs yxs ycs, .mk zk zn za zb zvs zxs zcs] [])) [(1000, .blk 117 [.d (.int c2)]), (1001, .blk 115 [.ptr 1000 0]), (1002, .blk 31 [.d (.sl (l.map Tm.row))]), (1003, .blk 31 [.d (.sl (done.map Tm.row))]), (1004, .blk 158 [.clo 157 [.ptr 1005 0]]), (1005, .blk 34 [.d (.int tk), .d (.int tn), .d (.str ta), .d (.str tb), .d (strsD tvs), .d (.sl (txs.map Tm.row)), .d (.sl (tcs.map Cs.row))])] := by
  refine CSpec.of Tryd.func158 rfl rfl (Nat.le_of_ble_eq_true rfl) ?_
  show AWp _ _ (endC _ Tryd.f158 _ _) (startC 28 _ _)
  refine AWp.rg [] [] ?_ (hr := by conv => lhs; simp [Tm.row, Tm.rows_eq, Cs.rows_eq, hk1])
  refine AWp.rg [] [] ?_ (hr := by conv => lhs; simp [Tm.row, Tm.rows_eq, Cs.rows_eq, hk1])
  refine AWp.cn ?_
  refine AWp.skip ?_
  refine AWp.rg [] [.c [] [.ptr 1000 0] [(1000, .blk 117 [.d (.int c)])] (.d (.str s)) [(1000, .blk 117 [.d (.int e)])]] ?_ (hr := by conv => lhs; simp [Tm.row, Tm.rows_eq, Cs.rows_eq, hk1])
  refine AWp.rg [] [] ?_ (hr := by conv => lhs; simp [Tm.row, Tm.rows_eq, Cs.rows_eq, hk1])
  repeat (first | refine AWp.seq ?_ | refine AWp.block ?_)
  refine AWp.le (Le.low [] [] (fr := [(0, .ptr 1000 0), (2, .clo 169 [.ptr 1001 0, .ptr 1002 0, .ptr 1003 0, .ptr 1004 0]), (4, .ptr 4 0), (6, .ptr 6 0), (7, .d (.str s)), (8, .ptr 8 0)]) (mem := [(4, some (.blk 34 [.d (.int xk), .d (.int xn), .d (.str xa), .d (.str xb), .d (strsD xvs), .d (.sl (xxs.map Tm.row)), .d (.sl (xcs.map Cs.row))])), (6, some (.blk 34 [.d (.int 0), .d (.int 0), .d (.str ByteArray.empty), .d (.str ByteArray.empty), .lit (.slice none 0 0), .lit (.slice none 0 0), .lit (.slice none 0 0)])), (8, some (.blk 34 [.d (.int 1), .d (.int 0), .d (.str s), .d (.str ByteArray.empty), .d (.sl []), .d (.sl []), .d (.sl [])])), (1000, some (.blk 117 [.d (.int e)])), (1001, some (.blk 115 [.ptr 1000 0])), (1002, some (.blk 31 [.d (.sl (l.map Tm.row))])), (1003, some (.blk 31 [.d (.sl (done.map Tm.row))])), (1004, some (.blk 158 [.clo 157 [.ptr 1005 0]])), (1005, some (.blk 34 [.d (.int tk), .d (.int tn), .d (.str ta), .d (.str tb), .d (strsD tvs), .d (.sl (txs.map Tm.row)), .d (.sl (tcs.map Cs.row))]))]) rfl (by simp) (by simp)) ?_
  refine AWp.dw [7] [.c [] [.ptr 1000 0, .agg [.d (.int xk), .d (.int xn), .d (.str xa), .d (.str xb), .d (strsD xvs), .d (.sl (xxs.map Tm.row)), .d (.sl (xcs.map Cs.row))]] [(1000, .blk 117 [.d (.int e)])] (.agg [.d (.int yk), .d (.int yn), .d (.str ya), .d (.str yb), .d (strsD yvs), .d (.sl (yxs.map Tm.row)), .d (.sl (ycs.map Cs.row))]) [(1000, .blk 117 [.d (.int c1)])], .c [] [.agg [.d (.int 1), .d (.int 0), .d (.str s), .d (.str ByteArray.empty), .d (.sl []), .d (.sl []), .d (.sl [])], .ptr 1001 0, .ptr 1002 0, .ptr 1003 0, .ptr 1004 0] [(1000, .blk 117 [.d (.int c1)]), (1001, .blk 115 [.ptr 1000 0]), (1002, .blk 31 [.d (.sl (l.map Tm.row))]), (1003, .blk 31 [.d (.sl (done.map Tm.row))]), (1004, .blk 158 [.clo 157 [.ptr 1005 0]]), (1005, .blk 34 [.d (.int tk), .d (.int tn), .d (.str ta), .d (.str tb), .d (strsD tvs), .d (.sl (txs.map Tm.row)), .d (.sl (tcs.map Cs.row))])] (.agg [.d (.int zk), .d (.int zn), .d (.str za), .d (.str zb), .d (strsD zvs), .d (.sl (zxs.map Tm.row)), .d (.sl (zcs.map Cs.row))]) [(1000, .blk 117 [.d (.int c2)]), (1001, .blk 115 [.ptr 1000 0]), (1002, .blk 31 [.d (.sl (l.map Tm.row))]), (1003, .blk 31 [.d (.sl (done.map Tm.row))]), (1004, .blk 158 [.clo 157 [.ptr 1005 0]]), (1005, .blk 34 [.d (.int tk), .d (.int tn), .d (.str ta), .d (.str tb), .d (strsD tvs), .d (.sl (txs.map Tm.row)), .d (.sl (tcs.map Cs.row))])]] mixed ?_ (hr := by conv => lhs; simp [Tm.row, Tm.rows_eq, Cs.rows_eq, hk1])
  refine AWp.ret ?_
  try dsimp only [thenQ, blockQ]
  apply endC.ret
  · rfl
  · conv => lhs; simp [resAV, Tryd.results158]
  · first | rfl | simp [resVal, tmAV, Tm.row, Tm.rows_eq, Cs.rows_eq, AV.nilD, nilDL, strsD]
  · simp [moEnd, memGet]
set_option maxRecDepth 20000 in
set_option maxHeartbeats 16000000 in
theorem cs_simpleB1 (c c1 c2 e : Int) (s : ByteArray)  (tk tn : Int) (ta tb : ByteArray) (tvs : List ByteArray) (txs : List Tm) (tcs : List Cs) (xk xn : Int) (xa xb : ByteArray) (xvs : List ByteArray) (xxs : List Tm) (xcs : List Cs) (yk yn : Int) (ya yb : ByteArray) (yvs : List ByteArray) (yxs : List Tm) (ycs : List Cs) (zk zn : Int) (za zb : ByteArray) (zvs : List ByteArray) (zxs : List Tm) (zcs : List Cs) 
    (hcl : CSpec Tryd.prog 159 [tmAV (.mk 1 xn xa xb xvs xxs xcs), .ptr 1001 0, .ptr 1002 0] [(1000, .blk 117 [.d (.int c)]), (1001, .blk 34 [.d (.int tk), .d (.int tn), .d (.str ta), .d (.str tb), .d (strsD tvs), .d (.sl (txs.map Tm.row)), .d (.sl (tcs.map Cs.row))]), (1002, .blk 115 [.ptr 1000 0])] (tmAV (.mk zk zn za zb zvs zxs zcs)) [(1000, .blk 117 [.d (.int c2)]), (1001, .blk 34 [.d (.int tk), .d (.int tn), .d (.str ta), .d (.str tb), .d (strsD tvs), .d (.sl (txs.map Tm.row)), .d (.sl (tcs.map Cs.row))]), (1002, .blk 115 [.ptr 1000 0])]) :
    CSpec Tryd.prog 158 [.ptr 1000 0, tmAV (.mk 1 xn xa xb xvs xxs xcs), .clo 159 [.ptr 1001 0, .ptr 1002 0]] [(1000, .blk 117 [.d (.int c)]), (1001, .blk 34 [.d (.int tk), .d (.int tn), .d (.str ta), .d (.str tb), .d (strsD tvs), .d (.sl (txs.map Tm.row)), .d (.sl (tcs.map Cs.row))]), (1002, .blk 115 [.ptr 1000 0])] (tmAV (.mk zk zn za zb zvs zxs zcs)) [(1000, .blk 117 [.d (.int c2)]), (1001, .blk 34 [.d (.int tk), .d (.int tn), .d (.str ta), .d (.str tb), .d (strsD tvs), .d (.sl (txs.map Tm.row)), .d (.sl (tcs.map Cs.row))]), (1002, .blk 115 [.ptr 1000 0])] := by
  refine CSpec.of Tryd.func158 rfl rfl (Nat.le_of_ble_eq_true rfl) ?_
  show AWp _ _ (endC _ Tryd.f158 _ _) (startC 28 _ _)
  refine AWp.rg [] [] ?_ (hr := by conv => lhs; simp [Tm.row, Tm.rows_eq, Cs.rows_eq])
  refine AWp.rg [] [] ?_ (hr := by conv => lhs; simp [Tm.row, Tm.rows_eq, Cs.rows_eq])
  refine AWp.cy ?_
  refine AWp.rg [] [.c [] [.agg [.d (.int 1), .d (.int xn), .d (.str xa), .d (.str xb), .d (strsD xvs), .d (.sl (xxs.map Tm.row)), .d (.sl (xcs.map Cs.row))], .ptr 1001 0, .ptr 1002 0] [(1000, .blk 117 [.d (.int c)]), (1001, .blk 34 [.d (.int tk), .d (.int tn), .d (.str ta), .d (.str tb), .d (strsD tvs), .d (.sl (txs.map Tm.row)), .d (.sl (tcs.map Cs.row))]), (1002, .blk 115 [.ptr 1000 0])] (.agg [.d (.int zk), .d (.int zn), .d (.str za), .d (.str zb), .d (strsD zvs), .d (.sl (zxs.map Tm.row)), .d (.sl (zcs.map Cs.row))]) [(1000, .blk 117 [.d (.int c2)]), (1001, .blk 34 [.d (.int tk), .d (.int tn), .d (.str ta), .d (.str tb), .d (strsD tvs), .d (.sl (txs.map Tm.row)), .d (.sl (tcs.map Cs.row))]), (1002, .blk 115 [.ptr 1000 0])]] ?_ (hr := by conv => lhs; simp [Tm.row, Tm.rows_eq, Cs.rows_eq])
  refine AWp.ret ?_
  try dsimp only [thenQ, blockQ]
  apply endC.ret
  · rfl
  · conv => lhs; simp [resAV, Tryd.results158]
  · first | rfl | simp [resVal, tmAV, Tm.row, Tm.rows_eq, Cs.rows_eq, AV.nilD, nilDL, strsD]
  · simp [moEnd, memGet]
set_option maxRecDepth 20000 in
set_option maxHeartbeats 16000000 in
theorem cs_simpleB2 (c c1 c2 e : Int) (s : ByteArray)  (tk tn : Int) (ta tb : ByteArray) (tvs : List ByteArray) (txs : List Tm) (tcs : List Cs) (xk xn : Int) (xa xb : ByteArray) (xvs : List ByteArray) (xxs : List Tm) (xcs : List Cs) (yk yn : Int) (ya yb : ByteArray) (yvs : List ByteArray) (yxs : List Tm) (ycs : List Cs) (zk zn : Int) (za zb : ByteArray) (zvs : List ByteArray) (zxs : List Tm) (zcs : List Cs) (hk1 : ¬ xk = 1)
    (hfr : CSpec Tryd.prog 170 [.ptr 1000 0] [(1000, mkO c)] (.d (.str s)) [(1000, mkO e)])
    (hx : CSpec Tryd.prog 109 [.ptr 1000 0, tmAV (.mk xk xn xa xb xvs xxs xcs)] [(1000, mkO e)] (tmAV (.mk yk yn ya yb yvs yxs ycs)) [(1000, mkO c1)])
    (hcl : CSpec Tryd.prog 159 [.agg [.d (.int 1), .d (.int 0), .d (.str s), .d (.str .empty), .d (.sl []), .d (.sl []), .d (.sl [])], .ptr 1001 0, .ptr 1002 0] [(1000, .blk 117 [.d (.int c1)]), (1001, .blk 34 [.d (.int tk), .d (.int tn), .d (.str ta), .d (.str tb), .d (strsD tvs), .d (.sl (txs.map Tm.row)), .d (.sl (tcs.map Cs.row))]), (1002, .blk 115 [.ptr 1000 0])] (tmAV (.mk zk zn za zb zvs zxs zcs)) [(1000, .blk 117 [.d (.int c2)]), (1001, .blk 34 [.d (.int tk), .d (.int tn), .d (.str ta), .d (.str tb), .d (strsD tvs), .d (.sl (txs.map Tm.row)), .d (.sl (tcs.map Cs.row))]), (1002, .blk 115 [.ptr 1000 0])]) :
    CSpec Tryd.prog 158 [.ptr 1000 0, tmAV (.mk xk xn xa xb xvs xxs xcs), .clo 159 [.ptr 1001 0, .ptr 1002 0]] [(1000, .blk 117 [.d (.int c)]), (1001, .blk 34 [.d (.int tk), .d (.int tn), .d (.str ta), .d (.str tb), .d (strsD tvs), .d (.sl (txs.map Tm.row)), .d (.sl (tcs.map Cs.row))]), (1002, .blk 115 [.ptr 1000 0])] (tmAV (.mk 6 0 s .empty [] [.mk yk yn ya yb yvs yxs ycs, .mk zk zn za zb zvs zxs zcs] [])) [(1000, .blk 117 [.d (.int c2)]), (1001, .blk 34 [.d (.int tk), .d (.int tn), .d (.str ta), .d (.str tb), .d (strsD tvs), .d (.sl (txs.map Tm.row)), .d (.sl (tcs.map Cs.row))]), (1002, .blk 115 [.ptr 1000 0])] := by
  refine CSpec.of Tryd.func158 rfl rfl (Nat.le_of_ble_eq_true rfl) ?_
  show AWp _ _ (endC _ Tryd.f158 _ _) (startC 28 _ _)
  refine AWp.rg [] [] ?_ (hr := by conv => lhs; simp [Tm.row, Tm.rows_eq, Cs.rows_eq, hk1])
  refine AWp.rg [] [] ?_ (hr := by conv => lhs; simp [Tm.row, Tm.rows_eq, Cs.rows_eq, hk1])
  refine AWp.cn ?_
  refine AWp.skip ?_
  refine AWp.rg [] [.c [] [.ptr 1000 0] [(1000, .blk 117 [.d (.int c)])] (.d (.str s)) [(1000, .blk 117 [.d (.int e)])]] ?_ (hr := by conv => lhs; simp [Tm.row, Tm.rows_eq, Cs.rows_eq, hk1])
  refine AWp.rg [] [] ?_ (hr := by conv => lhs; simp [Tm.row, Tm.rows_eq, Cs.rows_eq, hk1])
  repeat (first | refine AWp.seq ?_ | refine AWp.block ?_)
  refine AWp.le (Le.low [] [] (fr := [(0, .ptr 1000 0), (2, .clo 159 [.ptr 1001 0, .ptr 1002 0]), (4, .ptr 4 0), (6, .ptr 6 0), (7, .d (.str s)), (8, .ptr 8 0)]) (mem := [(4, some (.blk 34 [.d (.int xk), .d (.int xn), .d (.str xa), .d (.str xb), .d (strsD xvs), .d (.sl (xxs.map Tm.row)), .d (.sl (xcs.map Cs.row))])), (6, some (.blk 34 [.d (.int 0), .d (.int 0), .d (.str ByteArray.empty), .d (.str ByteArray.empty), .lit (.slice none 0 0), .lit (.slice none 0 0), .lit (.slice none 0 0)])), (8, some (.blk 34 [.d (.int 1), .d (.int 0), .d (.str s), .d (.str ByteArray.empty), .d (.sl []), .d (.sl []), .d (.sl [])])), (1000, some (.blk 117 [.d (.int e)])), (1001, some (.blk 34 [.d (.int tk), .d (.int tn), .d (.str ta), .d (.str tb), .d (strsD tvs), .d (.sl (txs.map Tm.row)), .d (.sl (tcs.map Cs.row))])), (1002, some (.blk 115 [.ptr 1000 0]))]) rfl (by simp) (by simp)) ?_
  refine AWp.dw [7] [.c [] [.ptr 1000 0, .agg [.d (.int xk), .d (.int xn), .d (.str xa), .d (.str xb), .d (strsD xvs), .d (.sl (xxs.map Tm.row)), .d (.sl (xcs.map Cs.row))]] [(1000, .blk 117 [.d (.int e)])] (.agg [.d (.int yk), .d (.int yn), .d (.str ya), .d (.str yb), .d (strsD yvs), .d (.sl (yxs.map Tm.row)), .d (.sl (ycs.map Cs.row))]) [(1000, .blk 117 [.d (.int c1)])], .c [] [.agg [.d (.int 1), .d (.int 0), .d (.str s), .d (.str ByteArray.empty), .d (.sl []), .d (.sl []), .d (.sl [])], .ptr 1001 0, .ptr 1002 0] [(1000, .blk 117 [.d (.int c1)]), (1001, .blk 34 [.d (.int tk), .d (.int tn), .d (.str ta), .d (.str tb), .d (strsD tvs), .d (.sl (txs.map Tm.row)), .d (.sl (tcs.map Cs.row))]), (1002, .blk 115 [.ptr 1000 0])] (.agg [.d (.int zk), .d (.int zn), .d (.str za), .d (.str zb), .d (strsD zvs), .d (.sl (zxs.map Tm.row)), .d (.sl (zcs.map Cs.row))]) [(1000, .blk 117 [.d (.int c2)]), (1001, .blk 34 [.d (.int tk), .d (.int tn), .d (.str ta), .d (.str tb), .d (strsD tvs), .d (.sl (txs.map Tm.row)), .d (.sl (tcs.map Cs.row))]), (1002, .blk 115 [.ptr 1000 0])]] mixed ?_ (hr := by conv => lhs; simp [Tm.row, Tm.rows_eq, Cs.rows_eq, hk1])
  refine AWp.ret ?_
  try dsimp only [thenQ, blockQ]
  apply endC.ret
  · rfl
  · conv => lhs; simp [resAV, Tryd.results158]
  · first | rfl | simp [resVal, tmAV, Tm.row, Tm.rows_eq, Cs.rows_eq, AV.nilD, nilDL, strsD]
  · simp [moEnd, memGet]
set_option maxRecDepth 20000 in
set_option maxHeartbeats 16000000 in
theorem cs_pterm1 (done : List Tm) (tk tn : Int) (ta tb : ByteArray) (tvs : List ByteArray) (txs : List Tm) (tcs : List Cs) :
    CSpec Tryd.prog 157 [.d (.sl (done.map Tm.row)), .ptr 1001 0] [(1001, .blk 34 [.d (.int tk), .d (.int tn), .d (.str ta), .d (.str tb), .d (strsD tvs), .d (.sl (txs.map Tm.row)), .d (.sl (tcs.map Cs.row))])] (tmAV (.mk tk tn ta .empty [] done [])) [(1001, .blk 34 [.d (.int tk), .d (.int tn), .d (.str ta), .d (.str tb), .d (strsD tvs), .d (.sl (txs.map Tm.row)), .d (.sl (tcs.map Cs.row))])] := by
  refine CSpec.of Tryd.func157 rfl rfl (Nat.le_of_ble_eq_true rfl) ?_
  show AWp _ _ (endC _ Tryd.f157 _ _) (startC 12 _ _)
  refine AWp.rg [] [] ?_ (hr := by conv => lhs; simp [Tm.row, Tm.rows_eq, Cs.rows_eq])
  refine AWp.rg [] [] ?_ (hr := by conv => lhs; simp [Tm.row, Tm.rows_eq, Cs.rows_eq])
  refine AWp.ret ?_
  try dsimp only [thenQ, blockQ]
  apply endC.ret
  · rfl
  · conv => lhs; simp [resAV, Tryd.results157]
  · first | rfl | simp [resVal, tmAV, Tm.row, Tm.rows_eq, Cs.rows_eq, AV.nilD, nilDL, strsD]
  · simp [moEnd, memGet]
set_option maxRecDepth 20000 in
set_option maxHeartbeats 16000000 in
theorem cs_all1 (c c2 : Int) (x : Tm) (r done dn : List Tm) (tk tn : Int) (ta tb : ByteArray) (tvs : List ByteArray) (txs : List Tm) (tcs : List Cs) (yk yn : Int) (ya yb : ByteArray) (yvs : List ByteArray) (yxs : List Tm) (ycs : List Cs) (zk zn : Int) (za zb : ByteArray) (zvs : List ByteArray) (zxs : List Tm) (zcs : List Cs) (hdl : done.length ≤ 6) (hrl : r.length ≤ 6) (hdn : List.map Tm.row done ++ [[.int yk, .int yn, .str ya, .str yb, strsD yvs, .sl (yxs.map Tm.row), .sl (ycs.map Cs.row)]] = List.map Tm.row dn)
    (hcl : CSpec Tryd.prog 156 [.ptr 1000 0, .d (.sl (r.map Tm.row)), .d (.sl (dn.map Tm.row)), .clo 157 [.ptr 1001 0]] [(1000, mkO c), (1001, .blk 34 [.d (.int tk), .d (.int tn), .d (.str ta), .d (.str tb), .d (strsD tvs), .d (.sl (txs.map Tm.row)), .d (.sl (tcs.map Cs.row))])] (tmAV (.mk zk zn za zb zvs zxs zcs)) [(1000, mkO c2), (1001, .blk 34 [.d (.int tk), .d (.int tn), .d (.str ta), .d (.str tb), .d (strsD tvs), .d (.sl (txs.map Tm.row)), .d (.sl (tcs.map Cs.row))])]) :
    CSpec Tryd.prog 169 [tmAV (.mk yk yn ya yb yvs yxs ycs), .ptr 1001 0, .ptr 1002 0, .ptr 1003 0, .ptr 1004 0] [(1000, .blk 117 [.d (.int c)]), (1001, .blk 115 [.ptr 1000 0]), (1002, .blk 31 [.d (.sl ((x :: r).map Tm.row))]), (1003, .blk 31 [.d (.sl (done.map Tm.row))]), (1004, .blk 158 [.clo 157 [.ptr 1005 0]]), (1005, .blk 34 [.d (.int tk), .d (.int tn), .d (.str ta), .d (.str tb), .d (strsD tvs), .d (.sl (txs.map Tm.row)), .d (.sl (tcs.map Cs.row))])] (tmAV (.mk zk zn za zb zvs zxs zcs)) [(1000, .blk 117 [.d (.int c2)]), (1001, .blk 115 [.ptr 1000 0]), (1002, .blk 31 [.d (.sl ((x :: r).map Tm.row))]), (1003, .blk 31 [.d (.sl (done.map Tm.row))]), (1004, .blk 158 [.clo 157 [.ptr 1005 0]]), (1005, .blk 34 [.d (.int tk), .d (.int tn), .d (.str ta), .d (.str tb), .d (strsD tvs), .d (.sl (txs.map Tm.row)), .d (.sl (tcs.map Cs.row))])] := by
  have hdt : List.take (done.length + 1) (List.map Tm.row dn) = List.map Tm.row dn := by rw [← hdn]; exact List.take_of_length_le (by simp)
  have hl7 : ∀ (i : Nat) (q : List D), (x.row :: List.map Tm.row r)[i]? = some q → q.length = 7 := fun i q h => by
    rcases i with _ | i
    · simp at h; subst h; exact tmrl x
    · simp at h; obtain ⟨a, _, rfl⟩ := h; exact tmrl a
  have hd7 : ∀ (k : Nat) (a : Tm), done[k]? = some a → a.row.length = 7 := fun _ a _ => tmrl a
  have hdr : List.take (r.length + 1 - 1) (List.map Tm.row r) = List.map Tm.row r := List.take_of_length_le (by simp)
  refine CSpec.of Tryd.func169 rfl rfl (Nat.le_of_ble_eq_true rfl) ?_
  show AWp _ _ (endC _ Tryd.f169 _ _) (startC 21 _ _)
  refine AWp.rg [] [] ?_ (hr := by conv => lhs; simp [Tm.row, Tm.rows_eq, Cs.rows_eq])
  refine AWp.dw [11] [.c [(1001, 1005)] [.ptr 1000 0, .d (.sl (r.map Tm.row)), .d (.sl (dn.map Tm.row)), .clo 157 [.ptr 1001 0]] [(1000, .blk 117 [.d (.int c)]), (1001, .blk 34 [.d (.int tk), .d (.int tn), .d (.str ta), .d (.str tb), .d (strsD tvs), .d (.sl (txs.map Tm.row)), .d (.sl (tcs.map Cs.row))])] (.agg [.d (.int zk), .d (.int zn), .d (.str za), .d (.str zb), .d (strsD zvs), .d (.sl (zxs.map Tm.row)), .d (.sl (zcs.map Cs.row))]) [(1000, .blk 117 [.d (.int c2)]), (1001, .blk 34 [.d (.int tk), .d (.int tn), .d (.str ta), .d (.str tb), .d (strsD tvs), .d (.sl (txs.map Tm.row)), .d (.sl (tcs.map Cs.row))])]] mixed ?_ (hr := by conv => lhs; simp [Tm.row, Tm.rows_eq, Cs.rows_eq, hdn, hdr])
  refine AWp.ret ?_
  try dsimp only [thenQ, blockQ]
  apply endC.ret
  · rfl
  · conv => lhs; simp [resAV, Tryd.results169]
  · first | rfl | simp [resVal, tmAV, Tm.row, Tm.rows_eq, Cs.rows_eq, AV.nilD, nilDL, strsD]
  · simp [moEnd, memGet]
set_option maxRecDepth 20000 in
set_option maxHeartbeats 16000000 in
theorem cs_allN (c c2 : Int) (r done : List Tm) (tk tn : Int) (ta tb : ByteArray) (tvs : List ByteArray) (txs : List Tm) (tcs : List Cs) (xk xn : Int) (xa xb : ByteArray) (xvs : List ByteArray) (xxs : List Tm) (xcs : List Cs) (zk zn : Int) (za zb : ByteArray) (zvs : List ByteArray) (zxs : List Tm) (zcs : List Cs) (hrl : r.length ≤ 6)
    (hcl : CSpec Tryd.prog 157 [.d (.sl (done.map Tm.row)), .ptr 1001 0] [(1001, .blk 34 [.d (.int tk), .d (.int tn), .d (.str ta), .d (.str tb), .d (strsD tvs), .d (.sl (txs.map Tm.row)), .d (.sl (tcs.map Cs.row))])] (tmAV (.mk zk zn za zb zvs zxs zcs)) [(1001, .blk 34 [.d (.int tk), .d (.int tn), .d (.str ta), .d (.str tb), .d (strsD tvs), .d (.sl (txs.map Tm.row)), .d (.sl (tcs.map Cs.row))])]) :
    CSpec Tryd.prog 156 [.ptr 1000 0, .d (.sl ([].map Tm.row)), .d (.sl (done.map Tm.row)), .clo 157 [.ptr 1001 0]] [(1000, .blk 117 [.d (.int c)]), (1001, .blk 34 [.d (.int tk), .d (.int tn), .d (.str ta), .d (.str tb), .d (strsD tvs), .d (.sl (txs.map Tm.row)), .d (.sl (tcs.map Cs.row))])] (tmAV (.mk zk zn za zb zvs zxs zcs)) [(1000, .blk 117 [.d (.int c)]), (1001, .blk 34 [.d (.int tk), .d (.int tn), .d (.str ta), .d (.str tb), .d (strsD tvs), .d (.sl (txs.map Tm.row)), .d (.sl (tcs.map Cs.row))])] := by
  refine CSpec.of Tryd.func156 rfl rfl (Nat.le_of_ble_eq_true rfl) ?_
  show AWp _ _ (endC _ Tryd.f156 _ _) (startC 21 _ _)
  refine AWp.rg [] [] ?_ (hr := by conv => lhs; simp [Tm.row, Tm.rows_eq, Cs.rows_eq])
  refine AWp.rg [] [] ?_ (hr := by conv => lhs; simp [Tm.row, Tm.rows_eq, Cs.rows_eq])
  refine AWp.cy ?_
  refine AWp.rg [] [.c [] [.d (.sl (done.map Tm.row)), .ptr 1001 0] [(1001, .blk 34 [.d (.int tk), .d (.int tn), .d (.str ta), .d (.str tb), .d (strsD tvs), .d (.sl (txs.map Tm.row)), .d (.sl (tcs.map Cs.row))])] (.agg [.d (.int zk), .d (.int zn), .d (.str za), .d (.str zb), .d (strsD zvs), .d (.sl (zxs.map Tm.row)), .d (.sl (zcs.map Cs.row))]) [(1001, .blk 34 [.d (.int tk), .d (.int tn), .d (.str ta), .d (.str tb), .d (strsD tvs), .d (.sl (txs.map Tm.row)), .d (.sl (tcs.map Cs.row))])]] ?_ (hr := by conv => lhs; simp [Tm.row, Tm.rows_eq, Cs.rows_eq])
  refine AWp.ret ?_
  try dsimp only [thenQ, blockQ]
  apply endC.ret
  · rfl
  · conv => lhs; simp [resAV, Tryd.results156]
  · first | rfl | simp [resVal, tmAV, Tm.row, Tm.rows_eq, Cs.rows_eq, AV.nilD, nilDL, strsD]
  · simp [moEnd, memGet]
set_option maxRecDepth 20000 in
set_option maxHeartbeats 16000000 in
theorem cs_allC (c c2 : Int) (r done : List Tm) (tk tn : Int) (ta tb : ByteArray) (tvs : List ByteArray) (txs : List Tm) (tcs : List Cs) (xk xn : Int) (xa xb : ByteArray) (xvs : List ByteArray) (xxs : List Tm) (xcs : List Cs) (zk zn : Int) (za zb : ByteArray) (zvs : List ByteArray) (zxs : List Tm) (zcs : List Cs) (hrl : r.length ≤ 6)
    (hcl : CSpec Tryd.prog 158 [.ptr 1000 0, tmAV (.mk xk xn xa xb xvs xxs xcs), .clo 169 [.ptr 1001 0, .ptr 1002 0, .ptr 1003 0, .ptr 1004 0]] [(1000, .blk 117 [.d (.int c)]), (1001, .blk 115 [.ptr 1000 0]), (1002, .blk 31 [.d (.sl ((.mk xk xn xa xb xvs xxs xcs :: r).map Tm.row))]), (1003, .blk 31 [.d (.sl (done.map Tm.row))]), (1004, .blk 158 [.clo 157 [.ptr 1005 0]]), (1005, .blk 34 [.d (.int tk), .d (.int tn), .d (.str ta), .d (.str tb), .d (strsD tvs), .d (.sl (txs.map Tm.row)), .d (.sl (tcs.map Cs.row))])] (tmAV (.mk zk zn za zb zvs zxs zcs)) [(1000, .blk 117 [.d (.int c2)]), (1001, .blk 115 [.ptr 1000 0]), (1002, .blk 31 [.d (.sl ((.mk xk xn xa xb xvs xxs xcs :: r).map Tm.row))]), (1003, .blk 31 [.d (.sl (done.map Tm.row))]), (1004, .blk 158 [.clo 157 [.ptr 1005 0]]), (1005, .blk 34 [.d (.int tk), .d (.int tn), .d (.str ta), .d (.str tb), .d (strsD tvs), .d (.sl (txs.map Tm.row)), .d (.sl (tcs.map Cs.row))])]) :
    CSpec Tryd.prog 156 [.ptr 1000 0, .d (.sl ((.mk xk xn xa xb xvs xxs xcs :: r).map Tm.row)), .d (.sl (done.map Tm.row)), .clo 157 [.ptr 1001 0]] [(1000, .blk 117 [.d (.int c)]), (1001, .blk 34 [.d (.int tk), .d (.int tn), .d (.str ta), .d (.str tb), .d (strsD tvs), .d (.sl (txs.map Tm.row)), .d (.sl (tcs.map Cs.row))])] (tmAV (.mk zk zn za zb zvs zxs zcs)) [(1000, .blk 117 [.d (.int c2)]), (1001, .blk 34 [.d (.int tk), .d (.int tn), .d (.str ta), .d (.str tb), .d (strsD tvs), .d (.sl (txs.map Tm.row)), .d (.sl (tcs.map Cs.row))])] := by
  have hrn : ¬ ((r.length + 1 : Int) = 0) := by omega
  simp only [List.map_cons, Tm.row, Tm.rows_eq, Cs.rows_eq] at hcl
  refine CSpec.of Tryd.func156 rfl rfl (Nat.le_of_ble_eq_true rfl) ?_
  show AWp _ _ (endC _ Tryd.f156 _ _) (startC 21 _ _)
  refine AWp.rg [] [] ?_ (hr := by conv => lhs; simp [Tm.row, Tm.rows_eq, Cs.rows_eq, hrn])
  refine AWp.rg [] [] ?_ (hr := by conv => lhs; simp [Tm.row, Tm.rows_eq, Cs.rows_eq, hrn])
  refine AWp.cn ?_
  refine AWp.skip ?_
  refine AWp.dw [] [.c [(1001, 4), (1002, 5), (1003, 6), (1004, 7), (1005, 1001)] [.ptr 1000 0, .agg [.d (.int xk), .d (.int xn), .d (.str xa), .d (.str xb), .d (strsD xvs), .d (.sl (xxs.map Tm.row)), .d (.sl (xcs.map Cs.row))], .clo 169 [.ptr 1001 0, .ptr 1002 0, .ptr 1003 0, .ptr 1004 0]] [(1000, .blk 117 [.d (.int c)]), (1001, .blk 115 [.ptr 1000 0]), (1002, .blk 31 [.d (.sl ((.mk xk xn xa xb xvs xxs xcs :: r).map Tm.row))]), (1003, .blk 31 [.d (.sl (done.map Tm.row))]), (1004, .blk 158 [.clo 157 [.ptr 1005 0]]), (1005, .blk 34 [.d (.int tk), .d (.int tn), .d (.str ta), .d (.str tb), .d (strsD tvs), .d (.sl (txs.map Tm.row)), .d (.sl (tcs.map Cs.row))])] (.agg [.d (.int zk), .d (.int zn), .d (.str za), .d (.str zb), .d (strsD zvs), .d (.sl (zxs.map Tm.row)), .d (.sl (zcs.map Cs.row))]) [(1000, .blk 117 [.d (.int c2)]), (1001, .blk 115 [.ptr 1000 0]), (1002, .blk 31 [.d (.sl ((.mk xk xn xa xb xvs xxs xcs :: r).map Tm.row))]), (1003, .blk 31 [.d (.sl (done.map Tm.row))]), (1004, .blk 158 [.clo 157 [.ptr 1005 0]]), (1005, .blk 34 [.d (.int tk), .d (.int tn), .d (.str ta), .d (.str tb), .d (strsD tvs), .d (.sl (txs.map Tm.row)), .d (.sl (tcs.map Cs.row))])]] mixed ?_ (hr := by conv => lhs; simp [Tm.row, Tm.rows_eq, Cs.rows_eq, hrn])
  refine AWp.ret ?_
  try dsimp only [thenQ, blockQ]
  apply endC.ret
  · rfl
  · conv => lhs; simp [resAV, Tryd.results156]
  · first | rfl | simp [resVal, tmAV, Tm.row, Tm.rows_eq, Cs.rows_eq, AV.nilD, nilDL, strsD]
  · simp [moEnd, memGet]
end Go.Proofs.YtapiiklnnkkdlaaDoor
