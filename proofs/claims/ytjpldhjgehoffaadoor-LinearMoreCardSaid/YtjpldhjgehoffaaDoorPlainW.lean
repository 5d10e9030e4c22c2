import Derived.Test.YtjpldhjgehoffaaDoorShowP
import Derived.Test.YtjpldhjgehoffaaDoorFuseQ
import Derived.Test.YtjpldhjgehoffaaDoorParseE
namespace Go.Proofs.YtjpldhjgehoffaaDoor
open Go.RowKit
set_option linter.unusedVariables false
set_option linter.unusedSimpArgs false
theorem digit_byte (u : Nat) : ∀ b∈Lib.decDigits u,48≤b.toNat∧b.toNat≤57:=by
 induction u using Nat.strongRecOn with
 | _ u ih =>
  by_cases h : u < 10
  ·rw [Lib.decDigits,dif_pos h]
   intro b hb
   rw [List.mem_singleton.1 hb,UInt8.toNat_ofNat']
   omega
  ·rw [Lib.decDigits,dif_neg h]
   intro b hb
   rcases List.mem_append.1 hb with hb | hb
   ·exact ih (u / 10) (by omega) b hb
   ·rw [List.mem_singleton.1 hb,UInt8.toNat_ofNat']
    omega
theorem digits_len : ∀ (n u : Nat),u < 10 ^ (n + 1)→(Lib.decDigits u).length≤n + 1
 | 0,u,h=>by
  rw [Lib.decDigits,dif_pos (by omega)];simp
 | n + 1,u,h=>by
  by_cases h1 : u < 10
  ·rw [Lib.decDigits,dif_pos h1];simp
  ·have:=digits_len n (u / 10) (by rw [Nat.pow_succ] at h;omega)
   rw [Lib.decDigits,dif_neg h1,List.length_append,List.length_singleton]
   omega
theorem nameB_mk {c : UInt8} {l : List UInt8} (hc : 97≤c.toNat∧c.toNat≤122) (hl : ∀ b∈l,48≤b.toNat∧b.toNat≤57) (h7 : l.length≤7) : Gx ⟨(c :: l).toArray⟩ = true:=by
 have hs : (⟨(c :: l).toArray⟩ : ByteArray).size = l.length + 1:=by simp [ByteArray.size]
 unfold Gx
 rw [Bool.and_eq_true,List.all_eq_true,Bool.and_eq_true,decide_eq_true_eq,decide_eq_true_eq,hs]
 refine ⟨fun j hj=>?_,by omega,by omega⟩
 have hg : (⟨(c :: l).toArray⟩ : ByteArray)[j]? = (c :: l)[j]?:=by
  by_cases hj2 : j < l.length + 1
  ·rw [getElem?_pos _ _ (by rw [hs];exact hj2),List.getElem?_eq_getElem (by simpa using hj2)]
   rfl
  ·rw [getElem?_neg _ _ (by rw [hs];exact hj2),List.getElem?_eq_none (by simp;omega)]
 rw [hg]
 rcases j with _ | j
 ·simp only [List.getElem?_cons_zero]
  unfold chOk
  simp
  omega
 ·rw [List.getElem?_cons_succ]
  cases hq : l[j]? with
  | none=>rfl
  | some b =>
   have:=hl b (List.mem_of_getElem? hq)
   simp only
   unfold chOk
   simp
   omega
theorem Qx8 {i : Int} (h : 0≤i) (h2 : i≤9999999) : (∀ b∈Lib.itoa i,48≤b.toNat∧b.toNat≤57)∧(Lib.itoa i).length≤7:=by
 unfold Lib.itoa
 rw [if_neg (by omega)]
 exact ⟨digit_byte _,digits_len 6 _ (by omega)⟩
theorem vNm_mk (i : Int) : vNm i = ⟨(118 :: Lib.itoa i).toArray⟩:=by
 unfold vNm D5
 apply ByteArray.ext
 rw [ByteArray.data_append]
 simp
theorem wNm_mk (i : Int) : wNm i = ⟨(119 :: Lib.itoa i).toArray⟩:=by
 unfold wNm D5
 apply ByteArray.ext
 rw [ByteArray.data_append]
 simp
theorem vNm_name {i : Int} (h : 0≤i) (h2 : i≤9999999) : Gx (vNm i) = true:=by
 rw [vNm_mk]
 exact nameB_mk (by decide) (Qx8 h h2).1 (Qx8 h h2).2
theorem wNm_name {i : Int} (h : 0≤i) (h2 : i≤9999999) : Gx (wNm i) = true:=by
 rw [wNm_mk]
 exact nameB_mk (by decide) (Qx8 h h2).1 (Qx8 h h2).2
theorem vNm_ne_wNm (i j : Int) : vNm i≠wNm j:=by
 rw [vNm_mk,wNm_mk]
 intro h
 have:=congrArg (fun x : ByteArray=>x.data.toList) h
 simp at this
theorem wNm_inj {a b : Int} (ha : 0≤a) (hb : 0≤b) (h : wNm a = wNm b) : a = b:=itoaB_inj ha hb (Fw h)
theorem twB_of {l : List ByteArray} (h : l.Nodup) : twB l = false:=by
 refine twB_no fun j hj x hx=>?_
 cases hq : hasB (l.take j) x with
 | false=>rfl
 | true =>
  exfalso
  have h1:=Zx.1 hq
  obtain ⟨i,hi,e⟩:=List.mem_take_iff_getElem.1 h1
  have h2:=List.getElem?_eq_some_iff.1 hx
  obtain ⟨h3,h4⟩:=h2
  have:=(List.getElem_inj h).1 (e.trans h4.symm)
  omega
theorem seqV_bad {c : Int} {n : Nat} (h : 0≤c) (h2 : c + n≤9999999) : badB (C9 c n) = false:=by
 unfold badB
 rw [List.any_eq_false]
 intro s hs
 unfold C9 at hs
 obtain ⟨i,hi,rfl⟩:=List.mem_map.1 hs
 have:=List.mem_range.1 hi
 rw [vNm_name (by omega) (by omega)]
 simp
theorem H5 {f : Y3} {k n : Int} {a b : ByteArray} {vs names : List ByteArray} {xs : List Tm} {cs : List Cs} {deep : Int} (h1 : deep≤24) (h2 : 1≤k) (h3 : k≤7) (h4 : Xq k xs.length cs.length = false) (h5 : Y1 f k n a names xs.length = 0)
  (h6 : Tm.Jk f k a names deep 0 xs = 0) (h7 : k = 7→cs.length≠0∧cs.length≤5∧Cs.Jk f names deep [] cs = 0) : (Tm.mk k n a b vs xs cs).wrong f names deep = 0:=by
 rw [Tm.wrong,if_neg (by omega),if_neg (by omega),h4,if_neg (by simp),if_neg (by rw [h5];simp),if_neg (by rw [h6];simp)]
 by_cases hk : k = 7
 ·obtain ⟨g1,g2,g3⟩:=h7 hk
  rw [if_neg (by omega),if_neg (by omega),g3]
 ·rw [if_pos hk]
theorem Yq {f : Y3} {k : Int} {a : ByteArray} {names : List ByteArray} {deep : Int} {i : Nat} {x : Tm} {r : List Tm} : Tm.Jk f k a names deep i (x :: r) = 0↔x.wrong f (if k = 6∧i = 1 then names ++ [a] else names) (deep + 1) = 0∧Tm.Jk f k a names deep (i + 1) r = 0:=by
 rw [Tm.Jk]
 by_cases h : x.wrong f (if k = 6∧i = 1 then names ++ [a] else names) (deep + 1) = 0
 ·rw [if_neg (fun e=>e h)]
  exact ⟨fun e=>⟨h,e⟩,fun e=>e.2⟩
 ·rw [if_pos h]
  exact ⟨fun e=>absurd e h,fun e=>absurd e.1 h⟩
theorem Bq {f : Y3} {names : List ByteArray} {deep : Int} {had : List Int} {t : Int} {ws : List ByteArray} {y : Tm} {r : List Cs} : Cs.Jk f names deep had (.mk t ws y :: r) = 0 ↔
  ((¬ (t < 0∨9 < t))∧had.contains t = false∧twB ws = false∧badB ws = false∧ws.length≤6∧y.wrong f (names ++ ws) (deep + 1) = 0)∧Cs.Jk f names deep (t :: had) r = 0:=by
 have key : Cs.wrongC f names deep had (.mk t ws y) = 0↔((¬ (t < 0∨9 < t))∧had.contains t = false∧twB ws = false∧badB ws = false∧ws.length≤6∧y.wrong f (names ++ ws) (deep + 1) = 0):=by
  rw [Cs.wrongC]
  by_cases g1 : t < 0∨9 < t
  ·rw [if_pos g1];exact ⟨fun e=>by omega,fun e=>absurd g1 e.1⟩
  rw [if_neg g1]
  by_cases g2 : (had.contains t || twB ws || badB ws) = true
  ·rw [if_pos g2]
   refine ⟨fun e=>by omega,fun e=>?_⟩
   rw [e.2.1,e.2.2.1,e.2.2.2.1] at g2
   simp at g2
  rw [if_neg g2]
  simp only [Bool.or_eq_true,not_or,Bool.not_eq_true] at g2
  by_cases g3 : 6 < ws.length
  ·rw [if_pos g3];exact ⟨fun e=>by omega,fun e=>absurd e.2.2.2.2.1 (by omega)⟩
  rw [if_neg g3]
  exact ⟨fun e=>⟨g1,g2.1.1,g2.1.2,g2.2,by omega,e⟩,fun e=>e.2.2.2.2.2⟩
 rw [Cs.Jk]
 by_cases h : Cs.wrongC f names deep had (.mk t ws y) = 0
 ·rw [if_neg (fun e=>e h)]
  exact ⟨fun e=>⟨key.1 h,e⟩,fun e=>e.2⟩
 ·rw [if_pos h]
  exact ⟨fun e=>absurd e h,fun e=>absurd (key.2 e.1) h⟩
theorem nowP_add (ps : Ps) (p : ByteArray×ByteArray) (s : ByteArray) : nowP (ps ++ [p]) s = if p.1 = s then p.2 else nowP ps s:=by
 unfold nowP
 rw [List.foldl_append]
 rfl
def RnR (names names' : List ByteArray) (ps : Ps) : Prop:=∀ s∈names,nowP ps s∈names'
theorem RnR.one {names names' : List ByteArray} {ps : Ps} (h : RnR names names' ps) (a v : ByteArray) : RnR (names ++ [a]) (names' ++ [v]) (ps ++ [(a,v)]):=fun s hs=>by
 rw [nowP_add]
 split
 ·exact List.mem_append_right _ (List.mem_singleton.2 rfl)
 ·rename_i hne
  rcases List.mem_append.1 hs with hs | hs
  ·exact List.mem_append_left _ (h s hs)
  ·exact absurd (List.mem_singleton.1 hs).symm hne
theorem RnR.more {names names' : List ByteArray} {ps : Ps} (h : RnR names names' ps) : ∀ (ws vs : List ByteArray),ws.length = vs.length→RnR (names ++ ws) (names' ++ vs) (ps ++ ws.zip vs):=by
 intro ws
 induction ws generalizing names names' ps with
 | nil =>
  intro vs hl
  rcases vs with _ | ⟨v,vs⟩
  ·simpa using h
  ·simp at hl
 | cons w ws ih =>
  intro vs hl
  rcases vs with _ | ⟨v,vs⟩
  ·simp at hl
  ·have:=ih (h.one w v) vs (by simpa using hl)
   simpa [List.append_assoc] using this
theorem rn_wrong (A : Y3) : ∀ (d : Nat) (t : Tm) (names names' : List ByteArray) (ps : Ps) (c deep : Int),t.Rt d→t.wrong A names deep = 0→0≤c→c + t.bd.length≤9999999→RnR names names' ps→(t.rn ps c).1.wrong A names' deep = 0:=by
 intro d
 induction d with
 | zero=>intro t _ _ _ _ _ h;exact h.elim
 | succ d ih =>
 intro t names names' ps c deep hR hw h0 hb hr
 have hbd:=bd_rn (d + 1) t ps c hR h0 (by omega)
 obtain ⟨k,n,a,b,vs,xs,cs⟩:=t
 have hR':=hR
 obtain ⟨hk,hmany,_,hx,hc⟩:=hR'
 obtain ⟨h1,h2,h3,h4,h5,h6,h7⟩:=Gw hw
 rw [Tm.rn]
 by_cases hk1 : k = 1
 ·subst hk1
  rw [if_pos rfl]
  unfold Xq at hmany
  simp at hmany
  obtain ⟨rfl,rfl⟩:=hmany
  refine H5 h1 h2 h3 h4 ?_ rfl (fun h=>by omega)
  unfold Y1 at h5 ⊢
  rw [if_pos rfl] at h5 ⊢
  split at h5
  ·rename_i hh
   rw [if_pos (Zx.2 (hr a (Zx.1 hh)))]
  ·cases h5
 rw [if_neg hk1]
 by_cases hk6 : k = 6
 ·obtain ⟨x,y,rfl,rfl⟩:=rt_let hR hk6
  subst hk6
  have hl : (Tm.mk 6 n a b vs [x,y] []).bd.length = x.bd.length + (1 + y.bd.length):=by simp [Tm.bd,Tm.bdL,Cs.bdL];omega
  rw [hl] at hb
  push_cast at hb
  rw [Yq,Yq,if_neg (by omega),if_pos (by omega)] at h6
  obtain ⟨_,e2⟩:=bd_rn d x ps c (hx x (by simp)) h0 (by omega)
  have hw1 : wr (c + x.bd.length + 1) = c + x.bd.length + 1:=wr_of (by omega) (by omega)
  have g1:=ih x names names' ps c (deep + 1) (hx x (by simp)) h6.1 h0 (by omega) hr
  have g2:=ih y (names ++ [a]) (names' ++ [vNm (c + x.bd.length + 1)]) (ps ++ [(a,vNm (c + x.bd.length + 1))]) (c + x.bd.length + 1) (deep + 1) (hx y (by simp)) h6.2.1 (by omega) (by omega) (hr.one a _)
  have hE : Tm.rns 6 a ps 0 [x,y] a c = ([(x.rn ps c).1,(y.rn (ps ++ [(a,vNm (c + x.bd.length + 1))]) (c + x.bd.length + 1)).1],vNm (c + x.bd.length + 1),(y.rn (ps ++ [(a,vNm (c + x.bd.length + 1))]) (c + x.bd.length + 1)).2):=by simp [Tm.rns,e2,hw1]
  rw [hE,Cs.rnL]
  dsimp only
  refine H5 h1 h2 h3 rfl ?_ ?_ (fun h=>by omega)
  ·unfold Y1
   rw [if_neg (by omega),if_neg (by omega),if_neg (by omega),if_neg (by omega),if_pos rfl,vNm_name (by omega) (by omega)]
   rfl
  ·rw [Yq,Yq,if_neg (by omega),if_pos (by omega)]
   exact ⟨g1,g2,rfl⟩
 ·have hL : ∀ (ys : List Tm) (i : Nat) (nm : ByteArray) (c : Int),(∀ y∈ys,y∈xs)→Tm.Jk A k a names deep i ys = 0→0≤c→c + (Tm.bdL ys).length≤9999999→(∀ a',Tm.Jk A k a' names' deep i (Tm.rns k a ps i ys nm c).1 = 0)∧(Tm.rns k a ps i ys nm c).1.length = ys.length∧(Tm.rns k a ps i ys nm c).2.2 = c + (Tm.bdL ys).length:=by
   intro ys
   induction ys with
   | nil=>intro i nm c _ _ _ _;exact ⟨fun _=>rfl,rfl,by simp [Tm.rns,Tm.bdL]⟩
   | cons y r ih2 =>
    intro i nm c hm hwr h0 hb
    rw [Tm.bdL,List.length_append] at hb ⊢
    push_cast at hb ⊢
    rw [Yq,if_neg (fun h=>hk6 h.1)] at hwr
    have hy:=hx y (hm y (List.mem_cons_self ..))
    obtain ⟨_,e2⟩:=bd_rn d y ps c hy h0 (by omega)
    obtain ⟨g1,g2,g3⟩:=ih2 (i + 1) nm (c + y.bd.length) (fun z hz=>hm z (List.mem_cons_of_mem _ hz)) hwr.2 (by omega) (by omega)
    rw [Tm.rns,if_neg fun h=>hk6 h.1,e2]
    refine ⟨fun a'=>?_,by simp [g2],by dsimp only;rw [g3];omega⟩
    rw [Yq,if_neg (fun h=>hk6 h.1)]
    exact ⟨ih y names names' ps c (deep + 1) hy hwr.1 h0 (by omega) hr,g1 a'⟩
  have hC : k = 7→∀ (ys : List Cs) (had : List Int) (c : Int),(∀ y∈ys,y∈cs)→Cs.Jk A names deep had ys = 0→0≤c→c + (Cs.bdL ys).length≤9999999→Cs.Jk A names' deep had (Cs.rnL ys ps c).1 = 0∧(Cs.rnL ys ps c).1.length = ys.length:=by
   intro hk7 ys
   induction ys with
   | nil=>intro had c _ _ _ _;exact ⟨rfl,rfl⟩
   | cons y r ih2 =>
    intro had c hm hwr h0 hb
    have hy:=hm y (List.mem_cons_self ..)
    obtain ⟨t,ws,y⟩:=y
    rw [Cs.bdL,Cs.bd,List.length_append,List.length_append] at hb
    push_cast at hb
    rw [Bq] at hwr
    obtain ⟨⟨w1,w2,w3,w4,w5,w6⟩,w7⟩:=hwr
    obtain ⟨e1,e2⟩:=Tw ws c h0 (by omega)
    obtain ⟨_,e3⟩:=bd_rn d y (ps ++ ws.zip (J5 ws c)) (c + ws.length) (hc _ hy).2 (by omega) (by omega)
    obtain ⟨g1,g2⟩:=ih2 (t :: had) (c + ws.length + y.bd.length) (fun z hz=>hm z (List.mem_cons_of_mem _ hz)) w7 (by omega) (by omega)
    have g3:=ih y (names ++ ws) (names' ++ J5 ws c) (ps ++ ws.zip (J5 ws c)) (c + ws.length) (deep + 1) (hc _ hy).2 w6 (by omega) (by omega) (hr.more ws _ (U4 ws c).symm)
    rw [Cs.rnL,Cs.rn,e2,e3]
    refine ⟨?_,by simp [g2]⟩
    dsimp only
    rw [Bq]
    exact ⟨⟨w1,w2,by rw [e1];exact twB_of (seqV_nodup h0 _),by rw [e1];exact seqV_bad h0 (by omega),by rw [U4];exact w5,g3⟩,g1⟩
  have hl : (Tm.mk k n a b vs xs cs).bd.length = (Tm.bdL xs).length + (Cs.bdL cs).length:=by simp [Tm.bd,hk6]
  rw [hl] at hb
  push_cast at hb
  obtain ⟨g1,g2,g3⟩:=hL xs 0 a c (fun _ h=>h) h6 h0 (by omega)
  have hno:=rns_no hk6 a ps xs 0 a c
  rw [hno,g3]
  by_cases hk7 : k = 7
  ·obtain ⟨q1,q2,q3⟩:=h7 hk7
   obtain ⟨g4,g5⟩:=hC hk7 cs [] (c + (Tm.bdL xs).length) (fun _ h=>h) q3 (by omega) (by omega)
   refine H5 h1 h2 h3 (by rw [g2,g5];exact h4) ?_ (g1 a) (fun _=>⟨by rw [g5];exact q1,by rw [g5];exact q2,g4⟩)
   subst hk7
   rfl
  ·have hcs : cs = []:=by
    unfold Xq at hmany
    simp only [Bool.or_eq_false_iff,Bool.and_eq_false_iff,decide_eq_false_iff_not] at hmany
    rcases hmany.2 with h | h
    ·exact absurd hk7 h
    ·exact List.eq_nil_of_length_eq_zero (by omega)
   subst hcs
   refine H5 h1 h2 h3 (by rw [g2];exact h4) ?_ (g1 a) (fun h=>absurd h hk7)
   rw [g2]
   unfold Y1 at h5 ⊢
   rw [if_neg hk1] at h5 ⊢
   exact h5
theorem var_wrong {A : Y3} {names names' : List ByteArray} {deep deep' : Int} {t : Tm} {d : Nat} (hR : t.Rt d) (h1 : t.tk = 1) (hw : t.wrong A names deep = 0) (hn : ∀ s∈names,s∈names') (hd : deep'≤24) : t.wrong A names' deep' = 0:=by
 obtain ⟨k,n,a,b,vs,xs,cs⟩:=t
 simp only [Tm.tk] at h1
 subst h1
 rcases d with _ | d
 ·exact hR.elim
 obtain ⟨_,hmany,_⟩:=hR
 obtain ⟨_,h2,h3,h4,h5,_⟩:=Gw hw
 unfold Xq at hmany
 simp at hmany
 obtain ⟨rfl,rfl⟩:=hmany
 refine H5 hd h2 h3 h4 ?_ rfl (fun h=>by omega)
 unfold Y1 at h5 ⊢
 rw [if_pos rfl] at h5 ⊢
 split at h5
 ·rename_i hh
  rw [if_pos (Zx.2 (hn a (Zx.1 hh)))]
 ·cases h5
theorem varT_wrong {A : Y3} {names : List ByteArray} {deep : Int} {s : ByteArray} (h : s∈names) (hd : deep≤24) : (varT s).wrong A names deep = 0:=by
 refine H5 hd (by omega) (by omega) rfl ?_ rfl (fun h=>by omega)
 unfold Y1
 rw [if_pos rfl,if_pos (Zx.2 h)]
theorem pl_cnt : ∀ (d : Nat) (t : Tm) (c : Int),t.Rt d→0≤c→c + t.sz < 9223372036854775807→c≤(t.pl c).2∧(t.pl c).2 + 1≤c + t.sz:=by
 intro d
 induction d with
 | zero=>intro t _ h;exact h.elim
 | succ d ih =>
 intro t c hR h0 hb
 obtain ⟨k,n,a,b,vs,xs,cs⟩:=t
 obtain ⟨_,_,_,hx,hc⟩:=hR
 simp only [Tm.sz] at hb ⊢
 push_cast at hb ⊢
 have hA : ∀ (ys : List Tm) (c : Int),(∀ y∈ys,y∈xs)→0≤c→c + 1 + (Tm.szs ys : Nat) < 9223372036854775807→c≤(Tm.ats ys c).2.2∧(Tm.ats ys c).2.2≤c + (Tm.szs ys : Nat):=by
  intro ys
  induction ys with
  | nil=>intro c _ _ _;simp [Tm.ats,Tm.szs]
  | cons y r ih2 =>
   intro c hm h0 hb
   simp only [Tm.szs] at hb ⊢
   push_cast at hb ⊢
   have hsz:=sz_pos y
   have hw : wr (c + 1) = c + 1:=wr_of (by omega) (by omega)
   rw [Tm.ats]
   split
   ·have:=ih2 c (fun z hz=>hm z (List.mem_cons_of_mem _ hz)) h0 (by omega)
    dsimp only;omega
   ·have h2:=ih y (c + 1) (hx y (hm y (List.mem_cons_self ..))) (by omega) (by omega)
    rw [hw]
    have:=ih2 (y.pl (c + 1)).2 (fun z hz=>hm z (List.mem_cons_of_mem _ hz)) (by omega) (by omega)
    dsimp only;omega
 have hL : ∀ (ys : List Tm) (c : Int),(∀ y∈ys,y∈xs)→0≤c→c + (Tm.szs ys : Nat) < 9223372036854775807→c≤(Tm.plL ys c).2∧(Tm.plL ys c).2≤c + (Tm.szs ys : Nat):=by
  intro ys
  induction ys with
  | nil=>intro c _ _ _;simp [Tm.plL,Tm.szs]
  | cons y r ih2 =>
   intro c hm h0 hb
   simp only [Tm.szs] at hb ⊢
   push_cast at hb ⊢
   have h1:=ih y c (hx y (hm y (List.mem_cons_self ..))) h0 (by omega)
   have:=ih2 (y.pl c).2 (fun z hz=>hm z (List.mem_cons_of_mem _ hz)) (by omega) (by omega)
   rw [Tm.plL]
   dsimp only;omega
 have hC : ∀ (ys : List Cs) (c : Int),(∀ y∈ys,y∈cs)→0≤c→c + (Cs.szs ys : Nat) < 9223372036854775807→c≤(Cs.plL ys c).2∧(Cs.plL ys c).2≤c + (Cs.szs ys : Nat):=by
  intro ys
  induction ys with
  | nil=>intro c _ _ _;simp [Cs.plL,Cs.szs]
  | cons y r ih2 =>
   intro c hm h0 hb
   have hy:=hc y (hm y (List.mem_cons_self ..))
   obtain ⟨t,ws,y⟩:=y
   simp only [Cs.szs,Cs.sz] at hb ⊢
   push_cast at hb ⊢
   have h1:=ih y c hy.2 h0 (by omega)
   have:=ih2 (y.pl c).2 (fun z hz=>hm z (List.mem_cons_of_mem _ hz)) (by omega) (by omega)
   rw [Cs.plL,Cs.pl]
   dsimp only;omega
 rw [Tm.pl]
 split
 ·have:=hA xs c (fun _ h=>h) h0 (by omega)
  dsimp only;omega
 split
 ·have:=hL xs c (fun _ h=>h) h0 (by omega)
  dsimp only;omega
 split
 ·have h1:=hA xs c (fun _ h=>h) h0 (by omega)
  have:=hC cs (Tm.ats xs c).2.2 (fun _ h=>h) (by omega) (by omega)
  dsimp only;omega
 ·dsimp only;omega
theorem pl_wrong (A : Y3) : ∀ (d : Nat) (t : Tm) (names names' : List ByteArray) (c deep deep' : Int),t.Rt d→t.wrong A names deep = 0→(∀ s∈names,s∈names')→0≤c→c + t.sz≤9999999→deep'≤24 - 7 * (d : Int)→(t.pl c).1.wrong A names' deep' = 0:=by
 intro d
 induction d with
 | zero=>intro t _ _ _ _ _ h;exact h.elim
 | succ d ih =>
 intro t names names' c deep deep' hR hw hn h0 hb hd
 have hR2:=hR
 obtain ⟨k,n,a,b,vs,xs,cs⟩:=t
 obtain ⟨hk,hmany,h6c,hx,hc⟩:=hR
 obtain ⟨h1,h2,h3,h4,h5,h6,h7⟩:=Gw hw
 simp only [Tm.sz] at hb
 push_cast at hb hd
 -- what lies around
 have hA : ∀ (ys : List Tm) (i : Nat) (c : Int) (names' : List ByteArray) (deep' : Int),(∀ y∈ys,y∈xs)→k≠6→Tm.Jk A k a names deep i ys = 0→(∀ s∈names,s∈names')→0≤c→c + 1 + (Tm.szs ys : Nat)≤9999999→deep' + ys.length≤24 - 7 * (d : Int) →
   ∀ inner : Tm,(∀ (names'' : List ByteArray) (deep'' : Int),(∀ s∈names',s∈names'')→deep''≤deep' + ys.length→(∀ (x : Tm),x∈(Tm.ats ys c).1→∀ deep≤24,x.wrong A names'' deep = 0)→inner.wrong A names'' deep'' = 0)→(around (Tm.ats ys c).2.1 inner).wrong A names' deep' = 0:=by
  intro ys
  induction ys with
  | nil=>intro i c names' deep' _ _ _ _ _ _ _ inner hi;exact hi names' deep' (fun _ h=>h) (by simp) (fun x h=>by simp [Tm.ats] at h)
  | cons y r ih2 =>
   intro i c names' deep' hm hk6 hwr hn h0 hb hd inner hi
   simp only [Tm.szs] at hb
   rw [List.length_cons] at hd hi
   push_cast at hb hd hi
   rw [Yq,if_neg (fun h=>hk6 h.1)] at hwr
   have hy:=hx y (hm y (List.mem_cons_self ..))
   have hsz:=sz_pos y
   rw [Tm.ats] at hi ⊢
   by_cases hv : y.tk = 1
   ·rw [if_pos hv] at hi ⊢
    dsimp only at hi ⊢
    refine ih2 (i + 1) c names' deep' (fun z hz=>hm z (List.mem_cons_of_mem _ hz)) hk6 hwr.2 hn h0 (by omega) (by omega) inner fun names'' deep'' g1 g2 g3=>?_
    refine hi names'' deep'' g1 (by omega) fun x hx' e he=>?_
    rcases List.mem_cons.1 hx' with rfl | hx'
    ·exact var_wrong hy hv hwr.1 (fun s hs=>g1 s (hn s hs)) he
    ·exact g3 x hx' e he
   ·rw [if_neg hv] at hi ⊢
    have hw1 : wr (c + 1) = c + 1:=wr_of (by omega) (by omega)
    rw [hw1] at hi ⊢
    have hcn:=pl_cnt d y (c + 1) hy (by omega) (by omega)
    dsimp only at hi ⊢
    rw [around]
    have hy1:=ih y names names' (c + 1) (deep + 1) (deep' + 1) hy hwr.1 hn (by omega) (by omega) (by omega)
    refine H5 (by omega) (by omega) (by omega) rfl ?_ ?_ (fun h=>by omega)
    ·unfold Y1
     rw [if_neg (by omega),if_neg (by omega),if_neg (by omega),if_neg (by omega),if_pos rfl,wNm_name (by omega) (by omega)]
     rfl
    ·rw [Yq,Yq,if_neg (by omega),if_pos (by omega)]
     refine ⟨hy1,?_,rfl⟩
     refine ih2 (i + 1) (y.pl (c + 1)).2 (names' ++ [wNm (c + 1)]) (deep' + 1) (fun z hz=>hm z (List.mem_cons_of_mem _ hz)) hk6 hwr.2 (fun s hs=>List.mem_append_left _ (hn s hs)) (by omega) (by omega) (by omega) inner fun names'' deep'' g1 g2 g3=>?_
     refine hi names'' deep'' (fun s hs=>g1 s (List.mem_append_left _ hs)) (by omega) fun x hx' e he=>?_
     rcases List.mem_cons.1 hx' with rfl | hx'
     ·exact varT_wrong (g1 _ (List.mem_append_right _ (List.mem_singleton.2 rfl))) he
     ·exact g3 x hx' e he
 have hall : ∀ (names'' : List ByteArray) (a' : ByteArray) (deep : Int) (l : List Tm) (i : Nat),k≠6→(∀ x∈l,∀ deep≤24,x.wrong A names'' deep = 0)→deep + 1≤24→Tm.Jk A k a' names'' deep i l = 0:=by
  intro names'' a' deep l
  induction l with
  | nil=>intro _ _ _ _;rfl
  | cons x r ih2 =>
   intro i hk6 hl hd
   rw [Yq,if_neg (fun h=>hk6 h.1)]
   exact ⟨hl x (List.mem_cons_self ..) _ hd,ih2 (i + 1) hk6 (fun z hz=>hl z (List.mem_cons_of_mem _ hz)) hd⟩
 have hlen:=ats_len xs c
 have hxl : (xs.length : Int)≤6:=by omega
 rw [Tm.pl]
 by_cases k3 : k = 3∨k = 4∨k = 5
 ·rw [if_pos k3]
  have hcs : cs = []:=by
   unfold Xq at hmany
   simp only [Bool.or_eq_false_iff,Bool.and_eq_false_iff,decide_eq_false_iff_not] at hmany
   rcases hmany.2 with h | h
   ·exact absurd (show k≠7 by omega) h
   ·exact List.eq_nil_of_length_eq_zero (by omega)
  subst hcs
  refine hA xs 0 c names' deep' (fun _ h=>h) (by omega) h6 hn h0 (by omega) (by omega) _ fun names'' deep'' g1 g2 g3=>?_
  refine H5 (by omega) h2 h3 (by rw [hlen];exact h4) ?_ (hall names'' a deep'' _ 0 (by omega) g3 (by omega)) (fun h=>by omega)
  rw [hlen]
  unfold Y1 at h5 ⊢
  rw [if_neg (by omega)] at h5 ⊢
  exact h5
 rw [if_neg k3]
 by_cases k6 : k = 6
 ·rw [if_pos k6]
  obtain ⟨x,y,rfl,rfl⟩:=rt_let hR2 k6
  subst k6
  rw [Yq,Yq,if_neg (by omega),if_pos (by omega)] at h6
  simp only [Tm.szs] at hb
  push_cast at hb
  have hcn:=pl_cnt d x c (hx x (by simp)) h0 (by omega)
  have g1:=ih x names names' c (deep + 1) (deep' + 1) (hx x (by simp)) h6.1 hn h0 (by omega) (by omega)
  have g2:=ih y (names ++ [a]) (names' ++ [a]) (x.pl c).2 (deep + 1) (deep' + 1) (hx y (by simp)) h6.2.1 (fun s hs=>by
   rcases List.mem_append.1 hs with h | h
   ·exact List.mem_append_left _ (hn s h)
   ·exact List.mem_append_right _ h) (by omega) (by omega) (by omega)
  rw [Tm.plL,Tm.plL,Tm.plL]
  dsimp only
  refine H5 (by omega) (by omega) (by omega) rfl ?_ ?_ (fun h=>by omega)
  ·unfold Y1 at h5 ⊢
   rw [if_neg (by omega),if_neg (by omega),if_neg (by omega),if_neg (by omega),if_pos rfl] at h5 ⊢
   exact h5
  ·rw [Yq,Yq,if_neg (by omega),if_pos (by omega)]
   exact ⟨g1,g2,rfl⟩
 rw [if_neg k6]
 by_cases k7 : k = 7
 ·rw [if_pos k7]
  obtain ⟨q1,q2,q3⟩:=h7 k7
  have hxl1 : xs.length = 1:=by
   subst k7
   unfold Xq at hmany
   simp at hmany
   exact hmany
  have hcn : 0≤(Tm.ats xs c).2.2∧(Tm.ats xs c).2.2≤c + (Tm.szs xs : Nat):=by
   match xs,hxl1,hx with
   | [x],_,hx =>
    have hsz:=sz_pos x
    simp only [Tm.szs] at hb ⊢
    push_cast at hb ⊢
    rw [Tm.ats]
    split
    ·dsimp only;rw [Tm.ats];dsimp only;omega
    ·have hw1 : wr (c + 1) = c + 1:=wr_of (by omega) (by omega)
     have:=pl_cnt d x (c + 1) (hx x (by simp)) (by omega) (by omega)
     rw [hw1]
     dsimp only;rw [Tm.ats];dsimp only;omega
  have hC : ∀ (ys : List Cs) (had : List Int) (c : Int) (names'' : List ByteArray) (deep'' : Int),(∀ y∈ys,y∈cs)→Cs.Jk A names deep had ys = 0→(∀ s∈names,s∈names'')→0≤c→c + (Cs.szs ys : Nat)≤9999999→deep'' + 1≤24 - 7 * (d : Int)→Cs.Jk A names'' deep'' had (Cs.plL ys c).1 = 0∧(Cs.plL ys c).1.length = ys.length:=by
   intro ys
   induction ys with
   | nil=>intro had c _ _ _ _ _ _ _;exact fun _=>⟨rfl,rfl⟩
   | cons y r ih2 =>
    intro had c names'' deep'' hm hwr hn h0 hb hd
    have hy:=hc y (hm y (List.mem_cons_self ..))
    obtain ⟨t,ws,y⟩:=y
    simp only [Cs.szs,Cs.sz] at hb
    push_cast at hb
    rw [Bq] at hwr
    obtain ⟨⟨w1,w2,w3,w4,w5,w6⟩,w7⟩:=hwr
    have hcn:=pl_cnt d y c hy.2 h0 (by omega)
    obtain ⟨g1,g2⟩:=ih2 (t :: had) (y.pl c).2 names'' deep'' (fun z hz=>hm z (List.mem_cons_of_mem _ hz)) w7 hn (by omega) (by omega) hd
    have g3:=ih y (names ++ ws) (names'' ++ ws) c (deep + 1) (deep'' + 1) hy.2 w6 (fun s hs=>by
     rcases List.mem_append.1 hs with h | h
     ·exact List.mem_append_left _ (hn s h)
     ·exact List.mem_append_right _ h) h0 (by omega) hd
    rw [Cs.plL,Cs.pl]
    refine ⟨?_,by simp [g2]⟩
    dsimp only
    rw [Bq]
    exact ⟨⟨w1,w2,w3,w4,w5,g3⟩,g1⟩
  refine hA xs 0 c names' deep' (fun _ h=>h) (by omega) h6 hn h0 (by omega) (by omega) _ fun names'' deep'' g1 g2 g3=>?_
  obtain ⟨g4,g5⟩:=hC cs [] (Tm.ats xs c).2.2 names'' deep'' (fun _ h=>h) q3 (fun s hs=>g1 s (hn s hs)) (by omega) (by omega) (by omega)
  have h8:=hall names'' .empty deep'' (Tm.ats xs c).1 0 (by omega) g3 (by omega)
  subst k7
  exact H5 (by omega) (by omega) (by omega) (by rw [hlen,g5];exact h4) rfl h8 (fun _=>⟨by rw [g5];exact q1,by rw [g5];exact q2,g4⟩)
 ·rw [if_neg k7]
  have hk12 : k = 1∨k = 2:=by omega
  rcases hk12 with rfl | rfl
  ·exact var_wrong (d:=d + 1) hR2 rfl hw hn (by omega)
  ·have hnil : xs = []∧cs = []:=by
    unfold Xq at hmany
    simp at hmany
    exact hmany
   obtain ⟨rfl,rfl⟩:=hnil
   exact H5 (by omega) h2 h3 h4 h5 rfl (fun h=>by omega)
def RnEv (names : List ByteArray) (ps : Ps) (c : Int) (env env' : Env) : Prop:=∀ s∈names,(∃ i,1≤i∧i≤c∧nowP ps s = vNm i)∧envVal env' (nowP ps s) = envVal env s
theorem Ej (a : ByteArray) (u : Vl) (env : Env) (s : ByteArray) : envVal ((a,u) :: env) s = if a = s then u else envVal env s:=by
 unfold envVal
 rw [D8]
 split <;> rfl
theorem RnEv.mono {names : List ByteArray} {ps : Ps} {c e : Int} {env env' : Env} (h : RnEv names ps c env env') (he : c≤e) : RnEv names ps e env env':=fun s hs=>by
 obtain ⟨⟨i,h1,h2,h3⟩,h4⟩:=h s hs
 exact ⟨⟨i,h1,by omega,h3⟩,h4⟩
theorem RnEv.one {names : List ByteArray} {ps : Ps} {c : Int} {env env' : Env} (h : RnEv names ps c env env') (h0 : 0≤c) (a : ByteArray) (u : Vl) : RnEv (names ++ [a]) (ps ++ [(a,vNm (c + 1))]) (c + 1) ((a,u) :: env) ((vNm (c + 1),u) :: env'):=fun s hs=>by
 rw [nowP_add,Ej,Ej]
 by_cases e : a = s
 ·rw [if_pos e,if_pos e,if_pos rfl]
  exact ⟨⟨c + 1,by omega,by omega,rfl⟩,rfl⟩
 ·rw [if_neg e,if_neg e]
  have hs' : s∈names:=(List.mem_append.1 hs).elim id fun h=>absurd (List.mem_singleton.1 h).symm e
  obtain ⟨⟨i,h1,h2,h3⟩,h4⟩:=h s hs'
  rw [if_neg (fun q=>by
   rw [h3] at q
   have:=vNm_inj (by omega) (by omega) q
   omega)]
  exact ⟨⟨i,h1,by omega,h3⟩,h4⟩
theorem Qj7 (w : ByteArray) (v : Vl) (ws : List ByteArray) (vs : List Vl) (env : Env) : O6 (w :: ws) (v :: vs) env = O6 ws vs ((w,v) :: env):=by
 unfold O6
 rw [List.zip_cons_cons,List.reverse_cons,List.append_assoc]
 rfl
theorem RnEv.more : ∀ {ws : List ByteArray} {vs : List Vl} {names : List ByteArray} {ps : Ps} {c : Int} {env env' : Env},RnEv names ps c env env'→0≤c→c + ws.length < 9223372036854775807→ws.length = vs.length →
  RnEv (names ++ ws) (ps ++ ws.zip (J5 ws c)) (c + ws.length) (O6 ws vs env) (O6 (J5 ws c) vs env')
 | [],[],names,ps,c,env,env',h,_,_,_=>by simpa [J5,O6] using h
 | w :: ws,v :: vs,names,ps,c,env,env',h,h0,hb,hl=>by
  rw [List.length_cons] at hb
  push_cast at hb
  have hw : wr (c + 1) = c + 1:=wr_of (by omega) (by omega)
  have h1:=RnEv.more (h.one h0 w v) (by omega) (by omega) (by simpa using hl : ws.length = vs.length)
  rw [J5,hw,Qj7,Qj7,List.zip_cons_cons,List.length_cons]
  rw [List.append_assoc,List.append_assoc] at h1
  push_cast
  rw [show c + ((ws.length : Int) + 1) = c + 1 + ws.length from by omega]
  exact h1
 | [],_ :: _,_,_,_,_,_,_,_,_,hl=>by simp at hl
 | _ :: _,[],_,_,_,_,_,_,_,_,hl=>by simp at hl
structure RnOk (A : Y3) (x : Fn) : Prop where
 rt : x.body.Rt 25
 wrong : x.body.wrong A x.params 0 = 0
 bd : x.params.length + x.body.bd.length≤9999999
theorem bd_le : ∀ (d : Nat) (t : Tm),t.Rt d→t.bd.length + 6≤7 * t.sz:=by
 intro d
 induction d with
 | zero=>intro t h;exact h.elim
 | succ d ih =>
 intro t hR
 obtain ⟨k,n,a,b,vs,xs,cs⟩:=t
 obtain ⟨hk,hmany,_,hx,hc⟩:=hR
 have hL : ∀ ys : List Tm,(∀ y∈ys,y∈xs)→(Tm.bdL ys).length≤7 * Tm.szs ys:=by
  intro ys
  induction ys with
  | nil=>intro _;simp [Tm.bdL]
  | cons y r ih2 =>
   intro hm
   have h1:=ih y (hx y (hm y (List.mem_cons_self ..)))
   have h2:=ih2 fun z hz=>hm z (List.mem_cons_of_mem _ hz)
   rw [Tm.bdL,List.length_append,Tm.szs]
   omega
 have hC : ∀ ys : List Cs,(∀ y∈ys,y∈cs)→(Cs.bdL ys).length≤7 * Cs.szs ys:=by
  intro ys
  induction ys with
  | nil=>intro _;simp [Cs.bdL]
  | cons y r ih2 =>
   intro hm
   have hy:=hc y (hm y (List.mem_cons_self ..))
   obtain ⟨t,ws,y⟩:=y
   have h1:=ih y hy.2
   have h2:=ih2 fun z hz=>hm z (List.mem_cons_of_mem _ hz)
   have h3 : ws.length≤6:=hy.1
   rw [Cs.bdL,Cs.bd,List.length_append,List.length_append,Cs.szs,Cs.sz]
   omega
 have h1:=hL xs fun _ h=>h
 have h2:=hC cs fun _ h=>h
 rw [Tm.bd,List.length_append,List.length_append,Tm.sz]
 have h3 : (if k = 6 then [a] else []).length≤1:=by split <;> simp
 omega
theorem Fn.rn_plen (f : Fn) : f.rn.params.length = f.params.length:=U4 _ _
theorem Fn.Right.rnOk {A : Y3} {x : Fn} (h : x.Right A) (hr : x.body.Rt 25) : RnOk A x :=
 ⟨hr,h.wrong,by have:=bd_le 25 x.body hr;have:=h.sz;have:=h.params;omega⟩
theorem Fn.Right.rn {A : Y3} {x : Fn} (h : x.Right A) (hr : x.body.Rt 25) : x.rn.Right A:=by
 have hb:=(h.rnOk hr).bd
 obtain ⟨e1,e2⟩:=Tw x.params 0 (by omega) (by omega)
 have hp : x.rn.params = C9 0 x.params.length:=e1
 have hpa:=h.params
 have hsz:=h.sz
 have hs : x.rn.body.sz≤x.body.sz:=Tm.rn_sz _ _ _
 refine ⟨h.name,by rw [hp];exact twB_of (seqV_nodup (by omega) _),by rw [hp];exact seqV_bad (by omega) (by omega),by rw [x.rn_plen];exact hpa,by omega,?_⟩
 have hR : RnR x.params (J5 x.params 0) (x.params.zip (J5 x.params 0)):=by
  have:=RnR.more (names:=[]) (names':=[]) (ps:=[]) (fun s hs=>by cases hs) x.params (J5 x.params 0) (U4 _ _).symm
  simpa using this
 exact rn_wrong A 25 x.body x.params x.rn.params _ (U5 x.params 0) 0 hr h.wrong (by omega) (by omega) hR
theorem Tm.F8 (t : Tm) : 1≤t.sz:=by obtain ⟨k,n,a,b,vs,xs,cs⟩:=t;simp only [Tm.sz];omega
mutual
def Tm.Sh : Tm→Prop
 | .mk k n a b vs xs cs=>(k = 1∨k = 2→xs = [])∧(k≠7→cs = [])∧(k = 7→cs≠[])∧Tm.ShL xs∧Cs.ShL cs
def Tm.ShL : List Tm→Prop
 | []=>True
 | x :: r=>x.Sh∧Tm.ShL r
def Cs.ShL : List Cs→Prop
 | []=>True
 | c :: r=>c.Sh∧Cs.ShL r
def Cs.Sh : Cs→Prop
 | .mk t ws y=>y.Sh
end
structure LS.Eqv (s s' : LS) : Prop where
 c : ∀ n,s.c n = s'.c n
 t : ∀ b,(lkA s.tk b).isSome = (lkA s'.tk b).isSome
theorem LS.Eqv.rfl' (s : LS) : s.Eqv s:=⟨fun _=>rfl,fun _=>rfl⟩
theorem LS.Eqv.symm {s s' : LS} (h : s.Eqv s') : s'.Eqv s:=⟨fun n=>(h.c n).symm,fun b=>(h.t b).symm⟩
theorem LS.Eqv.trans {s s' s'' : LS} (h : s.Eqv s') (h2 : s'.Eqv s'') : s.Eqv s'':=⟨fun n=>(h.c n).trans (h2.c n),fun b=>(h.t b).trans (h2.t b)⟩
theorem use_end {s : LS} (h : s.Ok) {a : ByteArray} (h0 : (s.Yj a).2.Nj (s.Yj a).1 = 0) : (∀ m,s.c m = if a = m then 1 else 0)∧s.tk = []:=by
 obtain ⟨h1,h2⟩:=LS.F4 h0
 obtain ⟨g1,g2,g3,-,-,-⟩:=LS.Vw h h1
 obtain ⟨k1,k2⟩:=LS.left_no g1 h2
 refine ⟨fun m=>?_,by rw [← g3];exact k2⟩
 have:=k1 m
 rw [g2] at this
 split at this <;> rename_i e
 ·rw [if_pos e];omega
 ·rw [if_neg e];exact this
theorem useL_end {s : LS} (h : s.Ok) {xs : List Tm} (h0 : (s.Vv xs).2.Nj (s.Vv xs).1 = 0) : (∀ m,s.c m = occ xs m)∧s.tk = []:=by
 obtain ⟨h1,h2⟩:=LS.F4 h0
 obtain ⟨g1,g2,g3⟩:=LS.useL_ok xs h h1
 obtain ⟨k1,k2⟩:=LS.left_no g1 h2
 refine ⟨fun m=>?_,by rw [← g3];exact k2⟩
 have:=k1 m
 rw [g2] at this
 omega
theorem linL_cons (x : Tm) (r : List Tm) (s : LS) (ss : List LS) : Tm.Dv (x :: r) (s :: ss) = if x.lin s≠0 then x.lin s else Tm.Dv r ss:=by rw [Tm.Dv];rfl
theorem Qq7 {x : Tm} {s : LS} (h : Tm.Dv [x] [s] = 0) : x.lin s = 0:=by
 rw [linL_cons] at h
 by_cases h1 : x.lin s≠0
 ·rw [if_pos h1] at h;exact h
 ·exact Decidable.not_not.1 h1
theorem linL_two {x y : Tm} {s u : LS} (h : Tm.Dv [x,y] [s,u] = 0) : x.lin s = 0∧y.lin u = 0:=by
 rw [linL_cons] at h
 by_cases h1 : x.lin s≠0
 ·rw [if_pos h1] at h;exact absurd h h1
 ·rw [if_neg h1] at h;exact ⟨Decidable.not_not.1 h1,Qq7 h⟩
theorem Kq {x : Tm} {s : LS} (h : x.lin s = 0) : Tm.Dv [x] [s] = 0:=by
 rw [linL_cons,if_neg (by simpa using h),Tm.Dv]
theorem linL_two' {x y : Tm} {s u : LS} (h : x.lin s = 0) (h2 : y.lin u = 0) : Tm.Dv [x,y] [s,u] = 0:=by
 rw [linL_cons,if_neg (by simpa using h)]
 exact Kq h2
theorem clinL_mem {s : LS} {nm : ByteArray} : ∀ {cs : List Cs},Cs.Dv cs s nm = 0→∀ c∈cs,c.lin s nm = 0
 | c :: r,h,d,hd=>by
  rw [Cs.Dv] at h
  split at h
  ·rename_i h1;exact absurd h h1
  ·rename_i h1
   rcases List.mem_cons.1 hd with rfl | hd
   ·exact Decidable.not_not.1 h1
   ·exact clinL_mem h d hd
theorem clinL_all {s : LS} {nm : ByteArray} : ∀ {cs : List Cs},(∀ c∈cs,c.lin s nm = 0)→Cs.Dv cs s nm = 0
 | [],_=>by rw [Cs.Dv]
 | c :: r,h=>by
  rw [Cs.Dv,if_neg (by simpa using h c (by simp))]
  exact clinL_all fun d hd=>h d (by simp [hd])
theorem P5 {s : LS} {nm : ByteArray} {t : Int} {ws : List ByteArray} {y : Tm} (h : (Cs.mk t ws y).lin s nm = 0) : (s.Wq nm ws).1 = 0∧y.lin (s.Wq nm ws).2 = 0:=by
 rw [Cs.lin] at h
 split at h
 ·rename_i h1;exact absurd h h1
 ·rename_i h1;exact ⟨Decidable.not_not.1 h1,h⟩
section
variable {n : Int} {a b : ByteArray} {vs : List ByteArray} {xs : List Tm} {cs : List Cs} {s : LS}
theorem lin1 : (Tm.mk 1 n a b vs xs cs).lin s = (s.Yj a).2.Nj (s.Yj a).1:=by rw [Tm.lin];rfl
theorem lin2 : (Tm.mk 2 n a b vs xs cs).lin s = s.Nj 0:=by rw [Tm.lin];rfl
theorem O9 {k : Int} (hk : k = 3∨k = 4∨k = 5) : (Tm.mk k n a b vs xs cs).lin s = (s.Vv xs).2.Nj (s.Vv xs).1:=by
 rw [Tm.lin,if_neg (by omega),if_neg (by omega),if_pos hk]
theorem lin12 (h : (Tm.mk 12 n a b vs xs cs).lin s = 0) : lkA s.tk b = some (xs.length : Int)∧(({ s with tk:=Wz s.tk b } : LS).Vv xs).2.Nj (({ s with tk:=Wz s.tk b } : LS).Vv xs).1 = 0:=by
 rw [Tm.lin,if_neg (by omega),if_neg (by omega),if_neg (by omega),if_pos rfl] at h
 split at h
 ·simp at h
 ·rename_i h1;exact ⟨Decidable.not_not.1 h1,h⟩
theorem lin6 (h : (Tm.mk 6 n a b vs xs cs).lin s = 0) : ∃ x y,xs = [x,y]∧lkA s.ct a = none∧x.lin (s.fst x) = 0∧y.lin { s.rst x with ct:=X5 (s.rst x).ct a 1 } = 0:=by
 rw [Tm.lin,if_neg (by omega),if_neg (by omega),if_neg (by omega),if_neg (by omega),if_pos rfl] at h
 match xs,h with
 | [x,y],h =>
  rw [if_neg (by simp)] at h
  split at h
  ·simp at h
  ·rename_i h1
   have h2:=linL_two h
   exact ⟨x,y,rfl,by simpa using h1,h2.1,h2.2⟩
 | [],h=>simp at h
 | [_],h=>simp at h
 | _ :: _ :: _ :: _,h=>rw [if_pos (by simp)] at h;simp at h
theorem lin7 (h : (Tm.mk 7 n a b vs xs cs).lin s = 0) : ∃ x,xs = [x]∧x.tk = 1∧1≤s.c x.nm∧∀ c∈cs,c.lin s x.nm = 0:=by
 rw [Tm.lin,if_neg (by omega),if_neg (by omega),if_neg (by omega),if_neg (by omega),if_neg (by omega),if_pos rfl] at h
 match xs,h with
 | [x],h =>
  split at h
  ·simp at h
  ·rename_i h1
   split at h
   ·simp at h
   ·rename_i h2
    exact ⟨x,rfl,by simpa [hdT0] using h1,by have h2 : ¬ s.c x.nm < 1:=h2;omega,clinL_mem h⟩
 | [],h=>simp at h
 | _ :: _ :: _,h=>rw [if_pos (by simp)] at h;simp at h
theorem linS {k : Int} (hk : k = 8∨k = 9∨k = 10∨k = 11∨k = 13) (h : (Tm.mk k n a b vs xs cs).lin s = 0) : ∃ x,xs = [x] ∧
  (k = 8→s.there a = true∧x.lin (s.inc a) = 0)∧(k = 9→(s.Yj a).1 = 0∧x.lin (s.Yj a).2 = 0)∧(k = 13→(lkA s.tk b).isSome = true∧x.lin { s with tk:=Wz s.tk b } = 0) ∧
  (k = 10→(s.Xv a vs).1 = 0∧x.lin (s.Xv a vs).2 = 0)∧(k = 11→(s.Xv a vs).1 = 0∧lkA s.tk b = none∧b≠.empty∧x.lin { (s.Xv a vs).2 with tk:=X5 (s.Xv a vs).2.tk b (vs.length : Int) } = 0):=by
 rw [Tm.lin,if_neg (by omega),if_neg (by omega),if_neg (by omega),if_neg (by omega),if_neg (by omega),if_neg (by omega),if_pos hk] at h
 match xs,h with
 | [],h=>simp at h
 | _ :: _ :: _,h=>rw [if_pos (by simp)] at h;simp at h
 | [x],h =>
  rw [if_neg (by simp)] at h
  refine ⟨x,rfl,?_⟩
  rcases hk with rfl | rfl | rfl | rfl | rfl
  ·rw [if_pos rfl] at h
   refine ⟨fun _=>?_,by omega,by omega,by omega,by omega⟩
   split at h
   ·rename_i h1;exact ⟨h1,Qq7 h⟩
   ·simp at h
  ·rw [if_neg (by omega),if_pos rfl] at h
   refine ⟨by omega,fun _=>?_,by omega,by omega,by omega⟩
   split at h
   ·rename_i h1;exact absurd h h1
   ·rename_i h1;exact ⟨Decidable.not_not.1 h1,Qq7 h⟩
  ·rw [if_neg (by omega),if_neg (by omega),if_neg (by omega)] at h
   refine ⟨by omega,by omega,by omega,fun _=>?_,by omega⟩
   split at h
   ·rename_i h1;exact absurd h h1
   ·rename_i h1
    rw [if_neg (by omega)] at h
    exact ⟨Decidable.not_not.1 h1,Qq7 h⟩
  ·rw [if_neg (by omega),if_neg (by omega),if_neg (by omega)] at h
   refine ⟨by omega,by omega,by omega,by omega,fun _=>?_⟩
   by_cases h1 : (s.Xv a vs).1≠0
   ·rw [if_pos h1] at h;exact absurd h h1
   ·rw [if_neg h1,if_pos rfl] at h
    by_cases h2 : (lkA s.tk b).isSome = true∨b = .empty
    ·rw [if_pos h2] at h;simp at h
    ·rw [if_neg h2] at h
     rw [not_or] at h2
     exact ⟨Decidable.not_not.1 h1,by simpa using h2.1,h2.2,Qq7 h⟩
  ·rw [if_neg (by omega),if_neg (by omega),if_pos rfl] at h
   refine ⟨by omega,by omega,fun _=>?_,by omega,by omega⟩
   split at h
   ·rename_i h1;exact ⟨h1,Qq7 h⟩
   ·simp at h
theorem I5 {k : Int} (h : (Tm.mk k n a b vs xs cs).lin s = 0) : k = 1∨k = 2∨(k = 3∨k = 4∨k = 5)∨k = 12∨k = 6∨k = 7∨(k = 8∨k = 9∨k = 10∨k = 11∨k = 13):=by
 rw [Tm.lin] at h
 repeat' split at h
 all_goals first | omega | simp_all
end
theorem split_eqv {s s' : LS} (h : s.Ok) (h' : s'.Ok) {x x' : Tm} {a : ByteArray} (ha : lkA s.ct a = none) (ha' : lkA s'.ct a = none) (h1 : (s.fst x).Eqv (s'.fst x')) (h2 : ({ s.rst x with ct:=X5 (s.rst x).ct a 1 } : LS).Eqv { s'.rst x' with ct:=X5 (s'.rst x').ct a 1 }) : s.Eqv s':=by
 have key : ∀ (s : LS) (x : Tm) (n : ByteArray),s.c n = (s.fst x).c n + (s.rst x).c n:=fun s x n=>by
  rw [LS.fst_c,LS.rst_c]
  split <;> omega
 have kt : ∀ (s : LS) (x : Tm) (b : ByteArray),(lkA s.tk b).isSome = ((lkA (s.fst x).tk b).isSome || (lkA (s.rst x).tk b).isSome):=fun s x b=>by
  unfold LS.fst LS.rst
  dsimp only
  rw [Z9 x.U7,Z9 (fun k=>!x.U7 k)]
  cases x.U7 b <;> simp
 refine ⟨fun n=>?_,fun b=>?_⟩
 ·have g1:=h1.c n
  have g2:=h2.c n
  rw [LS.O4,LS.O4] at g2
  by_cases e : a = n
  ·subst e
   unfold LS.c
   rw [ha,ha']
  ·rw [if_neg e,if_neg e] at g2
   rw [key s x,key s' x',g1,g2]
 ·have g1:=h1.t b
  have g2 : (lkA (s.rst x).tk b).isSome = (lkA (s'.rst x').tk b).isSome:=h2.t b
  rw [kt s x,kt s' x',g1,g2]
theorem Qq6 : ∀ (N : Nat) (t : Tm),t.sz≤N→t.Sh→∀ s s' : LS,s.Ok→s'.Ok→t.lin s = 0→t.lin s' = 0→s.Eqv s':=by
 intro N
 induction N with
 | zero=>intro t h;have:=t.F8;omega
 | succ N ih =>
  intro t hN hSh s s' hs hs' h h'
  obtain ⟨k,n,a,b,vs,xs,cs⟩:=t
  obtain ⟨sh1,sh2,sh3,sh4,sh5⟩:=hSh
  rw [Tm.sz] at hN
  rcases I5 h with rfl | rfl | hk | rfl | rfl | rfl | hk
  ·rw [lin1] at h h'
   obtain ⟨g1,g2⟩:=use_end hs h
   obtain ⟨k1,k2⟩:=use_end hs' h'
   exact ⟨fun m=>by rw [g1,k1],fun b=>by rw [g2,k2]⟩
  ·rw [lin2] at h h'
   obtain ⟨g1,g2⟩:=LS.left_no hs (LS.F4 h).2
   obtain ⟨k1,k2⟩:=LS.left_no hs' (LS.F4 h').2
   exact ⟨fun m=>by rw [g1,k1],fun b=>by rw [g2,k2]⟩
  ·rw [O9 hk] at h h'
   obtain ⟨g1,g2⟩:=useL_end hs h
   obtain ⟨k1,k2⟩:=useL_end hs' h'
   exact ⟨fun m=>by rw [g1,k1],fun b=>by rw [g2,k2]⟩
  ·obtain ⟨h1,h2⟩:=lin12 h
   obtain ⟨h1',h2'⟩:=lin12 h'
   obtain ⟨g1,g2⟩:=useL_end (LS.Rz hs (hs.kt.filter _)) h2
   obtain ⟨k1,k2⟩:=useL_end (LS.Rz hs' (hs'.kt.filter _)) h2'
   refine ⟨fun m=>(g1 m).trans (k1 m).symm,fun d=>?_⟩
   by_cases e : b = d
   ·subst e;rw [h1,h1']
   ·have e1:=Hz s.tk b d
    have e2:=Hz s'.tk b d
    have g2 : Wz s.tk b = []:=g2
    have k2 : Wz s'.tk b = []:=k2
    rw [g2,if_neg e] at e1
    rw [k2,if_neg e] at e2
    rw [← e1,← e2]
  ·obtain ⟨x,y,rfl,h1,h2,h3⟩:=lin6 h
   obtain ⟨x',y',e,h1',h2',h3'⟩:=lin6 h'
   injection e with e1 e2
   injection e2 with e2 _
   subst e1 e2
   simp only [Tm.szs] at hN
   have hxs:=x.F8
   have hys:=y.F8
   exact split_eqv hs hs' h1 h1' (ih x (by omega) sh4.1 _ _ (LS.Mk hs x) (LS.Mk hs' x) h2 h2') (ih y (by omega) sh4.2.1 _ _ (LS.G9 (LS.N7 hs x) a (by omega)) (LS.G9 (LS.N7 hs' x) a (by omega)) h3 h3')
  ·obtain ⟨x,rfl,-,h1,h2⟩:=lin7 h
   obtain ⟨x',e,-,h1',h2'⟩:=lin7 h'
   injection e with e1 _
   subst e1
   cases cs with
   | nil=>exact absurd rfl (sh3 rfl)
   | cons c r =>
    obtain ⟨tg,ws,y⟩:=c
    obtain ⟨g1,g2⟩:=P5 (h2 (Cs.mk tg ws y) (by simp))
    obtain ⟨k1,k2⟩:=P5 (h2' (Cs.mk tg ws y) (by simp))
    obtain ⟨q1,q2,q3⟩:=LS.M9 _ ws hs g1
    obtain ⟨r1,r2,r3⟩:=LS.M9 _ ws hs' k1
    have hsz : y.sz≤N:=by
     simp only [Cs.szs,Cs.sz,Tm.szs] at hN
     have:=x.F8
     omega
    have he:=ih y hsz sh5.1 _ _ q1 r1 g2 k2
    exact ⟨fun m=>by rw [← q2,← r2];exact he.c m,fun d=>by rw [← q3,← r3];exact he.t d⟩
  ·obtain ⟨x,rfl,p8,p9,p13,p10,p11⟩:=linS hk h
   obtain ⟨x',e,p8',p9',p13',p10',p11'⟩:=linS hk h'
   injection e with e1 _
   subst e1
   have hsz : x.sz≤N:=by
    simp only [Tm.szs] at hN
    omega
   have shx:=sh4.1
   rcases hk with rfl | rfl | rfl | rfl | rfl
   ·obtain ⟨-,g⟩:=p8 rfl
    obtain ⟨-,g'⟩:=p8' rfl
    obtain ⟨q1,q2⟩:=LS.F7 hs a
    obtain ⟨r1,r2⟩:=LS.F7 hs' a
    have he:=ih x hsz shx _ _ q1 r1 g g'
    refine ⟨fun m=>?_,he.t⟩
    have:=he.c m
    rw [q2,r2] at this
    split at this <;> omega
   ·obtain ⟨g0,g⟩:=p9 rfl
    obtain ⟨g0',g'⟩:=p9' rfl
    obtain ⟨q1,q2,q3,-⟩:=LS.Vw hs g0
    obtain ⟨r1,r2,r3,-⟩:=LS.Vw hs' g0'
    have he:=ih x hsz shx _ _ q1 r1 g g'
    refine ⟨fun m=>?_,fun d=>by rw [← q3,← r3];exact he.t d⟩
    have:=he.c m
    rw [q2,r2] at this
    split at this <;> omega
   ·obtain ⟨g0,g⟩:=p10 rfl
    obtain ⟨g0',g'⟩:=p10' rfl
    obtain ⟨q1,q2,q3⟩:=LS.H8 hs g0
    obtain ⟨r1,r2,r3⟩:=LS.H8 hs' g0'
    have he:=ih x hsz shx _ _ q1 r1 g g'
    refine ⟨fun m=>?_,fun d=>by rw [← q3,← r3];exact he.t d⟩
    have:=he.c m
    rw [q2,r2] at this
    omega
   ·obtain ⟨g0,gn,-,g⟩:=p11 rfl
    obtain ⟨g0',gn',-,g'⟩:=p11' rfl
    obtain ⟨q1,q2,q3⟩:=LS.H8 hs g0
    obtain ⟨r1,r2,r3⟩:=LS.H8 hs' g0'
    have he:=ih x hsz shx _ _ (LS.Rz q1 (q1.kt.put _ _)) (LS.Rz r1 (r1.kt.put _ _)) g g'
    refine ⟨fun m=>?_,fun d=>?_⟩
    ·have : (s.Xv a vs).2.c m = (s'.Xv a vs).2.c m:=he.c m
     rw [q2,r2] at this
     omega
    ·have:=he.t d
     dsimp only at this
     rw [X7,X7,q3,r3] at this
     by_cases e : b = d
     ·subst e;rw [gn,gn']
     ·rwa [if_neg e,if_neg e] at this
   ·obtain ⟨g0,g⟩:=p13 rfl
    obtain ⟨g0',g'⟩:=p13' rfl
    have he:=ih x hsz shx _ _ (LS.Rz hs (hs.kt.filter _)) (LS.Rz hs' (hs'.kt.filter _)) g g'
    refine ⟨he.c,fun d=>?_⟩
    have : (lkA (Wz s.tk b) d).isSome = (lkA (Wz s'.tk b) d).isSome:=he.t d
    rw [Hz,Hz] at this
    by_cases e : b = d
    ·subst e;rw [g0,g0']
    ·rwa [if_neg e,if_neg e] at this
end Go.Proofs.YtjpldhjgehoffaaDoor
namespace Go.Proofs.YtjpldhjgehoffaaDoor
open Go.RowKit
set_option linter.unusedVariables false
set_option linter.unusedSimpArgs false
inductive Rem : Tm→Tm→Prop where
 | here {k n : Int} {a b : ByteArray} {vs : List ByteArray} {x : Tm} {cs : List Cs} (hk : k = 8∨k = 9∨k = 13) : Rem (.mk k n a b vs [x] cs) x
 | arg {k n : Int} {a b : ByteArray} {vs : List ByteArray} {p q : List Tm} {x x' : Tm} {cs : List Cs} (h : Rem x x') : Rem (.mk k n a b vs (p ++ x :: q) cs) (.mk k n a b vs (p ++ x' :: q) cs)
 | cas {k n : Int} {a b : ByteArray} {vs : List ByteArray} {xs : List Tm} {p q : List Cs} {t : Int} {ws : List ByteArray} {y y' : Tm} (h : Rem y y') : Rem (.mk k n a b vs xs (p ++ .mk t ws y :: q)) (.mk k n a b vs xs (p ++ .mk t ws y' :: q))
theorem rem_leaf {x x' : Tm} (h1 : x.tk = 1) (hs : x.Sh) (h : Rem x x') : False:=by
 cases h with
 | here hk=>rw [Tm.tk] at h1;omega
 | arg h =>
  have:=hs.1 (.inl h1)
  simp at this
 | cas h =>
  rw [Tm.tk] at h1
  have:=hs.2.1 (by omega)
  simp at this
theorem Ik : ∀ {xs : List Tm} {s : LS},(s.Vv xs).1 = 0→∀ x∈xs,x.tk = 1
 | y :: r,s,h,x,hx=>by
  rw [LS.Vv] at h
  by_cases h1 : y.tk≠1
  ·rw [if_pos h1] at h;simp at h
  ·rw [if_neg h1] at h
   by_cases h2 : (s.Yj y.nm).1≠0
   ·rw [if_pos h2] at h;exact absurd h h2
   ·rw [if_neg h2] at h
    rcases List.mem_cons.1 hx with rfl | hx
    ·exact Decidable.not_not.1 h1
    ·exact Ik h x hx
theorem Sv : ∀ {l : List Tm},Tm.ShL l↔∀ x∈l,x.Sh
 | []=>by simp [Tm.ShL]
 | x :: r=>by simp [Tm.ShL,Sv (l:=r)]
theorem Fj : ∀ {l : List Cs},Cs.ShL l↔∀ x∈l,x.Sh
 | []=>by simp [Cs.ShL]
 | x :: r=>by simp [Cs.ShL,Fj (l:=r)]
theorem rst_eqv {s s' : LS} (h : s.Eqv s') (x : Tm) (a : ByteArray) : ({ s.rst x with ct:=X5 (s.rst x).ct a 1 } : LS).Eqv { s'.rst x with ct:=X5 (s'.rst x).ct a 1 }:=by
 refine ⟨fun n=>?_,fun b=>?_⟩
 ·rw [LS.O4,LS.O4]
  split
  ·rfl
  ·rw [LS.rst_c,LS.rst_c,h.c]
 ·have:=h.t b
  unfold LS.rst
  dsimp only
  rw [Z9 (fun k=>!x.U7 k),Z9 (fun k=>!x.U7 k)]
  split
  ·exact this
  ·rfl
theorem fst_eqv {s s' : LS} (h : s.Eqv s') {x x' : Tm} {a : ByteArray} (ha : lkA s.ct a = none) (ha' : lkA s'.ct a = none) (h2 : ({ s.rst x with ct:=X5 (s.rst x).ct a 1 } : LS).Eqv { s'.rst x' with ct:=X5 (s'.rst x').ct a 1 }) : (s.fst x).Eqv (s'.fst x'):=by
 have key : ∀ (s : LS) (x : Tm) (n : ByteArray),(s.fst x).c n = s.c n - (s.rst x).c n:=fun s x n=>by
  rw [LS.fst_c,LS.rst_c]
  split <;> omega
 have kt : ∀ (s : LS) (x : Tm) (b : ByteArray),(lkA (s.fst x).tk b).isSome = ((lkA s.tk b).isSome && !(lkA (s.rst x).tk b).isSome):=fun s x b=>by
  unfold LS.fst LS.rst
  dsimp only
  rw [Z9 x.U7,Z9 (fun k=>!x.U7 k)]
  cases x.U7 b <;> simp
 have ku : ∀ (s : LS) (x : Tm),lkA s.ct a = none→(s.fst x).c a = 0:=fun s x ha=>by
  rw [LS.fst_c]
  unfold LS.c
  rw [ha]
  split <;> rfl
 refine ⟨fun n=>?_,fun b=>?_⟩
 ·have g2:=h2.c n
  rw [LS.O4,LS.O4] at g2
  by_cases e : a = n
  ·subst e;rw [ku s x ha,ku s' x' ha']
  ·rw [if_neg e,if_neg e] at g2
   rw [key,key,h.c,g2]
 ·have g2 : (lkA (s.rst x).tk b).isSome = (lkA (s'.rst x').tk b).isSome:=h2.t b
  rw [kt,kt,h.t,g2]
theorem rem_lin : ∀ (N : Nat) (t t' : Tm),t.sz≤N→t.Sh→Rem t t'→∀ s s' : LS,s.Ok→s'.Ok→s.Eqv s'→t.lin s = 0→t'.lin s'≠0:=by
 intro N
 induction N with
 | zero=>intro t t' h;have:=t.F8;omega
 | succ N ih =>
  intro t t' hN hSh hR s s' hs hs' he h h'
  cases hR with
  | here hk =>
   rename_i k n a b vs cs
   obtain ⟨x,e,p8,p9,p13,-,-⟩:=linS (by omega) h
   injection e with e _
   subst e
   have hsx : t'.Sh:=hSh.2.2.2.1.1
   rcases hk with rfl | rfl | rfl
   ·obtain ⟨-,g⟩:=p8 rfl
    obtain ⟨q1,q2⟩:=LS.F7 hs a
    have:=(Qq6 _ t' (Nat.le_refl _) hsx _ _ q1 hs' g h').c a
    rw [q2,if_pos rfl,he.c] at this
    omega
   ·obtain ⟨g0,g⟩:=p9 rfl
    obtain ⟨q1,q2,-⟩:=LS.Vw hs g0
    have:=(Qq6 _ t' (Nat.le_refl _) hsx _ _ q1 hs' g h').c a
    rw [q2,if_pos rfl,he.c] at this
    omega
   ·obtain ⟨g0,g⟩:=p13 rfl
    have : (lkA (Wz s.tk b) b).isSome = (lkA s'.tk b).isSome:=(Qq6 _ t' (Nat.le_refl _) hsx _ _ (LS.Rz hs (hs.kt.filter _)) hs' g h').t b
    rw [Hz,if_pos rfl,← he.t,g0] at this
    simp at this
  | arg hx =>
   rename_i k n a b vs p q x x' cs
   have hsx : x.Sh:=Sv.1 hSh.2.2.2.1 x (by simp)
   have hxN : x.sz≤N:=by
    have : x.sz≤Tm.szs (p ++ x :: q):=Tm.Z4 (by simp)
    rw [Tm.sz] at hN
    omega
   rcases I5 h with rfl | rfl | hk | rfl | rfl | rfl | hk
   ·have:=hSh.1 (.inl rfl);simp at this
   ·have:=hSh.1 (.inr rfl);simp at this
   ·rw [O9 hk] at h
    exact rem_leaf (Ik (LS.F4 h).1 x (by simp)) hsx hx
   ·exact rem_leaf (Ik (LS.F4 (lin12 h).2).1 x (by simp)) hsx hx
   ·obtain ⟨x0,y0,e,h1,h2,h3⟩:=lin6 h
    obtain ⟨x1,y1,e',h1',h2',h3'⟩:=lin6 h'
    have hall:=Sv.1 hSh.2.2.2.1
    match p,q,e,e' with
    | [],[y],e,e' =>
     simp only [List.nil_append,List.cons.injEq,and_true] at e e'
     obtain ⟨rfl,rfl⟩:=e
     obtain ⟨rfl,e3⟩:=e'
     subst e3
     have hR:=Qq6 _ y (Nat.le_refl _) (hall y (by simp)) _ _ (LS.G9 (LS.N7 hs x) a (by omega)) (LS.G9 (LS.N7 hs' x') a (by omega)) h3 h3'
     exact ih x x' hxN hsx hx _ _ (LS.Mk hs x) (LS.Mk hs' x') (fst_eqv he h1 h1' hR) h2 h2'
    | [z],[],e,e' =>
     simp only [List.cons_append,List.nil_append,List.cons.injEq,and_true] at e e'
     obtain ⟨rfl,rfl⟩:=e
     obtain ⟨e1,e3⟩:=e'
     subst e1 e3
     exact ih x x' hxN hsx hx _ _ (LS.G9 (LS.N7 hs z) a (by omega)) (LS.G9 (LS.N7 hs' z) a (by omega)) (rst_eqv he z a) h3 h3'
    | [],[],e,_=>simp at e
    | [],_ :: _ :: _,e,_=>simp at e
    | [_],_ :: _,e,_=>simp at e
    | _ :: _ :: _,_,e,_=>simp at e
   ·obtain ⟨x0,e,h1,-,-⟩:=lin7 h
    match p,q,e with
    | [],[],e =>
     simp only [List.nil_append,List.cons.injEq,and_true] at e
     subst e
     exact rem_leaf h1 hsx hx
    | [],_ :: _,e=>simp at e
    | _ :: _,_,e=>simp at e
   ·obtain ⟨x0,e,p8,p9,p13,p10,p11⟩:=linS hk h
    obtain ⟨x1,e',p8',p9',p13',p10',p11'⟩:=linS hk h'
    match p,q,e,e' with
    | [],_ :: _,e,_=>simp at e
    | _ :: _,_,e,_=>simp at e
    | [],[],e,e' =>
     simp only [List.nil_append,List.cons.injEq,and_true] at e e'
     subst e e'
     rcases hk with rfl | rfl | rfl | rfl | rfl
     ·obtain ⟨-,g⟩:=p8 rfl
      obtain ⟨-,g'⟩:=p8' rfl
      obtain ⟨q1,q2⟩:=LS.F7 hs a
      obtain ⟨r1,r2⟩:=LS.F7 hs' a
      exact ih x x' hxN hsx hx _ _ q1 r1 ⟨fun m=>by rw [q2,r2,he.c],he.t⟩ g g'
     ·obtain ⟨g0,g⟩:=p9 rfl
      obtain ⟨g0',g'⟩:=p9' rfl
      obtain ⟨q1,q2,q3,-⟩:=LS.Vw hs g0
      obtain ⟨r1,r2,r3,-⟩:=LS.Vw hs' g0'
      exact ih x x' hxN hsx hx _ _ q1 r1 ⟨fun m=>by rw [q2,r2,he.c],fun d=>by rw [q3,r3,he.t]⟩ g g'
     ·obtain ⟨g0,g⟩:=p10 rfl
      obtain ⟨g0',g'⟩:=p10' rfl
      obtain ⟨q1,q2,q3⟩:=LS.H8 hs g0
      obtain ⟨r1,r2,r3⟩:=LS.H8 hs' g0'
      exact ih x x' hxN hsx hx _ _ q1 r1 ⟨fun m=>by rw [q2,r2,he.c],fun d=>by rw [q3,r3,he.t]⟩ g g'
     ·obtain ⟨g0,gn,-,g⟩:=p11 rfl
      obtain ⟨g0',gn',-,g'⟩:=p11' rfl
      obtain ⟨q1,q2,q3⟩:=LS.H8 hs g0
      obtain ⟨r1,r2,r3⟩:=LS.H8 hs' g0'
      refine ih x x' hxN hsx hx _ _ (LS.Rz q1 (q1.kt.put _ _)) (LS.Rz r1 (r1.kt.put _ _)) ⟨fun m=>?_,fun d=>?_⟩ g g'
      ·show (s.Xv a vs).2.c m = (s'.Xv a vs).2.c m
       rw [q2,r2,he.c]
      ·dsimp only
       rw [X7,X7,q3,r3]
       split
       ·rfl
       ·exact he.t d
     ·obtain ⟨g0,g⟩:=p13 rfl
      obtain ⟨g0',g'⟩:=p13' rfl
      refine ih x x' hxN hsx hx _ _ (LS.Rz hs (hs.kt.filter _)) (LS.Rz hs' (hs'.kt.filter _)) ⟨he.c,fun d=>?_⟩ g g'
      show (lkA (Wz s.tk b) d).isSome = (lkA (Wz s'.tk b) d).isSome
      rw [Hz,Hz]
      split
      ·rfl
      ·exact he.t d
  | cas hy =>
   rename_i k n a b vs xs p q tg ws y y'
   by_cases hk7 : k = 7
   ·subst hk7
    obtain ⟨x0,e,h1,h2,h3⟩:=lin7 h
    obtain ⟨x1,e',h1',h2',h3'⟩:=lin7 h'
    rw [e] at e'
    injection e' with e' _
    subst e'
    obtain ⟨g1,g2⟩:=P5 (h3 (Cs.mk tg ws y) (by simp))
    obtain ⟨k1,k2⟩:=P5 (h3' (Cs.mk tg ws y') (by simp))
    obtain ⟨q1,q2,q3⟩:=LS.M9 _ ws hs g1
    obtain ⟨r1,r2,r3⟩:=LS.M9 _ ws hs' k1
    have hyN : y.sz≤N:=by
     have : (Cs.mk tg ws y).sz≤Cs.szs (p ++ Cs.mk tg ws y :: q):=Cs.Z4 (by simp)
     rw [Tm.sz] at hN
     rw [Cs.sz] at this
     omega
    have hsy : y.Sh:=Fj.1 hSh.2.2.2.2 (Cs.mk tg ws y) (by simp)
    exact ih y y' hyN hsy hy _ _ q1 r1 ⟨fun m=>by rw [q2,r2,he.c],fun d=>by rw [q3,r3,he.t]⟩ g2 k2
   ·have:=hSh.2.1 hk7
    simp at this
theorem more_lin {k : Int} (hk : k = 8∨k = 9) {t : Tm} (hSh : t.Sh) {a : ByteArray} {s : LS} (hs : s.Ok) (h : t.lin s = 0) : (Tm.mk k 0 a .empty [] [t] []).lin s≠0:=fun h'=>by
 obtain ⟨x,e,p8,p9,-⟩:=linS (by omega) h'
 injection e with e _
 subst e
 rcases hk with rfl | rfl
 ·obtain ⟨-,g⟩:=p8 rfl
  obtain ⟨q1,q2⟩:=LS.F7 hs a
  have:=(Qq6 _ t (Nat.le_refl _) hSh _ _ q1 hs g h).c a
  rw [q2,if_pos rfl] at this
  omega
 ·obtain ⟨g0,g⟩:=p9 rfl
  obtain ⟨q1,q2,-⟩:=LS.Vw hs g0
  have:=(Qq6 _ t (Nat.le_refl _) hSh _ _ q1 hs g h).c a
  rw [q2,if_pos rfl] at this
  omega
theorem Sk {k : Int} (hk : k = 8∨k = 9) : ∀ (l : List ByteArray) (t : Tm),(cnt k l t).stN = l ++ t.stN
 | [],_=>rfl
 | s :: r,t=>by
  rw [cnt,Tm.stN,if_pos (by omega),Tm.J6,Tm.J6,Cs.J6,Sk hk r t]
  simp
theorem Fz {k : Int} (hk : k = 8∨k = 9) : ∀ (l : List ByteArray) (t : Tm),(cnt k l t).Xx = t.Xx
 | [],_=>rfl
 | s :: r,t=>by
  rw [cnt,Tm.Xx,if_neg (by omega),if_neg (by omega),Tm.Jq,Tm.Jq,Cs.Jq,Fz hk r t]
  simp
theorem Sj {k : Int} (hk : k = 8∨k = 9) : ∀ (l : List ByteArray) (t : Tm),(cnt k l t).stT = t.stT
 | [],_=>rfl
 | s :: r,t=>by
  rw [cnt,Tm.stT,if_neg (by omega),Tm.J2,Tm.J2,Cs.J2,Sj hk r t]
  simp
theorem stNL_mem {n : ByteArray} : ∀ {l : List Tm},n∈Tm.J6 l↔∃ x∈l,n∈x.stN
 | []=>by simp [Tm.J6]
 | x :: r=>by simp [Tm.J6,stNL_mem (l:=r)]
theorem cstNL_mem {n : ByteArray} : ∀ {l : List Cs},n∈Cs.J6 l↔∃ x∈l,n∈x.stN
 | []=>by simp [Cs.J6]
 | x :: r=>by simp [Cs.J6,cstNL_mem (l:=r)]
theorem cbdL_mem {n : ByteArray} : ∀ {l : List Cs},n∈Cs.bdL l↔∃ x∈l,n∈x.bd
 | []=>by simp [Cs.bdL]
 | x :: r=>by simp [Cs.bdL,cbdL_mem (l:=r)]
theorem isL_var {k : Int} (hk : k≠6) : ∀ {l : List Tm},Tm.isL k l = true→∀ x∈l,x.tk = 1
 | y :: r,h,x,hx=>by
  rw [Tm.isL,if_neg hk,Bool.and_eq_true] at h
  rcases List.mem_cons.1 hx with rfl | hx
  ·exact of_decide_eq_true h.1
  ·exact isL_var hk h.2 x hx
theorem Qx9 : ∀ {l : List Tm},Tm.isL 6 l = true→∀ x∈l,x.isP = true
 | y :: r,h,x,hx=>by
  rw [Tm.isL,if_pos rfl,Bool.and_eq_true] at h
  rcases List.mem_cons.1 hx with rfl | hx
  ·exact h.1
  ·exact Qx9 h.2 x hx
theorem cisL_all : ∀ {l : List Cs},Cs.isL l = true→∀ t ws y,Cs.mk t ws y∈l→y.isP = true
 | c :: r,h,t,ws,y,hx=>by
  rw [Cs.isL,Bool.and_eq_true] at h
  rcases List.mem_cons.1 hx with e | hx
  ·rw [← e,Cs.isP] at h;exact h.1
  ·exact cisL_all h.2 t ws y hx
theorem rt_var {d : Nat} {x : Tm} (hR : x.Rt d) (h1 : x.tk = 1) : x.stN = [x.nm]∧x.free = [x.nm]∧x.bd = []∧x.Xx = []∧x.stT = []:=by
 cases d with
 | zero=>exact hR.elim
 | succ d =>
  obtain ⟨k,n,a,b,vs,xs,cs⟩:=x
  rw [Tm.tk] at h1
  subst h1
  obtain ⟨-,h2,-,-,-⟩:=hR
  unfold Xq at h2
  simp at h2
  obtain ⟨e1,e2⟩:=h2
  subst e1 e2
  refine ⟨?_,?_,?_,?_,?_⟩
  ·rw [Tm.stN];rfl
  ·rw [Tm.free];rfl
  ·rw [Tm.bd];rfl
  ·rw [Tm.Xx];rfl
  ·rw [Tm.stT];rfl
theorem Av : ∀ (xs : List Tm) (had : List ByteArray) (n : ByteArray),n∈R3 had xs→∃ x∈xs,x.nm = n
 | x :: r,had,n,h=>by
  rw [R3] at h
  split at h
  ·rcases List.mem_cons.1 h with rfl | h
   ·exact ⟨x,by simp,rfl⟩
   ·obtain ⟨y,hy,e⟩:=Av r _ n h
    exact ⟨y,by simp [hy],e⟩
  ·obtain ⟨y,hy,e⟩:=Av r _ n h
   exact ⟨y,by simp [hy],e⟩
theorem V8 {s : ByteArray} {l o : List ByteArray} : s∈inN l o↔s∈l∧s∈o:=by
 unfold inN
 rw [List.mem_filter,Zx]
theorem rt_two {d : Nat} {n : Int} {a b : ByteArray} {vs : List ByteArray} {xs : List Tm} {cs : List Cs} (h : (Tm.mk 6 n a b vs xs cs).Rt (d + 1)) : ∃ x y,xs = [x,y]∧cs = []∧x.Rt d∧y.Rt d:=by
 obtain ⟨-,h2,-,h4,-⟩:=h
 unfold Xq at h2
 simp at h2
 match xs,h2 with
 | [x,y],h2=>exact ⟨x,y,rfl,h2.2,h4 x (by simp),h4 y (by simp)⟩
theorem rt_one {d : Nat} {n : Int} {a b : ByteArray} {vs : List ByteArray} {xs : List Tm} {cs : List Cs} (h : (Tm.mk 7 n a b vs xs cs).Rt (d + 1)) : ∃ x,xs = [x]∧x.Rt d:=by
 obtain ⟨-,h2,-,h4,-⟩:=h
 unfold Xq at h2
 simp at h2
 match xs,h2 with
 | [x],h2=>exact ⟨x,rfl,h4 x (by simp)⟩
theorem rt_none {d : Nat} {k n : Int} {a b : ByteArray} {vs : List ByteArray} {xs : List Tm} {cs : List Cs} (h : (Tm.mk k n a b vs xs cs).Rt (d + 1)) (hk : k = 1∨k = 2) : xs = []:=by
 obtain ⟨-,h2,-,-,-⟩:=h
 unfold Xq at h2
 rcases hk with rfl | rfl <;> simp at h2 <;> exact h2.1
theorem rt_nocs {d : Nat} {k n : Int} {a b : ByteArray} {vs : List ByteArray} {xs : List Tm} {cs : List Cs} (h : (Tm.mk k n a b vs xs cs).Rt (d + 1)) (hk : k≠7) : cs = []:=by
 obtain ⟨-,h2,-,-,-⟩:=h
 unfold Xq at h2
 simp [hk] at h2
 exact h2.2
theorem owL_eq (own : List ByteArray) (nm : ByteArray) : ∀ l : List Cs,Cs.owL l own nm = l.map fun c=>c.ow own nm
 | []=>rfl
 | c :: r=>by rw [Cs.owL,owL_eq own nm r];rfl
theorem st_all : ∀ (d : Nat) (t : Tm) (has : List ByteArray),t.Rt d→t.isP = true →
  (∀ n∈t.stN,n∈(t.ow has).stN)∧(∀ n∈(t.ow has).stN,n∈t.stN∨n∈has∨n∈t.bd)∧(t.ow has).Xx = t.bd∧(∀ n∈t.free,n∈t.stN)∧(∀ n∈t.stN,n∈t.free∨n∈t.bd)∧(t.ow has).stT = []∧t.Xx = t.bd:=by
 intro d
 induction d with
 | zero=>intro t _ h;exact h.elim
 | succ d ih =>
  intro t has hR hP
  obtain ⟨k,n0,a,b,vs,xs,cs⟩:=t
  have hR':=hR
  obtain ⟨hk,-,-,hx,hc⟩:=hR
  rw [Tm.isP,Bool.and_eq_true] at hP
  obtain ⟨hP1,hP2⟩:=hP
  by_cases h6 : k = 6
  ·subst h6
   obtain ⟨x,y,rfl,rfl,hxR,hyR⟩:=rt_two hR'
   have hPx:=Qx9 hP1 x (by simp)
   have hPy:=Qx9 hP1 y (by simp)
   rw [Tm.ow,if_neg (by omega),if_pos rfl]
   generalize hG : woN has (Tm.mk 6 n0 a b vs [x,y] []).free = G
   generalize hO : inN has (Tm.mk 6 n0 a b vs [x,y] []).free = O
   rw [letD,letH,Tm.owZ,Tm.owZ,Tm.owZ]
   simp only [List.headD_cons,List.tail_cons]
   obtain ⟨x1,x2,x3,x4,x5,x6,x7⟩:=ih x (inN O x.free) hxR hPx
   obtain ⟨y1,y2,y3,y4,y5,y6,y7⟩:=ih y (inN O (woN y.free [a]) ++ [a]) hyR hPy
   have hGm : ∀ n∈G,n∈has:=fun n hn=>by rw [← hG] at hn;exact (J8.1 hn).1
   have hOm : ∀ n∈O,n∈has:=fun n hn=>by rw [← hO] at hn;exact (V8.1 hn).1
   have hst : (Tm.mk 6 n0 a b vs [x,y] []).stN = x.stN ++ y.stN:=by rw [Tm.stN];simp [Tm.J6,Cs.J6]
   have hbd : (Tm.mk 6 n0 a b vs [x,y] []).bd = a :: (x.bd ++ y.bd):=by rw [Tm.bd];simp [Tm.bdL,Cs.bdL]
   have hfr : ∀ n,n∈(Tm.mk 6 n0 a b vs [x,y] []).free↔n∈x.free∨(n∈y.free∧n≠a):=fun n=>by
    rw [Tm.free,if_neg (by omega),if_pos ⟨rfl,rfl⟩,Tm.freeL,Tm.freeB,E9,E9,J8]
    simp
   rw [Sk (.inr rfl),Sk (.inl rfl),Fz (.inr rfl),Fz (.inl rfl),Sj (.inr rfl),Sj (.inl rfl),hst,hbd]
   have e1 : (Tm.mk 6 0 a .empty [] [x.ow (inN O x.free),y.ow (inN O (woN y.free [a]) ++ [a])] []).stN = (x.ow (inN O x.free)).stN ++ (y.ow (inN O (woN y.free [a]) ++ [a])).stN:=by rw [Tm.stN];simp [Tm.J6,Cs.J6]
   have e2 : (Tm.mk 6 0 a .empty [] [x.ow (inN O x.free),y.ow (inN O (woN y.free [a]) ++ [a])] []).Xx = a :: (x.bd ++ y.bd):=by rw [Tm.Xx,Tm.Jq,Tm.Jq,Tm.Jq,Cs.Jq,x3,y3];simp
   have e3 : (Tm.mk 6 0 a .empty [] [x.ow (inN O x.free),y.ow (inN O (woN y.free [a]) ++ [a])] []).stT = []:=by rw [Tm.stT,Tm.J2,Tm.J2,Tm.J2,Cs.J2,x6,y6];simp
   rw [e1,e2,e3]
   refine ⟨fun n hn=>?_,fun n hn=>?_,rfl,fun n hn=>?_,fun n hn=>?_,rfl,?_⟩
   ·simp only [List.mem_append] at hn ⊢
    exact hn.elim (fun h=>.inr (.inr (.inl (x1 n h)))) fun h=>.inr (.inr (.inr (y1 n h)))
   ·simp only [List.mem_append] at hn
    simp only [List.mem_append,List.mem_cons]
    rcases hn with hn | hn | hn | hn
    ·exact .inr (.inl (hGm n hn))
    ·exact .inr (.inl (hOm n (V8.1 (V8.1 hn).1).1))
    ·rcases x2 n hn with h | h | h
     ·exact .inl (.inl h)
     ·exact .inr (.inl (hOm n (V8.1 h).1))
     ·exact .inr (.inr (.inr (.inl h)))
    ·rcases y2 n hn with h | h | h
     ·exact .inl (.inr h)
     ·rcases List.mem_append.1 h with h | h
      ·exact .inr (.inl (hOm n (V8.1 h).1))
      ·exact .inr (.inr (.inl (by simpa using h)))
     ·exact .inr (.inr (.inr (.inr h)))
   ·rw [hfr] at hn
    simp only [List.mem_append]
    exact hn.elim (fun h=>.inl (x4 n h)) fun h=>.inr (y4 n h.1)
   ·simp only [List.mem_append] at hn
    simp only [List.mem_cons,List.mem_append]
    rw [hfr]
    rcases hn with hn | hn
    ·rcases x5 n hn with h | h
     ·exact .inl (.inl h)
     ·exact .inr (.inr (.inl h))
    ·rcases y5 n hn with h | h
     ·by_cases e : n = a
      ·exact .inr (.inl e)
      ·exact .inl (.inr ⟨h,e⟩)
     ·exact .inr (.inr (.inr h))
   ·rw [Tm.Xx,Tm.Jq,Tm.Jq,Tm.Jq,Cs.Jq,x7,y7];simp
  ·have hvar:=isL_var h6 hP1
   have hxs : Tm.Jq xs = []∧Tm.bdL xs = []∧Tm.J2 xs = []∧(∀ n,n∈Tm.J6 xs↔∃ x∈xs,x.nm = n):=by
    have : ∀ l : List Tm,(∀ x∈l,x∈xs)→Tm.Jq l = []∧Tm.bdL l = []∧Tm.J2 l = []:=by
     intro l
     induction l with
     | nil=>intro _;exact ⟨rfl,rfl,rfl⟩
     | cons x r ih2 =>
      intro hm
      obtain ⟨e1,e2,e3⟩:=ih2 fun z hz=>hm z (by simp [hz])
      obtain ⟨-,-,q3,q4,q5⟩:=rt_var (hx x (hm x (by simp))) (hvar x (hm x (by simp)))
      rw [Tm.Jq,Tm.bdL,Tm.J2,e1,e2,e3,q3,q4,q5]
      exact ⟨rfl,rfl,rfl⟩
    obtain ⟨e1,e2,e3⟩:=this xs fun _ h=>h
    refine ⟨e1,e2,e3,fun n=>?_⟩
    rw [stNL_mem]
    refine ⟨fun ⟨x,h1,h2⟩=>⟨x,h1,?_⟩,fun ⟨x,h1,h2⟩=>⟨x,h1,?_⟩⟩
    ·rw [(rt_var (hx x h1) (hvar x h1)).1] at h2;exact (List.mem_singleton.1 h2).symm
    ·rw [(rt_var (hx x h1) (hvar x h1)).1];simp [h2]
   obtain ⟨o1,o2,o3,o4⟩:=hxs
   have hfx : ∀ n,(∃ x∈xs,n∈x.free)↔∃ x∈xs,x.nm = n:=fun n=>by
    refine ⟨fun ⟨x,h1,h2⟩=>⟨x,h1,?_⟩,fun ⟨x,h1,h2⟩=>⟨x,h1,?_⟩⟩
    ·rw [(rt_var (hx x h1) (hvar x h1)).2.1] at h2;exact (List.mem_singleton.1 h2).symm
    ·rw [(rt_var (hx x h1) (hvar x h1)).2.1];simp [h2]
   by_cases h7 : k = 7
   ·subst h7
    have hst : ∀ n,n∈(Tm.mk 7 n0 a b vs xs cs).stN↔(∃ x∈xs,x.nm = n)∨∃ c∈cs,n∈c.stN:=fun n=>by
     rw [Tm.stN,if_neg (by omega),List.nil_append,List.mem_append,o4,cstNL_mem]
    have hbd : ∀ n,n∈(Tm.mk 7 n0 a b vs xs cs).bd↔∃ c∈cs,n∈c.bd:=fun n=>by
     rw [Tm.bd,if_neg (by omega),o2,List.nil_append,List.nil_append,cbdL_mem]
    have hfr : ∀ n,n∈(Tm.mk 7 n0 a b vs xs cs).free↔(∃ x∈xs,x.nm = n)∨∃ c∈cs,n∈c.Lj:=fun n=>by
     rw [Tm.free,if_neg (by omega),if_neg (by omega),if_neg (by omega),Qx3,mem_frees,hfx]
     simp
    rw [Tm.ow,if_neg (by omega),if_neg (by omega),if_pos rfl]
    generalize hG : woN has (Tm.mk 7 n0 a b vs xs cs).free = G
    generalize hO : inN has (Tm.mk 7 n0 a b vs xs cs).free = O
    have hGm : ∀ n∈G,n∈has:=fun n hn=>by rw [← hG] at hn;exact (J8.1 hn).1
    have hOm : ∀ n∈O,n∈has:=fun n hn=>by rw [← hO] at hn;exact (V8.1 hn).1
    obtain ⟨x0,rfl,hx0⟩:=rt_one hR'
    have hnm : nmH [x0] = x0.nm:=rfl
    rw [Sk (.inr rfl),Fz (.inr rfl),Sj (.inr rfl),hnm,owL_eq]
    -- one case
    have hcase : ∀ t ws y,Cs.mk t ws y∈cs→∃ H,(Cs.mk t ws y).ow O x0.nm = .mk t ws (cnt 8 (inN ws y.free) (cnt 9 (if hasB y.free x0.nm then [] else [x0.nm]) (y.ow H)))∧(∀ n∈H,n∈has∨n∈ws) ∧
      (∀ n∈y.stN,n∈(y.ow H).stN)∧(∀ n∈(y.ow H).stN,n∈y.stN∨n∈H∨n∈y.bd)∧(y.ow H).Xx = y.bd∧(∀ n∈y.free,n∈y.stN)∧(∀ n∈y.stN,n∈y.free∨n∈y.bd)∧(y.ow H).stT = []∧y.Xx = y.bd:=fun t ws y hm=>by
     refine ⟨if hasB y.free x0.nm then O ++ inN ws y.free else woN (O ++ inN ws y.free) [x0.nm],by rw [Cs.ow],fun n hn=>?_,ih y _ (hc _ hm).2 (cisL_all hP2 t ws y hm)⟩
     have : n∈O ++ inN ws y.free:=by
      split at hn
      ·exact hn
      ·exact (J8.1 hn).1
     rcases List.mem_append.1 this with h | h
     ·exact .inl (hOm n h)
     ·exact .inr (V8.1 h).1
    have ec : ∀ (t : Int) (ws : List ByteArray) (y : Tm) (H : List ByteArray),(Cs.mk t ws (cnt 8 (inN ws y.free) (cnt 9 (if hasB y.free x0.nm then [] else [x0.nm]) (y.ow H)))).stN = inN ws y.free ++ ((if hasB y.free x0.nm then [] else [x0.nm]) ++ (y.ow H).stN):=fun t ws y H=>by
     rw [Cs.stN,Sk (.inl rfl),Sk (.inr rfl)]
    have hst2 : ∀ n,n∈(Tm.mk 7 0 .empty .empty [] [x0] (cs.map fun c=>c.ow O x0.nm)).stN↔n = x0.nm∨∃ c∈cs,n∈(c.ow O x0.nm).stN:=fun n=>by
     rw [Tm.stN,if_neg (by omega),List.nil_append,List.mem_append,o4,cstNL_mem]
     constructor
     ·rintro (⟨x,h1,h2⟩ | ⟨c,h1,h2⟩)
      ·exact .inl (by rw [← h2,List.mem_singleton.1 h1])
      ·obtain ⟨c0,hc0,rfl⟩:=List.mem_map.1 h1
       exact .inr ⟨c0,hc0,h2⟩
     ·rintro (rfl | ⟨c,h1,h2⟩)
      ·exact .inl ⟨x0,by simp,rfl⟩
      ·exact .inr ⟨_,List.mem_map.2 ⟨c,h1,rfl⟩,h2⟩
    refine ⟨fun n hn=>?_,fun n hn=>?_,?_,fun n hn=>?_,fun n hn=>?_,?_,?_⟩
    ·rw [List.mem_append,hst2]
     rcases (hst n).1 hn with ⟨x,h1,h2⟩ | ⟨c,h1,h2⟩
     ·simp only [List.mem_singleton] at h1;subst h1;exact .inr (.inl h2.symm)
     ·refine .inr (.inr ⟨c,h1,?_⟩)
      obtain ⟨t,ws,y⟩:=c
      obtain ⟨H,e,-,p1,-⟩:=hcase t ws y h1
      rw [e,ec]
      rw [Cs.stN] at h2
      simp only [List.mem_append]
      exact .inr (.inr (p1 n h2))
    ·rw [List.mem_append,hst2] at hn
     rw [hst,hbd]
     rcases hn with hn | hn | ⟨c,h1,h2⟩
     ·exact .inr (.inl (hGm n hn))
     ·exact .inl (.inl ⟨x0,by simp,hn.symm⟩)
     ·obtain ⟨t,ws,y⟩:=c
      obtain ⟨H,e,pH,p1,p2,-⟩:=hcase t ws y h1
      rw [e,ec] at h2
      simp only [List.mem_append] at h2
      have hb : ∀ m,m∈ws→∃ c∈cs,m∈c.bd:=fun m hm=>⟨_,h1,by rw [Cs.bd];simp [hm]⟩
      rcases h2 with h2 | h2 | h2
      ·exact .inr (.inr (hb n (V8.1 h2).1))
      ·have : n = x0.nm:=by
        split at h2
        ·simp at h2
        ·simpa using h2
       exact .inl (.inl ⟨x0,by simp,this.symm⟩)
      ·rcases p2 n h2 with h | h | h
       ·exact .inl (.inr ⟨_,h1,by rw [Cs.stN];exact h⟩)
       ·rcases pH n h with h | h
        ·exact .inr (.inl h)
        ·exact .inr (.inr (hb n h))
       ·exact .inr (.inr ⟨_,h1,by rw [Cs.bd];simp [h]⟩)
    ·rw [Tm.Xx,if_neg (by omega),if_neg (by omega),o1,Tm.bd,if_neg (by omega),o2]
     simp only [List.nil_append]
     have : ∀ l : List Cs,(∀ c∈l,c∈cs)→Cs.Jq (l.map fun c=>c.ow O x0.nm) = Cs.bdL l:=by
      intro l
      induction l with
      | nil=>intro _;rfl
      | cons c r ih2 =>
       intro hm
       obtain ⟨t,ws,y⟩:=c
       obtain ⟨H,e,-,-,-,p3,-⟩:=hcase t ws y (hm _ (by simp))
       rw [List.map_cons,Cs.Jq,Cs.bdL,ih2 fun z hz=>hm z (by simp [hz]),e,Cs.Xx,Fz (.inl rfl),Fz (.inr rfl),p3,Cs.bd]
     exact this cs fun _ h=>h
    ·rw [hst]
     rcases (hfr n).1 hn with h | ⟨c,h1,h2⟩
     ·exact .inl h
     ·obtain ⟨t,ws,y⟩:=c
      obtain ⟨H,-,-,-,-,-,p4,-⟩:=hcase t ws y h1
      rw [Cs.Lj,J8] at h2
      exact .inr ⟨_,h1,by rw [Cs.stN];exact p4 n h2.1⟩
    ·rw [hfr,hbd]
     rcases (hst n).1 hn with h | ⟨c,h1,h2⟩
     ·exact .inl (.inl h)
     ·obtain ⟨t,ws,y⟩:=c
      obtain ⟨H,-,-,-,-,-,-,p5,-⟩:=hcase t ws y h1
      rw [Cs.stN] at h2
      rcases p5 n h2 with h | h
      ·by_cases hw : n∈ws
       ·exact .inr ⟨_,h1,by rw [Cs.bd];simp [hw]⟩
       ·exact .inl (.inr ⟨_,h1,by rw [Cs.Lj,J8];exact ⟨h,hw⟩⟩)
      ·exact .inr ⟨_,h1,by rw [Cs.bd];simp [h]⟩
    ·rw [Tm.stT,if_neg (by omega),o3]
     simp only [List.nil_append]
     have : ∀ l : List Cs,(∀ c∈l,c∈cs)→Cs.J2 (l.map fun c=>c.ow O x0.nm) = []:=by
      intro l
      induction l with
      | nil=>intro _;rfl
      | cons c r ih2 =>
       intro hm
       obtain ⟨t,ws,y⟩:=c
       obtain ⟨H,e,-,-,-,-,-,-,p6,-⟩:=hcase t ws y (hm _ (by simp))
       rw [List.map_cons,Cs.J2,ih2 fun z hz=>hm z (by simp [hz]),e,Cs.stT,Sj (.inl rfl),Sj (.inr rfl),p6];rfl
     exact this cs fun _ h=>h
    ·rw [Tm.Xx,if_neg (by omega),if_neg (by omega),o1,Tm.bd,if_neg (by omega),o2]
     simp only [List.nil_append]
     have : ∀ l : List Cs,(∀ c∈l,c∈cs)→Cs.Jq l = Cs.bdL l:=by
      intro l
      induction l with
      | nil=>intro _;rfl
      | cons c r ih2 =>
       intro hm
       obtain ⟨t,ws,y⟩:=c
       obtain ⟨H,-,-,-,-,-,-,-,-,p7⟩:=hcase t ws y (hm _ (by simp))
       rw [Cs.Jq,Cs.bdL,ih2 fun z hz=>hm z (by simp [hz]),Cs.Xx,p7,Cs.bd]
     exact this cs fun _ h=>h
   ·have hcs:=rt_nocs hR' h7
    subst hcs
    have hst : ∀ n,n∈(Tm.mk k n0 a b vs xs []).stN↔(k = 1∧n = a)∨∃ x∈xs,x.nm = n:=fun n=>by
     rw [Tm.stN,List.mem_append,Cs.J6,List.append_nil,o4]
     by_cases e : k = 1
     ·rw [if_pos (.inl e)];simp [e]
     ·rw [if_neg (by omega)];simp [e]
    have hbd : (Tm.mk k n0 a b vs xs []).bd = []:=by rw [Tm.bd,if_neg h6,o2];rfl
    have how : (Tm.mk k n0 a b vs xs []).Xx = []:=by rw [Tm.Xx,if_neg h6,if_neg (by omega),o1];rfl
    have hsT : (Tm.mk k n0 a b vs xs []).stT = []:=by rw [Tm.stT,if_neg (by omega),o3];rfl
    have hfr : ∀ n,n∈(Tm.mk k n0 a b vs xs []).free↔(k = 1∧n = a)∨∃ x∈xs,x.nm = n:=fun n=>by
     rw [Tm.free]
     by_cases e : k = 1
     ·subst e
      rw [if_pos rfl,rt_none hR' (.inl rfl)];simp
     ·rw [if_neg e,if_neg (by omega),if_neg (by omega),Qx3,mem_frees,hfx]
      simp [e]
    have hGm : ∀ n∈woN has (Tm.mk k n0 a b vs xs []).free,n∈has:=fun n hn=>(J8.1 hn).1
    rw [Tm.ow,if_neg h6,if_neg h7]
    by_cases h3 : k = 3∨k = 4∨k = 5
    ·rw [if_pos h3,Sk (.inr rfl),Sk (.inl rfl),Fz (.inr rfl),Fz (.inl rfl),Sj (.inr rfl),Sj (.inl rfl),hbd,how,hsT]
     refine ⟨fun n hn=>by simp [hn],fun n hn=>?_,rfl,fun n hn=>by rw [hst];exact (hfr n).1 hn,fun n hn=>.inl ((hfr n).2 ((hst n).1 hn)),rfl,rfl⟩
     simp only [List.mem_append] at hn
     rcases hn with hn | hn | hn
     ·exact .inr (.inl (hGm n hn))
     ·rw [hst];exact .inl (.inr (Av xs [] n hn))
     ·exact .inl hn
    ·rw [if_neg h3,Sk (.inr rfl),Fz (.inr rfl),Sj (.inr rfl),hbd,how,hsT]
     refine ⟨fun n hn=>by simp [hn],fun n hn=>?_,rfl,fun n hn=>by rw [hst];exact (hfr n).1 hn,fun n hn=>.inl ((hfr n).2 ((hst n).1 hn)),rfl,rfl⟩
     rcases List.mem_append.1 hn with hn | hn
     ·exact .inr (.inl (hGm n hn))
     ·exact .inl hn
def NW (s : ByteArray) : Prop:=∀ i,s≠wNm i
def AgE (env env' : Env) : Prop:=∀ s,NW s→envVal env' s = envVal env s
theorem AgE.cons {env env' : Env} (h : AgE env env') (a : ByteArray) (u : Vl) : AgE ((a,u) :: env) ((a,u) :: env'):=fun s hs=>by
 rw [Ej,Ej]
 split
 ·rfl
 ·exact h s hs
theorem AgE.step {env env' : Env} (h : AgE env env') (i : Int) (u : Vl) : AgE env ((wNm i,u) :: env'):=fun s hs=>by
 rw [Ej,if_neg fun e=>hs i e.symm]
 exact h s hs
theorem AgE.bind : ∀ {ws : List ByteArray} {vs : List Vl} {env env' : Env},AgE env env'→AgE (O6 ws vs env) (O6 ws vs env')
 | [],vs,env,env',h=>by simpa [O6] using h
 | w :: ws,[],env,env',h=>by simpa [O6] using h
 | w :: ws,v :: vs,env,env',h=>by
  rw [Qj7,Qj7]
  exact AgE.bind (h.cons w v)
structure PlOk (A : Y3) (x : Fn) : Prop where
 rt : x.body.Rt 25
 wrong : x.body.wrong A x.params 0 = 0
 params : ∀ s∈x.params,NW s
 bd : ∀ s∈x.body.bd,NW s
 sz : (x.body.sz : Int) < 9223372036854775807
theorem around_isP : ∀ (bs : Bs) (t : Tm),(∀ b∈bs,b.2.isP = true)→t.isP = true→(around bs t).isP = true
 | [],t,_,h=>h
 | b :: r,t,hb,h=>by
  have h1:=hb b (List.mem_cons_self ..)
  have h2:=around_isP r t (fun x hx=>hb x (List.mem_cons_of_mem _ hx)) h
  simp [around,Tm.isP,Tm.isL,Cs.isL,h1,h2]
theorem isL_vars {k : Int} (hk : k≠6) : ∀ l : List Tm,(∀ x∈l,x.tk = 1)→Tm.isL k l = true
 | [],_=>rfl
 | x :: r,h=>by
  rw [Tm.isL,if_neg hk,isL_vars hk r fun y hy=>h y (List.mem_cons_of_mem _ hy),h x (List.mem_cons_self ..)]
  rfl
theorem ats_vars : ∀ (l : List Tm) (c : Int),∀ x∈(Tm.ats l c).1,x.tk = 1
 | [],c,x,hx=>by simp [Tm.ats] at hx
 | y :: r,c,x,hx=>by
  rw [Tm.ats] at hx
  by_cases h : y.tk = 1
  ·rw [if_pos h] at hx
   rcases List.mem_cons.1 hx with rfl | hx
   ·exact h
   ·exact ats_vars r _ x hx
  ·rw [if_neg h] at hx
   rcases List.mem_cons.1 hx with rfl | hx
   ·rfl
   ·exact ats_vars r _ x hx
theorem pl_isP : ∀ (d : Nat) (t : Tm) (c : Int),t.Rt d→(t.pl c).1.isP = true:=by
 intro d
 induction d with
 | zero=>intro t _ h;exact h.elim
 | succ d ih =>
 intro t c hR
 obtain ⟨k,n,a,b,vs,xs,cs⟩:=t
 have hR':=hR
 obtain ⟨hk,hmany,_,hx,hc⟩:=hR'
 have hA : ∀ (ys : List Tm) (c : Int),(∀ y∈ys,y∈xs)→∀ b∈(Tm.ats ys c).2.1,b.2.isP = true:=by
  intro ys
  induction ys with
  | nil=>intro c _ b hb;simp [Tm.ats] at hb
  | cons y r ih2 =>
   intro c hm b hb
   rw [Tm.ats] at hb
   by_cases h : y.tk = 1
   ·rw [if_pos h] at hb
    exact ih2 _ (fun z hz=>hm z (List.mem_cons_of_mem _ hz)) b hb
   ·rw [if_neg h] at hb
    rcases List.mem_cons.1 hb with rfl | hb
    ·exact ih y _ (hx y (hm y (List.mem_cons_self ..)))
    ·exact ih2 _ (fun z hz=>hm z (List.mem_cons_of_mem _ hz)) b hb
 have hL : ∀ (ys : List Tm) (c : Int),(∀ y∈ys,y∈xs)→Tm.isL 6 (Tm.plL ys c).1 = true:=by
  intro ys
  induction ys with
  | nil=>intro c _;rfl
  | cons y r ih2 =>
   intro c hm
   rw [Tm.plL,Tm.isL,if_pos rfl,ih y _ (hx y (hm y (List.mem_cons_self ..))),ih2 _ fun z hz=>hm z (List.mem_cons_of_mem _ hz)]
   rfl
 have hC : ∀ (ys : List Cs) (c : Int),(∀ y∈ys,y∈cs)→Cs.isL (Cs.plL ys c).1 = true:=by
  intro ys
  induction ys with
  | nil=>intro c _;rfl
  | cons y r ih2 =>
   intro c hm
   have hy:=hc y (hm y (List.mem_cons_self ..))
   obtain ⟨t,ws,y⟩:=y
   rw [Cs.plL,Cs.isL,ih2 _ fun z hz=>hm z (List.mem_cons_of_mem _ hz),Cs.pl,Cs.isP,ih y _ hy.2]
   rfl
 rw [Tm.pl]
 split
 ·rename_i h
  refine around_isP _ _ (hA xs c fun _ h=>h) ?_
  rw [Tm.isP,isL_vars (by omega) _ (ats_vars xs c)]
  rfl
 split
 ·rename_i h
  rw [Tm.isP,hL xs c fun _ h=>h]
  rfl
 split
 ·rename_i h
  refine around_isP _ _ (hA xs c fun _ h=>h) ?_
  rw [Tm.isP,isL_vars (by omega) _ (ats_vars xs c),hC cs _ fun _ h=>h]
  rfl
 ·have h1 : k = 1∨k = 2:=by omega
  have h2 : xs = []∧cs = []:=by
   unfold Xq at hmany
   rcases h1 with rfl | rfl <;> simpa using hmany
  obtain ⟨rfl,rfl⟩:=h2
  rfl
theorem seqV_nw {c : Int} {n : Nat} : ∀ s∈C9 c n,NW s:=fun s hs i=>by
 unfold C9 at hs
 obtain ⟨j,_,rfl⟩:=List.mem_map.1 hs
 exact vNm_ne_wNm _ _
theorem Fn.Right.plOk {A : Y3} {x : Fn} (h : x.Right A) (hr : x.body.Rt 25) : PlOk A x.rn:=by
 have hb:=(h.rnOk hr).bd
 obtain ⟨e1,e2⟩:=Tw x.params 0 (by omega) (by omega)
 have hp : x.rn.params = C9 0 x.params.length:=e1
 have hR:=h.rn hr
 have hsz:=hR.sz
 obtain ⟨h3,_⟩:=bd_rn 25 x.body (x.params.zip (J5 x.params 0)) (U5 x.params 0) hr (by omega) (by omega)
 exact ⟨x.rn_rt hr,hR.wrong,by rw [hp];exact seqV_nw,fun s hs=>seqV_nw s (h3.mem_iff.1 hs),by omega⟩
theorem pl_body {l : List Fn} (hl : Gv l) (h : Y8 l = 0) : ∀ y∈l.map Fn.pl,y.body.Ok∧y.body.Rt 175∧y.body.isP = true:=fun y hy=>by
 obtain ⟨x,hx,rfl⟩:=List.mem_map.1 hy
 obtain ⟨h1,h2,h3⟩:=Tx hl h x hx
 exact ⟨(x.pl_ok h1 h2 h3).1,pl_rt 25 x.rn.body 0 (x.rn_rt h2),pl_isP 25 x.rn.body 0 (x.rn_rt h2)⟩
end Go.Proofs.YtjpldhjgehoffaaDoor
