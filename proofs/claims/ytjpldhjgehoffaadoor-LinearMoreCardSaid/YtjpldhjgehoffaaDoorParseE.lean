import Derived.Test.YtjpldhjgehoffaaDoorCheckA
import Derived.Lib.AtoiAll
import Derived.Lib.AtoiAllCases
import Derived.Lib.AtoiErrMem
namespace Go.Proofs.YtjpldhjgehoffaaDoor
open Go.RowKit
attribute [local simp] Cq mkRc ldOf stOf Qz4 Fq M4 Rq K7 V3 Yv K4 J7 Y9 L9 evA Kv G8 Value.oneCell' Zj Q4 Z7 Iz Vz Z0 AS.after Z8 K8 Jv AV.ids Mq Qz.ids Qj3 F9 Wv U9 G6 Y0 Y5 Kk V9 V7 Yz Ov T9 setAt Vj Cj Gq Pj R9 Pk binI AV.cells J9 Jz R8 U1 AV.kill Qz.kill AV.has AV.K9 Op.operands Call.operands Gj Hw Zv Oz Zz Xz Tk moQ M6 Uz Yw AV.ren Tj Qz.ren Qz.like kept X8 M5 AV.frz Pz Cw Ex H9 F3 AS.frz Mv Uw Qz.frz Rx Rj bleF Nat.ble_eq R4 Ww K3 D.Yx F5 Uv Vx Vq phO Px Gz Wx U0 K6 Low Sq
set_option linter.unusedVariables false
set_option linter.unusedSimpArgs false
def twB (l : List ByteArray) : Bool:=(List.range l.length).any fun j=>match l[j]? with | some x=>hasB (l.take j) x | none=>false
theorem twB_yes {l : List ByteArray} {i : Nat} {x : ByteArray} (h : l[i]? = some x) (hc : hasB (l.take i) x = true) : twB l = true:=by
 unfold twB
 rw [List.any_eq_true]
 exact ⟨i,List.mem_range.2 (List.getElem?_eq_some_iff.1 h).1,by rw [h];exact hc⟩
theorem twB_no {l : List ByteArray} (h : ∀ j < l.length,∀ x,l[j]? = some x→hasB (l.take j) x = false) : twB l = false:=by
 unfold twB
 rw [List.any_eq_false]
 intro j hj
 have:=h j (List.mem_range.1 hj)
 revert this
 cases l[j]? with
 | none=>simp
 | some c=>intro h;simp [h c rfl]
theorem twB_snoc {l : List ByteArray} {i : Nat} {x : ByteArray} (h1 : l[i]? = some x) (ht : ∀ j < i,∀ x,l[j]? = some x→hasB (l.take j) x = false) (hc : hasB (l.take i) x = false) : ∀ j < i + 1,∀ x,l[j]? = some x→hasB (l.take j) x = false:=fun j hj c' hc'=>by
 rcases Nat.lt_or_ge j i with hlt | hge
 ·exact ht j hlt c' hc'
 ·obtain rfl : j = i:=by omega
  rw [h1] at hc'
  cases hc'
  exact hc
set_option maxHeartbeats 1000000 in
theorem sp_twice (l : List ByteArray) (hl : l.length≤8796093022208) : Qw Tryd.prog 28 [X6 l] (fun _=>.d (.bool (twB l))) none:=by
 refine Qw.of Tryd.func28 rfl rfl rfl (Nat.le_of_ble_eq_true rfl) ?_
 show AWp _ _ (Zk _ Tryd.f28 _ _ _) (Z7 18 _)
 repeat (first | refine AWp.seq ?_ | refine AWp.block ?_)
 apply AWp.reg [] []
 ·conv=>lhs;simp
 ·trivial
 repeat (first | refine AWp.seq ?_ | refine AWp.block ?_)
 apply AWp.reg [] []
 ·conv=>lhs;simp
 ·trivial
 repeat (first | refine AWp.seq ?_ | refine AWp.block ?_)
 refine AWp.loop (σ:=fun u : {i : Nat // i≤l.length∧∀ j < i,∀ x,l[j]? = some x→hasB (l.take j) x = false}=>⟨18,[(0,X6 l),(5,X6 l),(6,.d (.int l.length)),(7,.d (.int u.1))],[]⟩)
  (μ:=fun u=>l.length - u.1) ⟨0,Nat.zero_le _,by simp⟩ (Le.sub (by simp) (by simp)) (fun ⟨i,hi,ht⟩=>?_)
 dsimp only
 repeat (first | refine AWp.seq ?_ | refine AWp.block ?_)
 apply AWp.reg [] []
 ·conv=>lhs;simp
 ·trivial
 repeat (first | refine AWp.seq ?_ | refine AWp.block ?_)
 refine AWp.cond rfl (fun h=>?_) (fun h=>?_)
 ·have hi1 : i < l.length:=by have:=of_decide_eq_true h;omega
  have h1 : l[i]? = some l[i]:=List.getElem?_eq_getElem hi1
  generalize l[i] = x at h1
  have hp:=sp_Has (l.take i) x (by simp;omega)
  have hs:=fun hc=>twB_snoc (i:=i) h1 ht hc
  have hy:=fun hc=>twB_yes (i:=i) h1 hc
  have htl : (l.map Zw).take i = (l.take i).map Zw:=by rw [List.map_take]
  obtain ⟨T,hT⟩ : ∃ T,T = l.take i:=⟨_,rfl⟩
  rw [← hT] at hp hs hy htl
  obtain ⟨B,hB⟩ : ∃ B,B = hasB T x:=⟨_,rfl⟩
  rw [← hB] at hp hs hy
  refine AWp.skip ?_
  refine AWp.rg [] [] ?_ (hr:=by conv=>lhs;simp [h1])
  cases B with
  | true =>
   repeat (first | refine AWp.seq ?_ | refine AWp.block ?_)
   apply AWp.reg [] [.p (fun _=>.d (.bool true)) none]
   ·conv=>lhs;simp [htl]
   ·exact ⟨by omega,hp⟩
   refine AWp.cy ?_
   refine AWp.rg [] [] ?_
   refine AWp.ret ?_
   try dsimp only [Qq,Q8]
   apply Zk.ret
   ·rfl
   ·conv=>lhs;simp [Q9,Tryd.results28]
   rw [hy rfl];rfl
  | false =>
   repeat (first | refine AWp.seq ?_ | refine AWp.block ?_)
   apply AWp.reg [] [.p (fun _=>.d (.bool false)) none]
   ·conv=>lhs;simp [htl]
   ·exact ⟨by omega,hp⟩
   refine AWp.cn ?_
   refine AWp.skip ?_
   refine AWp.rg [] [] ?_
   refine ⟨⟨i + 1,hi1,hs rfl⟩,by simp;omega,Le.sub (by simp) (by simp)⟩
 have hi1 : i = l.length:=by have:=of_decide_eq_false h;omega
 subst hi1
 have hn:=twB_no ht
 refine AWp.exit ?_
 repeat (first | refine AWp.seq ?_ | refine AWp.block ?_)
 apply AWp.reg [] []
 ·conv=>lhs;simp
 ·trivial
 refine AWp.ret ?_
 try dsimp only [Qq,Q8]
 apply Zk.ret
 ·rfl
 ·conv=>lhs;simp [Q9,Tryd.results28]
 rw [hn];rfl
def badB (l : List ByteArray) : Bool:=l.any fun s=>!Gx s
set_option maxHeartbeats 1000000 in
theorem sp_bad (l : List ByteArray) (hl : l.length≤8796093022208) (hs : ∀ s∈l,s.size≤9223372036854775806) : Qw Tryd.prog 29 [X6 l] (fun _=>.d (.bool (badB l))) none:=by
 refine Qw.of Tryd.func29 rfl rfl rfl (Nat.le_of_ble_eq_true rfl) ?_
 show AWp _ _ (Zk _ Tryd.f29 _ _ _) (Z7 15 _)
 repeat (first | refine AWp.seq ?_ | refine AWp.block ?_)
 apply AWp.reg [] []
 ·conv=>lhs;simp
 ·trivial
 repeat (first | refine AWp.seq ?_ | refine AWp.block ?_)
 apply AWp.reg [] []
 ·conv=>lhs;simp
 ·trivial
 repeat (first | refine AWp.seq ?_ | refine AWp.block ?_)
 refine AWp.loop (σ:=fun u : {i : Nat // i≤l.length∧∀ y∈l.take i,(!Gx y) = false}=>⟨15,[(5,X6 l),(6,.d (.int l.length)),(7,.d (.int u.1))],[]⟩)
  (μ:=fun u=>l.length - u.1) ⟨0,Nat.zero_le _,by simp⟩ (Le.sub (by simp) (by simp)) (fun ⟨i,hi,ht⟩=>?_)
 dsimp only
 repeat (first | refine AWp.seq ?_ | refine AWp.block ?_)
 apply AWp.reg [] []
 ·conv=>lhs;simp
 ·trivial
 repeat (first | refine AWp.seq ?_ | refine AWp.block ?_)
 refine AWp.cond rfl (fun h=>?_) (fun h=>?_)
 ·have hi1 : i < l.length:=by have:=of_decide_eq_true h;omega
  have h1 : l[i]? = some l[i]:=List.getElem?_eq_getElem hi1
  have hmem : l[i]∈l:=List.getElem_mem hi1
  generalize l[i] = x at h1 hmem
  have hp:=sp_Name x (hs x hmem)
  obtain ⟨B,hB⟩ : ∃ B,B = Gx x:=⟨_,rfl⟩
  rw [← hB] at hp
  refine AWp.skip ?_
  refine AWp.rg [] [] ?_ (hr:=by conv=>lhs;simp [h1])
  cases B with
  | true =>
   repeat (first | refine AWp.seq ?_ | refine AWp.block ?_)
   apply AWp.reg [] [.p (fun _=>.d (.bool true)) none]
   ·conv=>lhs;simp
   ·exact hp
   refine AWp.cn ?_
   refine AWp.skip ?_
   refine AWp.rg [] [] ?_
   refine ⟨⟨i + 1,hi1,take_all_snoc h1 ht (by rw [← hB];rfl)⟩,by simp;omega,Le.sub (by simp) (by simp)⟩
  | false =>
   repeat (first | refine AWp.seq ?_ | refine AWp.block ?_)
   apply AWp.reg [] [.p (fun _=>.d (.bool false)) none]
   ·conv=>lhs;simp
   ·exact hp
   refine AWp.cy ?_
   refine AWp.rg [] [] ?_
   refine AWp.ret ?_
   try dsimp only [Qq,Q8]
   apply Zk.ret
   ·rfl
   ·conv=>lhs;simp [Q9,Tryd.results29]
   rw [show badB l = true from List.any_eq_true.2 ⟨x,hmem,by rw [← hB];rfl⟩];rfl
 have hi1 : i = l.length:=by have:=of_decide_eq_false h;omega
 subst hi1
 rw [List.take_length] at ht
 refine AWp.exit ?_
 repeat (first | refine AWp.seq ?_ | refine AWp.block ?_)
 apply AWp.reg [] []
 ·conv=>lhs;simp
 ·trivial
 refine AWp.ret ?_
 try dsimp only [Qq,Q8]
 apply Zk.ret
 ·rfl
 ·conv=>lhs;simp [Q9,Tryd.results29]
 rw [show badB l = false from List.any_eq_false.2 fun y hy=>by rw [ht y hy];simp];rfl
abbrev nmObj : Qz:=.blk 73 [.d (.fn 27)]
abbrev fnsObj (ents : List (D×List D)) : Qz:=.map true false 1 ents
inductive Vl where
 | mk (con : Bool) (n : Int) (kids : List Vl)
def Vl.con : Vl→Bool | .mk c _ _=>c
def Vl.n : Vl→Int | .mk _ n _=>n
def Vl.kids : Vl→List Vl | .mk _ _ k=>k
mutual
def Vl.row : Vl→List D
 | .mk c n ks=>[.bool c,.int n,.sl (Vl.rows ks)]
def Vl.rows : List Vl→List (List D)
 | []=>[]
 | t :: r=>t.row :: Vl.rows r
end
theorem Vl.Q3 (l : List Vl) : Vl.rows l = l.map Vl.row:=by
 induction l with
 | nil=>rfl
 | cons t r ih=>simp only [Vl.rows,List.map_cons,ih]
mutual
def Vl.sz : Vl→Nat
 | .mk _ _ ks=>1 + Vl.szs ks
def Vl.szs : List Vl→Nat
 | []=>0
 | t :: r=>t.sz + Vl.szs r
end
theorem Vl.Z4 {t : Vl} : ∀ {l : List Vl},t∈l→t.sz≤Vl.szs l
 | [],h=>by cases h
 | x :: l,h=>by
  simp only [Vl.szs]
  rcases List.mem_cons.1 h with rfl | h
  ·omega
  ·have:=Vl.Z4 h;omega
mutual
def Vl.Ok : Vl→Prop
 | .mk _ n ks=>(-9223372036854775808≤n∧n≤9223372036854775807)∧ks.length≤3518437208883∧Vl.Oks ks
def Vl.Oks : List Vl→Prop
 | []=>True
 | t :: r=>t.Ok∧Vl.Oks r
end
theorem Vl.Zq : ∀ {l : List Vl},Vl.Oks l↔∀ t∈l,t.Ok
 | []=>by simp [Vl.Oks]
 | t :: r=>by simp [Vl.Oks,Vl.Zq (l:=r)]
theorem Vl.sz_kid {c : Bool} {n : Int} {ks : List Vl} {x : Vl} (hx : x∈ks) : x.sz < (Vl.mk c n ks).sz:=by
 have:=Vl.Z4 hx
 simp only [Vl.sz]
 omega
mutual
def Vl.left : Vl→Int→Int
 | .mk _ _ ks,l=>Vl.lefts ks (l - 1)
def Vl.lefts : List Vl→Int→Int
 | [],l=>l
 | x :: r,l=>Vl.lefts r (if 0≤l then x.left l else l)
end
end Go.Proofs.YtjpldhjgehoffaaDoor
namespace Go.Proofs.YtjpldhjgehoffaaDoor
open Go.RowKit
set_option linter.unusedVariables false
set_option linter.unusedSimpArgs false
def inN (l o : List ByteArray) : List ByteArray:=l.filter fun s=>hasB o s
theorem Rv (l o : List ByteArray) : (inN l o).length≤l.length:=List.length_filter_le _ _
theorem inN_snoc {l : List ByteArray} (o : List ByteArray) {i : Nat} {x : ByteArray} (hx : l[i]? = some x) : inN (l.take (i + 1)) o = if hasB o x then inN (l.take i) o ++ [x] else inN (l.take i) o:=by
 unfold inN
 rw [List.take_add_one,hx,List.filter_append]
 cases hq : hasB o x <;> simp [List.filter,hq]
theorem woN_snoc {l : List ByteArray} (o : List ByteArray) {i : Nat} {x : ByteArray} (hx : l[i]? = some x) : woN (l.take (i + 1)) o = if hasB o x then woN (l.take i) o else woN (l.take i) o ++ [x]:=by
 unfold woN
 rw [List.take_add_one,hx,List.filter_append]
 cases hq : hasB o x <;> simp [List.filter,hq]
def Tm.nm : Tm→ByteArray
 | .mk _ _ a _ _ _ _=>a
def R3 (had : List ByteArray) : List Tm→List ByteArray
 | []=>[]
 | x :: r=>if hasB had x.nm then x.nm :: R3 (had ++ [x.nm]) r else R3 (had ++ [x.nm]) r
theorem Qq5 : ∀ (l : List Tm) (had : List ByteArray),(R3 had l).length≤l.length
 | [],_=>Nat.le_refl _
 | x :: r,had=>by
  have:=Qq5 r (had ++ [x.nm])
  rw [R3]
  split <;> simp <;> omega
theorem inN_woN (l f g : List ByteArray) : woN (inN l f) g = inN l (woN f g):=by
 unfold woN inN
 rw [List.filter_filter]
 refine List.filter_congr fun s _=>?_
 rw [Bool.eq_iff_iff]
 simp [Zx,Mj,and_comm]
theorem inN_inN (l f g : List ByteArray) : inN (inN l f) (inN l g) = inN (inN l f) g:=by
 unfold inN
 refine List.filter_congr fun s hs=>?_
 have:=(List.mem_filter.1 hs).1
 rw [Bool.eq_iff_iff]
 simp [Zx,this]
def letH (a : ByteArray) (own : List ByteArray) : List Tm→List (List ByteArray)
 | [x,y]=>[inN own x.free,inN own (woN y.free [a]) ++ [a]]
 | _=>[]
def letD (a : ByteArray) (own : List ByteArray) : List Tm→List ByteArray
 | [x,y]=>inN (inN own x.free) (woN y.free [a])
 | _=>[]
def nmH : List Tm→ByteArray
 | x :: _=>x.nm
 | []=>.empty
mutual
def Tm.ow : Tm→List ByteArray→Tm
 | .mk k n a b vs xs cs,has=>cnt 9 (woN has (Tm.mk k n a b vs xs cs).free) (
   if k = 3∨k = 4∨k = 5 then cnt 8 (R3 [] xs) (.mk k n a b vs xs cs)
   else if k = 6 then cnt 8 (letD a (inN has (Tm.mk k n a b vs xs cs).free) xs) (.mk 6 0 a .empty [] (Tm.owZ xs (letH a (inN has (Tm.mk k n a b vs xs cs).free) xs)) [])
   else if k = 7 then .mk 7 0 .empty .empty [] xs (Cs.owL cs (inN has (Tm.mk k n a b vs xs cs).free) (nmH xs))
   else .mk k n a b vs xs cs)
def Tm.owZ : List Tm→List (List ByteArray)→List Tm
 | [],_=>[]
 | x :: r,hs=>x.ow (hs.headD []) :: Tm.owZ r hs.tail
def Cs.owL : List Cs→List ByteArray→ByteArray→List Cs
 | [],_,_=>[]
 | c :: r,own,nm=>c.ow own nm :: Cs.owL r own nm
def Cs.ow : Cs→List ByteArray→ByteArray→Cs
 | .mk t ws y,own,nm=>.mk t ws (cnt 8 (inN ws y.free) (cnt 9 (if hasB y.free nm then [] else [nm]) (y.ow (if hasB y.free nm then own ++ inN ws y.free else woN (own ++ inN ws y.free) [nm]))))
end
theorem Cs.owL_snoc {l : List Cs} {i : Nat} {x : Cs} (hx : l[i]? = some x) (own : List ByteArray) (nm : ByteArray) : Cs.owL (l.take (i + 1)) own nm = Cs.owL (l.take i) own nm ++ [x.ow own nm]:=by
 have : ∀ l : List Cs,Cs.owL l own nm = l.map fun c=>c.ow own nm:=fun l=>by
  induction l with
  | nil=>rfl
  | cons c r ih=>rw [Cs.owL,ih];rfl
 rw [this,this,List.take_add_one,hx,List.map_append]
 rfl
theorem Cs.owL_len (own : List ByteArray) (nm : ByteArray) : ∀ l : List Cs,(Cs.owL l own nm).length = l.length
 | []=>rfl
 | c :: r=>by rw [Cs.owL,List.length_cons,Cs.owL_len own nm r,List.length_cons]
def Fn.ow (f : Fn) : Fn:=⟨f.name,f.params,f.body.ow f.params⟩
theorem AWp.seqJ2 {P : Program} {Q : Exit→AS→Prop} {s : AS} {x y z : Code} (s0 : AS) (h2 : AWp P z Q s0) (h1 : ∀ W : AS→Prop,(∀ s',Le s' s0→W s')→AWp P x (Qq (AWp P y (Qq W Q)) Q) s) : AWp P (.seq x (.seq y z)) Q s:=by
 refine AWp.seq (AWp.mono (h1 (AWp P z Q) fun s' hl=>AWp.le hl h2) ?_)
 intro e s' h
 cases e <;> first | exact h | exact AWp.seq h
theorem AWp.seqJP2 {P : Program} {Q : Exit→AS→Prop} {s : AS} {x y z : Code} (φ : Prop) (s0 : AS) (h2 : φ→AWp P z Q s0) (h1 : ∀ W : AS→Prop,(φ→∀ s',Le s' s0→W s')→AWp P x (Qq (AWp P y (Qq W Q)) Q) s) : AWp P (.seq x (.seq y z)) Q s:=by
 refine AWp.seq (AWp.mono (h1 (AWp P z Q) fun hφ s' hl=>AWp.le hl (h2 hφ)) ?_)
 intro e s' h
 cases e <;> first | exact h | exact AWp.seq h
theorem AWp.keep {P : Program} {c : Code} {Q : Exit→AS→Prop} {s : AS} (lf lm : List Nat) {fr : List (Nat×AV)} {mem : List (Nat×Option Qz)} (hf : Gj s.fr lf = fr) (hm : Hw s.mem lm = mem) (h : AWp P c Q ⟨s.n,fr,mem⟩) : AWp P c Q s :=
 AWp.le (by have:=Le.keep s lf lm;rw [hf,hm] at this;exact this) h
abbrev Y3:=List (ByteArray×Nat)
def Y3.get (f : Y3) (s : ByteArray) : Option Nat:=(f.find? fun x=>decide (x.1 = s)).map (·.2)
def Y1 (f : Y3) (k n : Int) (a : ByteArray) (names : List ByteArray) (na : Nat) : Int :=
 if k = 1 then (if hasB names a then 0 else 6)
 else if k = 2 then (if n < -2147483648∨2147483647 < n then 3 else 0)
 else if k = 3 then (if n < 0∨9 < n then 3 else 0)
 else if k = 5 then (if n < 1∨5 < n then 1 else 0)
 else if k = 6 then (if Gx a then 0 else 7)
 else if k = 4 then (match f.get a with | none=>6 | some m=>if m = na then 0 else 5)
 else 0
def Xq (k : Int) (na nc : Nat) : Bool :=
 (if k = 3∨k = 4 then decide (6 < na) else if k = 7 then decide (na≠1) else if k = 5∨k = 6 then decide (na≠2) else decide (na≠0)) || (decide (k≠7) && decide (0 < nc))
mutual
def Tm.wrong (f : Y3) : Tm→List ByteArray→Int→Int
 | .mk k n a _ _ xs cs,names,deep =>
  if 24 < deep then 9 else if k < 1∨7 < k then 1 else if Xq k xs.length cs.length then 5
  else if Y1 f k n a names xs.length≠0 then Y1 f k n a names xs.length
  else if Tm.Jk f k a names deep 0 xs≠0 then Tm.Jk f k a names deep 0 xs
  else if k≠7 then 0 else if cs.length = 0∨5 < cs.length then 5 else Cs.Jk f names deep [] cs
def Tm.Jk (f : Y3) (k : Int) (a : ByteArray) (names : List ByteArray) (deep : Int) : Nat→List Tm→Int
 | _,[]=>0
 | i,x :: r=>if x.wrong f (if k = 6∧i = 1 then names ++ [a] else names) (deep + 1)≠0 then x.wrong f (if k = 6∧i = 1 then names ++ [a] else names) (deep + 1) else Tm.Jk f k a names deep (i + 1) r
def Cs.Jk (f : Y3) (names : List ByteArray) (deep : Int) : List Int→List Cs→Int
 | _,[]=>0
 | had,c :: r=>if Cs.wrongC f names deep had c≠0 then Cs.wrongC f names deep had c else Cs.Jk f names deep (c.tag :: had) r
def Cs.wrongC (f : Y3) (names : List ByteArray) (deep : Int) : List Int→Cs→Int
 | had,.mk t vs b=>if t < 0∨9 < t then 3 else if (had.contains t || twB vs || badB vs) then 7 else if 6 < vs.length then 5 else b.wrong f (names ++ vs) (deep + 1)
end
def Fn.Y1 (f : Y3) (x : Fn) : Int :=
 if ((f.get x.name).isSome || !Gx x.name || twB x.params || badB x.params) = true then 7
 else if 6 < x.params.length then 5 else if 400 < wr x.body.sz then 4 else 0
def Oq : Y3→List Fn→Int
 | _,[]=>0
 | f,x :: r=>if x.Y1 f≠0 then x.Y1 f else Oq ((x.name,x.params.length) :: f) r
def Qj9 (l : List Fn) : Y3:=l.reverse.map fun x=>(x.name,x.params.length)
theorem arOf_snoc (l : List Fn) (x : Fn) : Qj9 (l ++ [x]) = (x.name,x.params.length) :: Qj9 l:=by simp [Qj9]
def O5 (f : Y3) : List Fn→Int
 | []=>0
 | x :: r=>if x.body.wrong f x.params 0≠0 then x.body.wrong f x.params 0 else O5 f r
def Y8 (l : List Fn) : Int :=
 if l.length = 0∨6 < l.length then 5 else if Oq [] l≠0 then Oq [] l else O5 (Qj9 l) l
theorem Gw {f : Y3} {k n : Int} {a b : ByteArray} {vs names : List ByteArray} {xs : List Tm} {cs : List Cs} {deep : Int} (h : (Tm.mk k n a b vs xs cs).wrong f names deep = 0) :
  deep≤24∧1≤k∧k≤7∧Xq k xs.length cs.length = false∧Y1 f k n a names xs.length = 0∧Tm.Jk f k a names deep 0 xs = 0∧(k = 7→cs.length≠0∧cs.length≤5∧Cs.Jk f names deep [] cs = 0):=by
 simp only [Tm.wrong] at h
 split at h
 ·cases h
 rename_i h1
 split at h
 ·cases h
 rename_i h2
 split at h
 ·cases h
 rename_i h3
 split at h
 ·rename_i h4;exact absurd h h4
 rename_i h4
 split at h
 ·rename_i h5;exact absurd h h5
 rename_i h5
 refine ⟨by omega,by omega,by omega,by simpa using h3,by omega,by omega,fun h7=>?_⟩
 rw [if_neg (by omega)] at h
 split at h
 ·cases h
 rename_i h6
 exact ⟨by omega,by omega,h⟩
theorem Sw {f : Y3} {k : Int} {a : ByteArray} {names : List ByteArray} {deep : Int} : ∀ {l : List Tm} {i : Nat},Tm.Jk f k a names deep i l = 0 →
  ∀ (j : Nat) (x : Tm),l[j]? = some x→x.wrong f (if k = 6∧i + j = 1 then names ++ [a] else names) (deep + 1) = 0
 | [],_,_,j,x,hj=>by simp at hj
 | y :: r,i,h,j,x,hj=>by
  simp only [Tm.Jk] at h
  obtain ⟨ns,hns⟩ : ∃ ns,ns = if k = 6∧i = 1 then names ++ [a] else names:=⟨_,rfl⟩
  rw [← hns] at h
  by_cases h1 : y.wrong f ns (deep + 1) = 0
  rotate_left
  ·rw [if_pos h1] at h;exact absurd h h1
  rw [if_neg (fun e=>e h1)] at h
  match j with
  | 0 =>
   simp at hj;subst hj
   rw [Nat.add_zero,← hns]
   exact h1
  | j + 1 =>
   have:=Sw h j x (by simpa using hj)
   rwa [show i + 1 + j = i + (j + 1) by omega] at this
theorem Mw {f : Y3} {names : List ByteArray} {deep : Int} : ∀ {l : List Cs} {had : List Int},Cs.Jk f names deep had l = 0 →
  ∀ {t : Int} {vs : List ByteArray} {b : Tm},Cs.mk t vs b∈l→0≤t∧t≤9∧twB vs = false∧badB vs = false∧vs.length≤6∧b.wrong f (names ++ vs) (deep + 1) = 0
 | [],_,_,t,vs,b,hm=>by cases hm
 | c :: r,had,h,t,vs,b,hm=>by
  simp only [Cs.Jk] at h
  split at h
  ·rename_i h1;exact absurd h h1
  rename_i h1
  rcases List.mem_cons.1 hm with rfl | hm
  ·have h1:=Decidable.byContradiction fun e=>h1 e
   simp only [Cs.wrongC] at h1
   split at h1
   ·cases h1
   split at h1
   ·cases h1
   split at h1
   ·cases h1
   rename_i h2 h3 h4
   simp only [Bool.or_eq_true,not_or,Bool.not_eq_true] at h3
   exact ⟨by omega,by omega,h3.1.2,h3.2,by omega,h1⟩
  ·exact Mw h hm
def gB : Nat→Nat
 | 0=>0
 | n + 1=>1 + 6 * gB n
theorem szs_le {g : Nat} : ∀ {l : List Tm},(∀ x∈l,x.sz≤g)→Tm.szs l≤l.length * g
 | [],_=>by simp [Tm.szs]
 | x :: r,h=>by
  have h1:=h x (List.mem_cons_self ..)
  have h2:=szs_le (l:=r) fun y hy=>h y (List.mem_cons_of_mem _ hy)
  simp only [Tm.szs,List.length_cons,Nat.succ_mul]
  omega
theorem cszs_le {g : Nat} : ∀ {l : List Cs},(∀ x∈l,x.sz≤g)→Cs.szs l≤l.length * g
 | [],_=>by simp [Cs.szs]
 | x :: r,h=>by
  have h1:=h x (List.mem_cons_self ..)
  have h2:=cszs_le (l:=r) fun y hy=>h y (List.mem_cons_of_mem _ hy)
  simp only [Cs.szs,List.length_cons,Nat.succ_mul]
  omega
theorem many_six {k : Int} {na nc : Nat} (h : Xq k na nc = false) (h2 : k = 7→nc≤5) : na + nc≤6:=by
 unfold Xq at h
 simp only [Bool.or_eq_false_iff,Bool.and_eq_false_iff,decide_eq_false_iff_not] at h
 obtain ⟨h,h'⟩:=h
 by_cases h7 : k = 7
 ·have:=h2 h7
  subst h7
  simp at h
  omega
 ·have hc : nc = 0:=by
   rcases h' with h' | h'
   ·exact absurd h7 h'
   ·omega
  split at h
  ·simp at h;omega
  ·split at h
   ·simp at h;omega
   ·simp at h;omega
theorem wrong_sz (f : Y3) : ∀ (N : Nat) (t : Tm) (names : List ByteArray) (n : Nat) (deep : Int),t.sz < N→deep = 25 - (n : Int)→t.wrong f names deep = 0→t.sz≤gB n:=by
 intro N
 induction N with
 | zero=>intro t _ _ _ h;omega
 | succ N ih =>
 intro t names n deep hN hd h
 obtain ⟨k,m,a,b,vs,xs,cs⟩:=t
 obtain ⟨h1,h2,h3,h4,h5,h6,h7⟩:=Gw h
 match n with
 | 0=>omega
 | n + 1 =>
  have hx : ∀ x∈xs,x.sz≤gB n:=fun x hx=>by
   obtain ⟨j,hj⟩:=List.mem_iff_getElem?.1 hx
   exact ih x _ n (deep + 1) (by have:=Tm.sz_arg (k:=k) (n:=m) (a:=a) (b:=b) (vs:=vs) (cs:=cs) hx;omega) (by omega) (Sw h6 j x hj)
  have hc : Cs.szs cs≤cs.length * gB n:=by
   by_cases h8 : k = 7
   ·refine cszs_le fun c hc=>?_
    obtain ⟨g,ws,x⟩:=c
    have:=(Mw (h7 h8).2.2 hc).2.2.2.2.2
    exact ih x _ n (deep + 1) (by have:=Tm.sz_case (k:=k) (n:=m) (a:=a) (b:=b) (vs:=vs) (xs:=xs) hc;omega) (by omega) this
   ·have:=many_six h4 (fun h=>absurd h h8)
    have hl : cs.length = 0:=by
     unfold Xq at h4
     simp only [Bool.or_eq_false_iff,Bool.and_eq_false_iff,decide_eq_false_iff_not] at h4
     rcases h4.2 with h' | h'
     ·exact absurd h8 h'
     ·omega
    have : cs = []:=List.eq_nil_of_length_eq_zero hl
    subst this
    simp [Cs.szs]
  have h8:=szs_le hx
  have h9:=many_six h4 fun h=>(h7 h).2.1
  simp only [Tm.sz,gB]
  have : xs.length * gB n + cs.length * gB n≤6 * gB n:=by
   rw [← Nat.add_mul];exact Nat.mul_le_mul_right _ h9
  omega
theorem wrong_small {f : Y3} {t : Tm} {names : List ByteArray} (h : t.wrong f names 0 = 0) : wr t.sz = t.sz:=by
 have h1:=wrong_sz f _ t names 25 0 (Nat.lt_succ_self _) (by omega) h
 have h2 : gB 25≤9223372036854775807:=by decide +kernel
 exact wr_id ⟨by omega,by omega⟩
theorem E9 {s : ByteArray} (more : List ByteArray) : ∀ l : List ByteArray,s∈addN l more↔s∈l∨s∈more:=by
 induction more with
 | nil=>intro l;simp [addN]
 | cons x more ih =>
  intro l
  have:=ih (if hasB l x then l else l ++ [x])
  simp only [addN,List.foldl_cons] at this ⊢
  rw [this]
  split
  ·rename_i h
   have h:=Zx.1 h
   simp only [List.mem_cons]
   constructor
   ·rintro (h | h)
    ·exact .inl h
    ·exact .inr (.inr h)
   ·rintro (h' | rfl | h')
    ·exact .inl h'
    ·exact .inl h
    ·exact .inr h'
  ·simp only [List.mem_append,List.mem_cons,List.not_mem_nil,or_false,or_assoc]
theorem J8 {s : ByteArray} {l gone : List ByteArray} : s∈woN l gone↔s∈l∧s ∉ gone:=by
 unfold woN
 rw [List.mem_filter,← Mj (l:=gone)]
 simp
theorem mem_frees {s : ByteArray} (l : List Tm) : ∀ o,s∈Tm.frees o l↔s∈o∨∃ x∈l,s∈x.free:=by
 induction l with
 | nil=>intro o;simp [Tm.frees]
 | cons x r ih =>
  intro o
  simp only [Tm.frees,ih,E9,List.mem_cons,exists_eq_or_imp,or_assoc]
theorem Qx3 {s : ByteArray} (l : List Cs) : ∀ o,s∈Cs.frees o l↔s∈o∨∃ x∈l,s∈x.Lj:=by
 induction l with
 | nil=>intro o;simp [Cs.frees]
 | cons x r ih =>
  intro o
  simp only [Cs.frees,ih,E9,List.mem_cons,exists_eq_or_imp,or_assoc]
theorem wrong_free (f : Y3) : ∀ (N : Nat) (t : Tm) (names : List ByteArray) (deep : Int),t.sz < N→t.wrong f names deep = 0→∀ s∈t.free,s∈names:=by
 intro N
 induction N with
 | zero=>intro t _ _ h;omega
 | succ N ih =>
 intro t names deep hN h s hs
 obtain ⟨k,m,a,b,vs,xs,cs⟩:=t
 obtain ⟨h1,h2,h3,h4,h5,h6,h7⟩:=Gw h
 have hx : ∀ (j : Nat) (x : Tm),xs[j]? = some x→s∈x.free→s∈(if k = 6∧0 + j = 1 then names ++ [a] else names):=fun j x hj hs =>
  ih x _ (deep + 1) (by have:=Tm.sz_arg (k:=k) (n:=m) (a:=a) (b:=b) (vs:=vs) (cs:=cs) (List.mem_of_getElem? hj);omega) (Sw h6 j x hj) s hs
 simp only [Tm.free] at hs
 split at hs
 ·rename_i hk
  subst hk
  unfold Y1 at h5
  rw [if_pos rfl] at h5
  split at h5
  ·rename_i hh
   simp at hs
   subst hs
   exact Zx.1 hh
  ·cases h5
 split at hs
 ·rename_i hk
  obtain ⟨hk,hl⟩:=hk
  match xs,hl with
  | [x,y],_ =>
   simp only [Tm.freeL,Tm.freeB] at hs
   rw [E9,E9,J8] at hs
   rcases hs with (hs | hs) | hs
   ·cases hs
   ·have:=hx 0 x rfl hs
    rwa [if_neg (by omega)] at this
   ·have:=hx 1 y rfl hs.1
    rw [if_pos (by omega)] at this
    rcases List.mem_append.1 this with h | h
    ·exact h
    ·exact absurd h hs.2
 ·rename_i hk1 hk2
  rw [if_neg (by omega),Qx3,mem_frees] at hs
  rcases hs with (hs | ⟨x,hm,hs⟩) | ⟨c,hm,hs⟩
  ·cases hs
  ·obtain ⟨j,hj⟩:=List.mem_iff_getElem?.1 hm
   have:=hx j x hj hs
   have hj2 : j < xs.length:=by
    have:=List.getElem?_eq_some_iff.1 hj
    exact this.1
   rw [if_neg] at this
   ·exact this
   rintro ⟨rfl,hj1⟩
   unfold Xq at h4
   simp at h4
   simp at hk2
   exact hk2 h4.1
  ·have hk7 : k = 7:=by
    unfold Xq at h4
    simp only [Bool.or_eq_false_iff,Bool.and_eq_false_iff,decide_eq_false_iff_not] at h4
    rcases h4.2 with h' | h'
    ·omega
    ·have:=List.length_pos_of_mem hm;omega
   obtain ⟨g,ws,x⟩:=c
   have h8:=(Mw (h7 hk7).2.2 hm).2.2.2.2.2
   simp only [Cs.Lj] at hs
   rw [J8] at hs
   have:=ih x _ (deep + 1) (by have:=Tm.sz_case (k:=k) (n:=m) (a:=a) (b:=b) (vs:=vs) (xs:=xs) hm;omega) h8 s hs.1
   rcases List.mem_append.1 this with h | h
   ·exact h
   ·exact absurd h hs.2
theorem heads_zero : ∀ {l : List Fn} {f : Y3},Oq f l = 0→∀ x∈l,Gx x.name = true∧twB x.params = false∧badB x.params = false∧x.params.length≤6∧wr x.body.sz≤400
 | [],_,_,x,hx=>by cases hx
 | y :: r,f,h,x,hx=>by
  simp only [Oq] at h
  split at h
  ·rename_i h1;exact absurd h h1
  rename_i h1
  rcases List.mem_cons.1 hx with rfl | hx
  ·have h1:=Decidable.byContradiction fun e=>h1 e
   unfold Fn.Y1 at h1
   split at h1
   ·cases h1
   split at h1
   ·cases h1
   split at h1
   ·cases h1
   rename_i h2 h3 h4
   simp only [Bool.or_eq_true,not_or,Bool.not_eq_true,Bool.not_eq_false,Bool.not_eq_true'] at h2
   exact ⟨by simpa using h2.1.1.2,h2.1.2,h2.2,by omega,by omega⟩
  ·exact heads_zero h x hx
theorem bodies_zero {f : Y3} : ∀ {l : List Fn},O5 f l = 0→∀ x∈l,x.body.wrong f x.params 0 = 0
 | [],_,x,hx=>by cases hx
 | y :: r,h,x,hx=>by
  simp only [O5] at h
  split at h
  ·rename_i h1;exact absurd h h1
  rename_i h1
  rcases List.mem_cons.1 hx with rfl | hx
  ·exact Decidable.byContradiction fun e=>h1 e
  ·exact bodies_zero h x hx
structure Fn.Right (f : Y3) (x : Fn) : Prop where
 name : Gx x.name = true
 twice : twB x.params = false
 bad : badB x.params = false
 params : x.params.length≤6
 sz : x.body.sz≤400
 wrong : x.body.wrong f x.params 0 = 0
structure Fn.Fit (f : Y3) (x : Fn) : Prop where
 params : x.params.length≤6
 wrong : ∃ deep,x.body.wrong f x.params deep = 0
theorem Fn.Right.fit {f : Y3} {x : Fn} (h : x.Right f) : x.Fit f:=⟨h.params,0,h.wrong⟩
theorem Qj6 {l : List Fn} (h : Y8 l = 0) : l.length≠0∧l.length≤6∧Oq [] l = 0∧∀ x∈l,x.Right (Qj9 l):=by
 unfold Y8 at h
 split at h
 ·cases h
 split at h
 ·rename_i h1;exact absurd h h1
 rename_i h1 h2
 have h2:=Decidable.byContradiction fun e=>h2 e
 refine ⟨by omega,by omega,h2,fun x hx=>?_⟩
 obtain ⟨k1,k2,k3,k4,k5⟩:=heads_zero h2 x hx
 have k6:=bodies_zero h x hx
 rw [wrong_small k6] at k5
 exact ⟨k1,k2,k3,k4,by omega,k6⟩
theorem Fn.Right.free {f : Y3} {x : Fn} (h : x.Right f) : ∀ s∈x.body.free,s∈x.params:=wrong_free f _ x.body x.params 0 (Nat.lt_succ_self _) h.wrong
def Tm.Rt : Nat→Tm→Prop
 | 0,_=>False
 | d + 1,.mk k n a b vs xs cs=>(1≤k∧k≤7)∧Xq k xs.length cs.length = false∧xs.length + cs.length≤6∧(∀ x∈xs,Tm.Rt d x)∧(∀ c∈cs,c.2.length≤6∧Tm.Rt d c.3)
theorem wrong_rt (A : Y3) : ∀ (d : Nat) (t : Tm) (names : List ByteArray) (deep : Int),deep = 25 - (d : Int)→t.wrong A names deep = 0→t.Rt d:=by
 intro d
 induction d with
 | zero =>
  intro t names deep hd hw
  obtain ⟨k,n,a,b,vs,xs,cs⟩:=t
  obtain ⟨h1,_⟩:=Gw hw
  omega
 | succ d ih =>
 intro t names deep hd hw
 obtain ⟨k,n,a,b,vs,xs,cs⟩:=t
 obtain ⟨h1,h2,h3,h4,h5,h6,h7⟩:=Gw hw
 have hn6:=many_six h4 fun h=>(h7 h).2.1
 refine ⟨⟨h2,h3⟩,h4,hn6,fun x hx=>?_,fun c hc=>?_⟩
 ·obtain ⟨j,hj⟩:=List.mem_iff_getElem?.1 hx
  exact ih x _ (deep + 1) (by omega) (Sw h6 j x hj)
 ·obtain ⟨t,ws,y⟩:=c
  by_cases h8 : k = 7
  ·have h9:=Mw (h7 h8).2.2 hc
   exact ⟨h9.2.2.2.2.1,ih y _ (deep + 1) (by omega) h9.2.2.2.2.2⟩
  ·exfalso
   have h4':=h4
   unfold Xq at h4'
   simp only [Bool.or_eq_false_iff,Bool.and_eq_false_iff,decide_eq_false_iff_not] at h4'
   have:=List.length_pos_of_mem hc
   omega
abbrev Ps:=List (ByteArray×ByteArray)
def psR (p : ByteArray×ByteArray) : List D:=[.str p.1,.str p.2]
abbrev psAV (ps : Ps) : AV:=.d (.sl (ps.map psR))
def vNm (c : Int) : ByteArray:=⟨#[118]⟩ ++ D5 c
theorem Lx : ((⟨#[118]⟩ : ByteArray).size≤maxLen) = True:=eq_true (by show 1≤9223372036854775807;omega)
def J5 : List ByteArray→Int→List ByteArray
 | [],_=>[]
 | _ :: r,c=>vNm (wr (c + 1)) :: J5 r (wr (c + 1))
def U5 : List ByteArray→Int→Int
 | [],c=>c
 | _ :: r,c=>U5 r (wr (c + 1))
theorem U4 : ∀ (l : List ByteArray) (c : Int),(J5 l c).length = l.length
 | [],_=>rfl
 | _ :: r,c=>by simp [J5,U4 r]
def nowP (ps : Ps) (s : ByteArray) : ByteArray:=ps.foldl (fun o p=>if p.1 = s then p.2 else o) s
mutual
def Tm.rn : Tm→Ps→Int→Tm×Int
 | .mk k n a b vs xs cs,ps,c=>if k = 1 then (.mk k n (nowP ps a) b vs [] [],c)
  else (.mk k n (Tm.rns k a ps 0 xs a c).2.1 b vs (Tm.rns k a ps 0 xs a c).1 (Cs.rnL cs ps (Tm.rns k a ps 0 xs a c).2.2).1,(Cs.rnL cs ps (Tm.rns k a ps 0 xs a c).2.2).2)
def Tm.rns (k : Int) (a : ByteArray) (ps : Ps) : Nat→List Tm→ByteArray→Int→List Tm×ByteArray×Int
 | _,[],nm,c=>([],nm,c)
 | i,x :: r,nm,c=>if k = 6∧i = 1 then
   ((x.rn (ps ++ [(a,vNm (wr (c + 1)))]) (wr (c + 1))).1 :: (Tm.rns k a ps (i + 1) r (vNm (wr (c + 1))) (x.rn (ps ++ [(a,vNm (wr (c + 1)))]) (wr (c + 1))).2).1,(Tm.rns k a ps (i + 1) r (vNm (wr (c + 1))) (x.rn (ps ++ [(a,vNm (wr (c + 1)))]) (wr (c + 1))).2).2)
  else ((x.rn ps c).1 :: (Tm.rns k a ps (i + 1) r nm (x.rn ps c).2).1,(Tm.rns k a ps (i + 1) r nm (x.rn ps c).2).2)
def Cs.rnL : List Cs→Ps→Int→List Cs×Int
 | [],_,c=>([],c)
 | d :: r,ps,c=>((d.rn ps c).1 :: (Cs.rnL r ps (d.rn ps c).2).1,(Cs.rnL r ps (d.rn ps c).2).2)
def Cs.rn : Cs→Ps→Int→Cs×Int
 | .mk t ws y,ps,c=>(.mk t (J5 ws c) (y.rn (ps ++ ws.zip (J5 ws c)) (U5 ws c)).1,(y.rn (ps ++ ws.zip (J5 ws c)) (U5 ws c)).2)
end
abbrev PS:=Nat×Int
def isBl (c : UInt8) : Bool:=c.toNat == 32 || (c.toNat == 9 || c.toNat == 10)
def isBr (c : UInt8) : Bool:=c.toNat == 40 || c.toNat == 41
def nBl : List UInt8→Nat
 | []=>0
 | c :: r=>if isBl c then nBl r + 1 else 0
def nWd : List UInt8→Nat
 | []=>0
 | c :: r=>if isBl c || isBr c then 0 else nWd r + 1
def nPk : List UInt8→Nat
 | []=>0
 | c :: r=>if isBr c then 1 else nWd (c :: r)
def pkA (s : ByteArray) (a : Nat) : Nat:=a + nBl (s.data.toList.drop a)
def pkE (s : ByteArray) (a : Nat) : Nat:=a + nPk (s.data.toList.drop a)
def pkW (s : ByteArray) (a : Nat) : ByteArray:=s.extract (pkA s a) (pkE s (pkA s a))
def badE (e x : Int) : Int:=if e = 0 then x else e
def nxS (s : ByteArray) (p : PS) : PS:=(pkE s (pkA s p.1),if (pkW s p.1).size = 0 then badE p.2 8 else p.2)
def wantS (s w : ByteArray) (p : PS) : PS:=if pkW s p.1 = w then nxS s p else ((nxS s p).1,badE (nxS s p).2 2)
def namP (s : ByteArray) (p : PS) : ByteArray×PS:=(pkW s p.1,if Gx (pkW s p.1) then nxS s p else ((nxS s p).1,badE (nxS s p).2 7))
def numP (w : ByteArray) : Int×Bool:=match Lib.atoiAll w.data.toList with
 | .ok v=>(v,decide (D5 v = w))
 | .range=>(Lib.atoiSat w.data.toList,false)
 | _=>(0,false)
def sharp (w : ByteArray) : Bool:=match w.data.toList with
 | c :: _=>c.toNat == 35
 | []=>false
def tagP (g : Bool) (s : ByteArray) (p : PS) : Int×PS :=
 if decide (1 < (pkW s p.1).size) && sharp (pkW s p.1) && (numP ((pkW s p.1).extract 1 (pkW s p.1).size)).2 then ((numP ((pkW s p.1).extract 1 (pkW s p.1).size)).1,nxS s p)
 else (if g && (decide (1 < (pkW s p.1).size) && sharp (pkW s p.1)) then (numP ((pkW s p.1).extract 1 (pkW s p.1).size)).1 else 0,((nxS s p).1,badE (nxS s p).2 2))
abbrev rbr : ByteArray:=⟨#[41]⟩
abbrev lbr : ByteArray:=⟨#[40]⟩
def manyP {α : Type} (s : ByteArray) (one : PS→α×PS) : Nat→PS→List α×PS
 | 0,p=>([],p)
 | n + 1,p =>
  if p.2 = 0 then
   if pkW s p.1 = rbr then ([],wantS s rbr (pkA s p.1,p.2))
   else ((one (pkA s p.1,p.2)).1 :: (manyP s one n (one (pkA s p.1,p.2)).2).1,(manyP s one n (one (pkA s p.1,p.2)).2).2)
  else ([],wantS s rbr p)
def primsL : List ByteArray:=[⟨#[43]⟩,⟨#[45]⟩,⟨#[42]⟩,⟨#[60]⟩,⟨#[61]⟩]
def primI (w : ByteArray) : List ByteArray→Int→Int→Int
 | [],_,r=>r
 | x :: l,i,r=>primI w l (i + 1) (if w = x then i + 1 else r)
abbrev wLet : ByteArray:=⟨#[108,101,116]⟩
abbrev wMatch : ByteArray:=⟨#[109,97,116,99,104]⟩
def casP (g : Bool) (s : ByteArray) (one : PS→Tm×PS) (p : PS) : Cs×PS :=
 let t:=tagP g s (wantS s lbr p)
 let ws:=manyP s (namP s) (s.size + 2) (wantS s lbr t.2)
 let y:=one ws.2
 (.mk t.1 ws.1 y.1,wantS s rbr y.2)
def atomP (s : ByteArray) (p : PS) : Tm×PS :=
 if (numP (pkW s p.1)).2 then (.mk 2 (numP (pkW s p.1)).1 .empty .empty [] [] [],nxS s p)
 else (.mk 1 0 (pkW s p.1) .empty [] [] [],if Gx (pkW s p.1) then nxS s p else ((nxS s p).1,badE (nxS s p).2 7))
def formP (g : Bool) (s : ByteArray) (one : PS→Tm×PS) (w : ByteArray) (p : PS) : Tm×PS :=
 if sharp w then
  let t:=tagP g s p
  let xs:=manyP s one (s.size + 2) t.2
  (.mk 3 t.1 .empty .empty [] xs.1 [],xs.2)
 else if w = wLet then
  let nm:=namP s (nxS s p)
  let x:=one nm.2
  let y:=one x.2
  (.mk 6 0 nm.1 .empty [] [x.1,y.1] [],wantS s rbr y.2)
 else if w = wMatch then
  let x:=one (nxS s p)
  let cs:=manyP s (casP g s one) (s.size + 2) x.2
  (.mk 7 0 .empty .empty [] [x.1] cs.1,cs.2)
 else if 0 < primI w primsL 0 0 then
  let x:=one (nxS s p)
  let y:=one x.2
  (.mk 5 (primI w primsL 0 0) .empty .empty [] [x.1,y.1] [],wantS s rbr y.2)
 else
  let nm:=namP s p
  let xs:=manyP s one (s.size + 2) nm.2
  (.mk 4 0 nm.1 .empty [] xs.1 [],xs.2)
def Tm.ps (g : Bool) (s : ByteArray) : Nat→PS→Tm×PS
 | 0,p=>(.mk 0 0 .empty .empty [] [] [],(p.1,badE p.2 9))
 | n + 1,p =>
  if pkW s p.1 = lbr then formP g s (Tm.ps g s n) (pkW s (nxS s p).1) (pkA s (nxS s p).1,(nxS s p).2)
  else atomP s (pkA s p.1,p.2)
structure Stp (s : ByteArray) (p q : PS) : Prop where
 le : p.1≤q.1
 sz : q.1≤s.size
 er : p.2≠0→q.2 = p.2
structure Adv (s : ByteArray) (p q : PS) : Prop extends Stp s p q where
 on : q.2≠0∨p.1 < q.1
theorem Stp.trans {s : ByteArray} {p q r : PS} (h : Stp s p q) (h2 : Stp s q r) : Stp s p r:=⟨Nat.le_trans h.le h2.le,h2.sz,fun e=>by have h3:=h.er e;rw [h2.er (by rw [h3];exact e),h3]⟩
theorem Adv.trans {s : ByteArray} {p q r : PS} (h : Stp s p q) (h2 : Adv s q r) : Adv s p r:=⟨h.trans h2.toStp,h2.on.imp id fun h3=>Nat.lt_of_le_of_lt h.le h3⟩
theorem Adv.then {s : ByteArray} {p q r : PS} (h : Adv s p q) (h2 : Stp s q r) : Adv s p r:=⟨h.toStp.trans h2,by
 rcases h.on with h3 | h3
 ·exact .inl (by rw [h2.er h3];exact h3)
 ·exact .inr (Nat.lt_of_lt_of_le h3 h2.le)⟩
theorem badE_er {e x : Int} (h : e≠0) : badE e x = e:=if_neg h
theorem Stp.bad {s : ByteArray} {p q : PS} {x : Int} (h : Stp s p q) : Stp s p (q.1,badE q.2 x):=⟨h.le,h.sz,fun e=>by
 have h2:=h.er e
 dsimp only
 rw [badE_er (by rw [h2];exact e),h2]⟩
theorem Adv.bad {s : ByteArray} {p q : PS} {x : Int} (h : Adv s p q) : Adv s p (q.1,badE q.2 x):=⟨h.toStp.bad,by
 rcases h.on with h3 | h3
 ·exact .inl (by dsimp only;rw [badE_er h3];exact h3)
 ·exact .inr h3⟩
end Go.Proofs.YtjpldhjgehoffaaDoor
namespace Go.Proofs.YtjpldhjgehoffaaDoor
open Go.RowKit
attribute [local simp] Cq mkRc ldOf stOf Qz4 Fq M4 Rq K7 V3 Yv K4 J7 Y9 L9 evA Kv G8 Value.oneCell' Zj Q4 Z7 Iz Vz Z0 AS.after Z8 K8 Jv AV.ids Mq Qz.ids Qj3 F9 Wv U9 G6 Y0 Y5 Kk V9 V7 Yz Ov T9 setAt Vj Cj Gq Pj R9 Pk binI AV.cells J9 Jz R8 U1 AV.kill Qz.kill AV.has AV.K9 Op.operands Call.operands Gj Hw Zv Oz Zz Xz Tk moQ M6 Uz Yw AV.ren Tj Qz.ren Qz.like kept X8 M5 AV.frz Pz Cw Ex H9 F3 AS.frz Mv Uw Qz.frz Rx Rj bleF Nat.ble_eq R4 Ww K3 D.Yx F5 Uv Vx Vq phO Px Gz Wx U0 K6 Low Sq
set_option linter.unusedVariables false
set_option linter.unusedSimpArgs false
abbrev nObj (c : Int) : Qz:=.blk 152 [.d (.int c)]
theorem vsz (e : Int) (h : inI e) : (vNm e).size≤22:=by
 have:=Nz h
 show (⟨#[118]⟩ ++ D5 e : ByteArray).size≤22
 rw [ByteArray.size_append]
 have h1 : (⟨#[118]⟩ : ByteArray).size = 1:=rfl
 omega
set_option maxRecDepth 20000 in
set_option maxHeartbeats 16000000 in
theorem cs_fresh (ws : List ByteArray) (c : Int) (hw6 : ws.length≤6) : X3 Tryd.prog 94 [.ptr 1000 0,X6 ws] [(1000,nObj c)] (.tuple [X6 (J5 ws c),psAV (ws.zip (J5 ws c))]) [(1000,nObj (U5 ws c))]:=by
 obtain ⟨US,hUS⟩ : ∃ US,US = J5 ws c:=⟨_,rfl⟩
 obtain ⟨PS,hPS⟩ : ∃ PS,PS = ws.zip US:=⟨_,rfl⟩
 obtain ⟨E,hE⟩ : ∃ E,E = U5 ws c:=⟨_,rfl⟩
 rw [← hUS,← hPS,← hE]
 refine X3.of Tryd.func94 rfl rfl (Nat.le_of_ble_eq_true rfl) ?_
 show AWp _ _ (Qv _ Tryd.f94 _ _) (X8 43 _ _)
 refine AWp.rg [] [] ?_ (hr:=by conv=>lhs;simp [psR,Lx])
 refine AWp.rg [] [] ?_ (hr:=by conv=>lhs;simp [psR,Lx])
 refine AWp.rg [] [] ?_ (hr:=by conv=>lhs;simp [psR,Lx])
 refine AWp.rg [] [] ?_ (hr:=by conv=>lhs;simp [psR,Lx])
 repeat (first | refine AWp.seq ?_ | refine AWp.block ?_)
 refine AWp.le (Le.low [400,401] [] (fr:=[(0,.ptr 1000 0),(6,.arr 400 0 ([] : List ByteArray).length),(7,.arr 401 0 ([] : Ps).length),(11,.d (Q7 ws)),(12,.d (.int (ws.length : Int))),(13,.d (.int (0 : Int)))]) (mem:=[(400,some (.arr 9 1 (([] : List ByteArray).map Zw))),(401,some (.arr 178 2 (([] : Ps).map psR))),(1000,some (.blk 152 [.d (.int (c : Int))]))]) rfl (by simp) (by simp)) ?_
 refine AWp.loop (σ:=fun u : {u : Nat×List ByteArray×Ps×Int // u.1≤ws.length∧(J5 ws c = u.2.1 ++ J5 (ws.drop u.1) u.2.2.2∧U5 ws c = U5 (ws.drop u.1) u.2.2.2∧u.2.1.length = u.1∧u.2.2.1 = (ws.take u.1).zip u.2.1)}=>⟨43,[(0,.ptr 1000 0),(6,.arr 400 0 u.1.2.1.length),(7,.arr 401 0 u.1.2.2.1.length),(11,.d (Q7 ws)),(12,.d (.int (ws.length : Int))),(13,.d (.int (u.1.1 : Int)))],[(400,some (.arr 9 1 (u.1.2.1.map Zw))),(401,some (.arr 178 2 (u.1.2.2.1.map psR))),(1000,some (.blk 152 [.d (.int u.1.2.2.2)]))]⟩)
  (μ:=fun u=>ws.length - u.1.1) ⟨(0,[],[],c),⟨Nat.zero_le _,⟨by simp,by simp,rfl,by simp⟩⟩⟩ (Le.sub (by simp) (by simp)) (fun ⟨(i,us,ps,k),⟨hi4,hw⟩⟩=>?_)
 dsimp only at hi4 hw ⊢
 refine AWp.rg [] [] ?_ (hr:=by conv=>lhs;simp [psR,Lx])
 repeat (first | refine AWp.seq ?_ | refine AWp.block ?_)
 refine AWp.cond rfl (fun hc=>?_) (fun hc=>?_)
 ·have hi1 : i < ws.length:=by have:=of_decide_eq_true hc;omega
  clear hc
  have h1x : ws[i]? = some ws[i]:=List.getElem?_eq_getElem hi1
  have hmx : ws[i]∈ws:=List.getElem_mem hi1
  have hdx : ws.drop i = ws[i] :: ws.drop (i + 1):=List.drop_eq_getElem_cons hi1
  generalize ws[i] = x at h1x hmx hdx
  obtain ⟨hfr,hfc,hul,hps⟩:=hw
  obtain ⟨e,he⟩ : ∃ e : Int,wr (k + 1) = e:=⟨_,rfl⟩
  have heI : inI e:=by rw [← he];exact wr_in _
  have hit:=sp_Itoa e heI
  have hsz:=Nz heI
  have h1s : (⟨#[118]⟩ : ByteArray).size = 1:=rfl
  have hpl : ps.length = i:=by rw [hps,List.length_zip,hul,List.length_take];omega
  refine AWp.skip ?_
  refine AWp.rg [] [] ?_ (hr:=by conv=>lhs;simp [psR,Lx,h1x,he])
  refine AWp.rg [4] [] ?_ (hr:=by conv=>lhs;simp [psR,Lx,h1x,he])
  refine AWp.rg [] [.p (fun _=>.d (.str (D5 e))) none] ?_ (hr:=by conv=>lhs;simp [psR,Lx,h1x,he])
  refine AWp.rg [] [] ?_ (hr:=by conv=>lhs;simp [psR,Lx,h1x,he])
  refine AWp.rg [] [] ?_ (hr:=by conv=>lhs;simp [psR,Lx,h1x,he])
  refine AWp.rg [] [] ?_ (hr:=by conv=>lhs;simp [psR,Lx,h1x,he])
  refine ⟨⟨(i + 1,us ++ [vNm e],ps ++ [(x,vNm e)],e),hi1,⟨by rw [hfr,hdx,J5,he];simp,by rw [hfc,hdx,U5,he],by simp [hul],by rw [hps,List.take_add_one,h1x,List.zip_append (by rw [List.length_take,hul];omega)];rfl⟩⟩,by simp;omega,?_⟩
  dsimp only
  exact Le.sub (by simp [vNm,psR]) (by simp [vNm,psR])
 have hi1 : i = ws.length:=by have:=of_decide_eq_false hc;omega
 subst hi1
 clear hc
 obtain ⟨hfr,hfc,hul,hps⟩:=hw
 rw [List.drop_length,J5,List.append_nil] at hfr
 rw [List.drop_length,U5] at hfc
 rw [List.take_length] at hps
 obtain rfl : us = US:=by rw [hUS,hfr]
 obtain rfl : ps = PS:=by rw [hPS,hps]
 obtain rfl : k = E:=by rw [hE,hfc]
 clear hfr hfc hps hPS hUS hE
 refine AWp.exit ?_
 refine AWp.rg [] [] ?_ (hr:=by conv=>lhs;simp [psR,Lx])
 refine AWp.ret ?_
 try dsimp only [Qq,Q8]
 apply Qv.Qq1 [400,401]
 ·rfl
 ·conv=>lhs;simp
 ·conv=>lhs;simp [Q9,Tryd.results94]
 ·rfl
 ·simp [Qj,Q4]
theorem cs_fresh1 (s : ByteArray) (c : Int) : X3 Tryd.prog 94 [.ptr 1000 0,.d (.sl [[.str s]])] [(1000,nObj c)] (.tuple [.d (.sl [[.str (vNm (wr (c + 1)))]]),.d (.sl [[.str s,.str (vNm (wr (c + 1)))]])]) [(1000,nObj (wr (c + 1)))]:=by
 exact cs_fresh [s] c (by simp)
theorem nowP_snoc {ps : Ps} {i : Nat} {p : ByteArray×ByteArray} (h : ps[i]? = some p) (s : ByteArray) : nowP (ps.take (i + 1)) s = if p.1 = s then p.2 else nowP (ps.take i) s:=by
 unfold nowP
 rw [List.take_add_one,h,List.foldl_append]
 rfl
def RnE (N : Nat) : Prop:=∀ (t : Tm) (ps : Ps) (c : Int),t.Rt N→t.Ok→ps.length + 6 * N≤1000 →
 X3 Tryd.prog 95 [.ptr 1000 0,Xw t,psAV ps] [(1000,nObj c)] (Xw (t.rn ps c).1) [(1000,nObj (t.rn ps c).2)]
set_option maxRecDepth 20000 in
set_option maxHeartbeats 16000000 in
theorem rn_step (N : Nat) (ih : RnE N) : RnE (N + 1):=by
 intro t ps c hRt hO hps
 obtain ⟨R,hR⟩ : ∃ R,R = t.rn ps c:=⟨_,rfl⟩
 rw [← hR]
 obtain ⟨tk,tn,ta,tb,tvs,txs,tcs⟩:=t
 obtain ⟨hkk,hmany,h6,hxR,hcR⟩:=hRt
 have hxO : ∀ x∈txs,x.Ok:=fun x hx=>Tm.Zq.1 hO.2.2.1 x hx
 refine X3.of Tryd.func95 rfl rfl (Nat.le_of_ble_eq_true rfl) ?_
 show AWp _ _ (Qv _ Tryd.f95 _ _) (X8 118 _ _)
 refine AWp.rg [] [] ?_ (hr:=by conv=>lhs;simp [Tm.row,Tm.Q3,Cs.Q3,psR])
 refine AWp.rg [] [] ?_ (hr:=by conv=>lhs;simp [Tm.row,Tm.Q3,Cs.Q3,psR])
 refine AWp.rg [] [] ?_ (hr:=by conv=>lhs;simp [Tm.row,Tm.Q3,Cs.Q3,psR])
 by_cases q1 : tk = 1
 ·refine AWp.rg [] [] ?_ (hr:=by conv=>lhs;simp [Tm.row,Tm.Q3,Cs.Q3,psR,q1])
  refine AWp.cy ?_
  subst q1
  obtain rfl : R = (.mk 1 tn (nowP ps ta) tb tvs [] [],c):=by rw [hR,Tm.rn,if_pos rfl]
  refine AWp.rg [] [] ?_ (hr:=by conv=>lhs;simp [Tm.row,Tm.Q3,Cs.Q3,psR])
  repeat (first | refine AWp.seq ?_ | refine AWp.block ?_)
  refine AWp.loop (σ:=fun u : {u : Nat // u≤ps.length}=>⟨118,[(4,.ptr 4 0),(6,.ptr 6 0),(7,.ptr 7 0),(25,.d (.sl (ps.map psR))),(26,.d (.int (ps.length : Int))),(27,.d (.int (u.1 : Int)))],[(4,some (.blk 32 [.d (.int 1),.d (.int tn),.d (.str ta),.d (.str tb),.d (Q7 tvs),.d (.sl (txs.map Tm.row)),.d (.sl (tcs.map Cs.row))])),(6,some (.blk 32 [.d (.int 0),.d (.int 0),.d (.str ByteArray.empty),.d (.str ByteArray.empty),.lit (.slice none 0 0),.lit (.slice none 0 0),.lit (.slice none 0 0)])),(7,some (.blk 32 [.d (.int 1),.d (.int tn),.d (.str (nowP (ps.take u.1) ta)),.d (.str tb),.d (Q7 tvs),.lit (.slice none 0 0),.lit (.slice none 0 0)])),(1000,some (.blk 152 [.d (.int c)]))]⟩)
   (μ:=fun u=>ps.length - u.1) ⟨0,Nat.zero_le _⟩ (Le.sub (by simp [nowP]) (by simp [nowP])) (fun ⟨i,hi5⟩=>?_)
  dsimp only
  refine AWp.rg [] [] ?_ (hr:=by conv=>lhs;simp [Tm.row,Tm.Q3,Cs.Q3,psR])
  repeat (first | refine AWp.seq ?_ | refine AWp.block ?_)
  refine AWp.cond rfl (fun hc=>?_) (fun hc=>?_)
  ·have hi1 : i < ps.length:=by have:=of_decide_eq_true hc;omega
   clear hc
   have h1p : ps[i]? = some ps[i]:=List.getElem?_eq_getElem hi1
   have hmp : ps[i]∈ps:=List.getElem_mem hi1
   have hdp : ps.drop i = ps[i] :: ps.drop (i + 1):=List.drop_eq_getElem_cons hi1
   generalize ps[i] = p at h1p hmp hdp
   have hsn:=nowP_snoc h1p ta
   generalize nowP (ps.take i) ta = nw at hsn ⊢
   obtain ⟨pf,pg⟩:=p
   refine AWp.skip ?_
   refine AWp.rg [] [] ?_ (hr:=by conv=>lhs;simp [Tm.row,Tm.Q3,Cs.Q3,psR,h1p])
   by_cases q2 : pf = ta
   ·refine AWp.rg [] [] ?_ (hr:=by conv=>lhs;simp [Tm.row,Tm.Q3,Cs.Q3,psR,h1p,q2])
    refine AWp.cy ?_
    refine AWp.rg [] [] ?_ (hr:=by conv=>lhs;simp [Tm.row,Tm.Q3,Cs.Q3,psR,h1p,q2])
    refine AWp.rg [] [] ?_ (hr:=by conv=>lhs;simp [Tm.row,Tm.Q3,Cs.Q3,psR,h1p,q2])
    refine ⟨⟨i + 1,hi1⟩,by simp;omega,?_⟩
    dsimp only
    rw [if_pos (by assumption)] at hsn
    rw [hsn]
    exact Le.sub (by simp) (by simp)
   refine AWp.rg [] [] ?_ (hr:=by conv=>lhs;simp [Tm.row,Tm.Q3,Cs.Q3,psR,h1p,q2])
   refine AWp.cn ?_
   refine AWp.skip ?_
   refine AWp.rg [] [] ?_ (hr:=by conv=>lhs;simp [Tm.row,Tm.Q3,Cs.Q3,psR,h1p,q2])
   refine ⟨⟨i + 1,hi1⟩,by simp;omega,?_⟩
   dsimp only
   rw [if_neg (by assumption)] at hsn
   rw [hsn]
   exact Le.sub (by simp) (by simp)
  have hi1 : i = ps.length:=by have:=of_decide_eq_false hc;omega
  subst hi1
  clear hc
  rw [List.take_length]
  refine AWp.exit ?_
  refine AWp.rg [] [] ?_ (hr:=by conv=>lhs;simp [Tm.row,Tm.Q3,Cs.Q3,psR])
  refine AWp.ret ?_
  try dsimp only [Qq,Q8]
  apply Qv.ret
  ·rfl
  ·conv=>lhs;simp [Q9,Tryd.results95]
  ·rfl
  ·simp [Qj,Q4]
 refine AWp.rg [] [] ?_ (hr:=by conv=>lhs;simp [Tm.row,Tm.Q3,Cs.Q3,psR,q1])
 refine AWp.cn ?_
 refine AWp.skip ?_
 rw [Tm.rn,if_neg q1] at hR
 refine AWp.rg [] [] ?_ (hr:=by conv=>lhs;simp [Tm.row,Tm.Q3,Cs.Q3,psR,q1])
 repeat (first | refine AWp.seq ?_ | refine AWp.block ?_)
 refine AWp.le (Le.low [400] [] (fr:=[(0,.ptr 1000 0),(2,.d (.sl (ps.map psR))),(4,.ptr 4 0),(6,.ptr 6 0),(7,.ptr 7 0),(42,.d (.sl (txs.map Tm.row))),(43,.d (.int (txs.length : Int))),(44,.d (.int (0 : Int)))]) (mem:=[(4,some (.blk 32 [.d (.int tk),.d (.int tn),.d (.str ta),.d (.str tb),.d (Q7 tvs),.d (.sl (txs.map Tm.row)),.d (.sl (tcs.map Cs.row))])),(6,some (.blk 32 [.d (.int 0),.d (.int 0),.d (.str ByteArray.empty),.d (.str ByteArray.empty),.lit (.slice none 0 0),.lit (.slice none 0 0),.lit (.slice none 0 0)])),(7,some (.blk 32 [.d (.int tk),.d (.int tn),.d (.str (ta : ByteArray)),.d (.str tb),.d (Q7 tvs),.arr 400 0 ([] : List Tm).length,.lit (.slice none 0 0)])),(400,some (.arr 32 7 (([] : List Tm).map Tm.row))),(1000,some (.blk 152 [.d (.int (c : Int))]))]) rfl (by simp) (by simp)) ?_
 refine AWp.loop (σ:=fun u : {u : Nat×List Tm×ByteArray×Int // u.1≤txs.length∧(Tm.rns tk ta ps 0 txs ta c = (u.2.1 ++ (Tm.rns tk ta ps u.1 (txs.drop u.1) u.2.2.1 u.2.2.2).1,(Tm.rns tk ta ps u.1 (txs.drop u.1) u.2.2.1 u.2.2.2).2)∧u.2.1.length = u.1)}=>⟨118,[(0,.ptr 1000 0),(2,.d (.sl (ps.map psR))),(4,.ptr 4 0),(6,.ptr 6 0),(7,.ptr 7 0),(42,.d (.sl (txs.map Tm.row))),(43,.d (.int (txs.length : Int))),(44,.d (.int (u.1.1 : Int)))],[(4,some (.blk 32 [.d (.int tk),.d (.int tn),.d (.str ta),.d (.str tb),.d (Q7 tvs),.d (.sl (txs.map Tm.row)),.d (.sl (tcs.map Cs.row))])),(6,some (.blk 32 [.d (.int 0),.d (.int 0),.d (.str ByteArray.empty),.d (.str ByteArray.empty),.lit (.slice none 0 0),.lit (.slice none 0 0),.lit (.slice none 0 0)])),(7,some (.blk 32 [.d (.int tk),.d (.int tn),.d (.str u.1.2.2.1),.d (.str tb),.d (Q7 tvs),.arr 400 0 u.1.2.1.length,.lit (.slice none 0 0)])),(400,some (.arr 32 7 (u.1.2.1.map Tm.row))),(1000,some (.blk 152 [.d (.int u.1.2.2.2)]))]⟩)
  (μ:=fun u=>txs.length - u.1.1) ⟨(0,[],ta,c),⟨Nat.zero_le _,⟨by simp,rfl⟩⟩⟩ (Le.sub (by simp) (by simp)) (fun ⟨(i,ys,nm,c1),⟨hi12,hw⟩⟩=>?_)
 dsimp only at hi12 hw ⊢
 refine AWp.rg [] [] ?_ (hr:=by conv=>lhs;simp [Tm.row,Tm.Q3,Cs.Q3,psR,q1])
 repeat (first | refine AWp.seq ?_ | refine AWp.block ?_)
 refine AWp.cond rfl (fun hc=>?_) (fun hc=>?_)
 ·have hi1 : i < txs.length:=by have:=of_decide_eq_true hc;omega
  clear hc
  have h1y : txs[i]? = some txs[i]:=List.getElem?_eq_getElem hi1
  have hmy : txs[i]∈txs:=List.getElem_mem hi1
  have hdy : txs.drop i = txs[i] :: txs.drop (i + 1):=List.drop_eq_getElem_cons hi1
  generalize txs[i] = y at h1y hmy hdy
  obtain ⟨hap,hyl⟩:=hw
  have hyR:=hxR y hmy
  rw [hdy] at hap
  refine AWp.skip ?_
  by_cases hk6 : tk = 6
  ·by_cases hi1e : (i : Int) = 1
   ·have hi1t:=eq_true hi1e
    rw [Tm.rns,if_pos ⟨hk6,by omega⟩] at hap
    obtain ⟨e,he⟩ : ∃ e : Int,e = wr (c1 + 1):=⟨_,rfl⟩
    rw [← he] at hap
    have hfr:=cs_fresh1 ta c1
    rw [← he] at hfr
    obtain ⟨v,hv⟩ : ∃ v,v = vNm e:=⟨_,rfl⟩
    rw [← hv] at hfr hap
    obtain ⟨nw,hnw⟩ : ∃ nw,nw = ps ++ [(ta,v)]:=⟨_,rfl⟩
    rw [← hnw] at hap
    have hnw2 : List.take (ps.length + 1) (List.map psR ps ++ [[D.str ta,D.str v]]) = List.map psR nw:=by rw [hnw,List.map_append,List.take_of_length_le (by simp)];rfl
    have hx:=ih y nw e hyR (hxO y hmy) (by rw [hnw,List.length_append,List.length_singleton];omega)
    generalize y.rn nw e = o at hx hap
    obtain ⟨z,c2⟩:=o
    dsimp only at hx hap
    obtain ⟨yk,yn,ya,yb,yvs,yxs,ycs⟩:=y
    obtain ⟨zk,zn,za,zb,zvs,zxs,zcs⟩:=z
    refine AWp.rg [] [] ?_ (hr:=by conv=>lhs;simp [Tm.row,Tm.Q3,Cs.Q3,psR,h1y,hnw2,q1,hk6,hi1t])
    refine AWp.rg [] [] ?_ (hr:=by conv=>lhs;simp [Tm.row,Tm.Q3,Cs.Q3,psR,h1y,hnw2,q1,hk6,hi1t])
    refine AWp.rg [] [] ?_ (hr:=by conv=>lhs;simp [Tm.row,Tm.Q3,Cs.Q3,psR,h1y,hnw2,q1,hk6,hi1t])
    refine AWp.cy ?_
    refine AWp.rg [3] [.c [] [.ptr 1000 0,.d (.sl [[.str ta]])] [(1000,.blk 152 [.d (.int c1)])] (.tuple [.d (.sl [[.str v]]),.d (.sl [[.str ta,.str v]])]) [(1000,.blk 152 [.d (.int e)])]] ?_ (hr:=by conv=>lhs;simp [Tm.row,Tm.Q3,Cs.Q3,psR,h1y,hnw2,q1,hk6,hi1t])
    refine AWp.rg [] [] ?_ (hr:=by conv=>lhs;simp [Tm.row,Tm.Q3,Cs.Q3,psR,h1y,hnw2,q1,hk6,hi1t])
    refine AWp.rg [4] [] ?_ (hr:=by conv=>lhs;simp [Tm.row,Tm.Q3,Cs.Q3,psR,h1y,hnw2,q1,hk6,hi1t])
    refine AWp.dw [] [.c [] [.ptr 1000 0,.agg [.d (.int yk),.d (.int yn),.d (.str ya),.d (.str yb),.d (Q7 yvs),.d (.sl (yxs.map Tm.row)),.d (.sl (ycs.map Cs.row))],.d (.sl (nw.map psR))] [(1000,.blk 152 [.d (.int e)])] (.agg [.d (.int zk),.d (.int zn),.d (.str za),.d (.str zb),.d (Q7 zvs),.d (.sl (zxs.map Tm.row)),.d (.sl (zcs.map Cs.row))]) [(1000,.blk 152 [.d (.int c2)])]] mixed ?_ (hr:=by conv=>lhs;simp [Tm.row,Tm.Q3,Cs.Q3,psR,h1y,hnw2,q1,hk6,hi1t])
    refine AWp.rg [] [] ?_ (hr:=by conv=>lhs;simp [Tm.row,Tm.Q3,Cs.Q3,psR,h1y,hnw2,q1,hk6,hi1t])
    refine ⟨⟨(i + 1,ys ++ [.mk zk zn za zb zvs zxs zcs],v,c2),hi1,⟨by rw [hap];simp,by simp [hyl]⟩⟩,by simp;omega,?_⟩
    dsimp only
    exact Le.sub (by simp [Tm.row,Tm.Q3,Cs.Q3,hyl,hk6]) (by simp [Tm.row,Tm.Q3,Cs.Q3,hyl,hk6])
   have hi1n:=hi1e
   rw [Tm.rns,if_neg (fun h=>hi1e (by have:=h.2;omega))] at hap
   have hx:=ih y ps c1 hyR (hxO y hmy) (by omega)
   generalize y.rn ps c1 = o at hx hap
   obtain ⟨z,c2⟩:=o
   dsimp only at hx hap
   obtain ⟨yk,yn,ya,yb,yvs,yxs,ycs⟩:=y
   obtain ⟨zk,zn,za,zb,zvs,zxs,zcs⟩:=z
   refine AWp.rg [] [] ?_ (hr:=by conv=>lhs;simp [Tm.row,Tm.Q3,Cs.Q3,psR,h1y,q1,hk6,hi1n])
   refine AWp.rg [] [] ?_ (hr:=by conv=>lhs;simp [Tm.row,Tm.Q3,Cs.Q3,psR,h1y,q1,hk6,hi1n])
   refine AWp.rg [] [] ?_ (hr:=by conv=>lhs;simp [Tm.row,Tm.Q3,Cs.Q3,psR,h1y,q1,hk6,hi1n])
   refine AWp.cn ?_
   refine AWp.skip ?_
   refine AWp.dw [] [.c [] [.ptr 1000 0,.agg [.d (.int yk),.d (.int yn),.d (.str ya),.d (.str yb),.d (Q7 yvs),.d (.sl (yxs.map Tm.row)),.d (.sl (ycs.map Cs.row))],.d (.sl (ps.map psR))] [(1000,.blk 152 [.d (.int c1)])] (.agg [.d (.int zk),.d (.int zn),.d (.str za),.d (.str zb),.d (Q7 zvs),.d (.sl (zxs.map Tm.row)),.d (.sl (zcs.map Cs.row))]) [(1000,.blk 152 [.d (.int c2)])]] mixed ?_ (hr:=by conv=>lhs;simp [Tm.row,Tm.Q3,Cs.Q3,psR,h1y,q1,hk6,hi1n])
   refine AWp.rg [] [] ?_ (hr:=by conv=>lhs;simp [Tm.row,Tm.Q3,Cs.Q3,psR,h1y,q1,hk6,hi1n])
   refine ⟨⟨(i + 1,ys ++ [.mk zk zn za zb zvs zxs zcs],nm,c2),hi1,⟨by rw [hap];simp,by simp [hyl]⟩⟩,by simp;omega,?_⟩
   dsimp only
   exact Le.sub (by simp [Tm.row,Tm.Q3,Cs.Q3,hyl,hk6]) (by simp [Tm.row,Tm.Q3,Cs.Q3,hyl,hk6])
  rw [Tm.rns,if_neg (fun h=>hk6 h.1)] at hap
  have hx:=ih y ps c1 hyR (hxO y hmy) (by omega)
  generalize y.rn ps c1 = o at hx hap
  obtain ⟨z,c2⟩:=o
  dsimp only at hx hap
  obtain ⟨yk,yn,ya,yb,yvs,yxs,ycs⟩:=y
  obtain ⟨zk,zn,za,zb,zvs,zxs,zcs⟩:=z
  refine AWp.rg [] [] ?_ (hr:=by conv=>lhs;simp [Tm.row,Tm.Q3,Cs.Q3,psR,h1y,q1,hk6])
  refine AWp.rg [] [] ?_ (hr:=by conv=>lhs;simp [Tm.row,Tm.Q3,Cs.Q3,psR,h1y,q1,hk6])
  refine AWp.rg [] [] ?_ (hr:=by conv=>lhs;simp [Tm.row,Tm.Q3,Cs.Q3,psR,h1y,q1,hk6])
  refine AWp.cn ?_
  refine AWp.skip ?_
  refine AWp.dw [] [.c [] [.ptr 1000 0,.agg [.d (.int yk),.d (.int yn),.d (.str ya),.d (.str yb),.d (Q7 yvs),.d (.sl (yxs.map Tm.row)),.d (.sl (ycs.map Cs.row))],.d (.sl (ps.map psR))] [(1000,.blk 152 [.d (.int c1)])] (.agg [.d (.int zk),.d (.int zn),.d (.str za),.d (.str zb),.d (Q7 zvs),.d (.sl (zxs.map Tm.row)),.d (.sl (zcs.map Cs.row))]) [(1000,.blk 152 [.d (.int c2)])]] mixed ?_ (hr:=by conv=>lhs;simp [Tm.row,Tm.Q3,Cs.Q3,psR,h1y,q1,hk6])
  refine AWp.rg [] [] ?_ (hr:=by conv=>lhs;simp [Tm.row,Tm.Q3,Cs.Q3,psR,h1y,q1,hk6])
  refine ⟨⟨(i + 1,ys ++ [.mk zk zn za zb zvs zxs zcs],nm,c2),hi1,⟨by rw [hap];simp,by simp [hyl]⟩⟩,by simp;omega,?_⟩
  dsimp only
  exact Le.sub (by simp [Tm.row,Tm.Q3,Cs.Q3,hyl]) (by simp [Tm.row,Tm.Q3,Cs.Q3,hyl])
 have hi1 : i = txs.length:=by have:=of_decide_eq_false hc;omega
 subst hi1
 clear hc
 obtain ⟨hap,hyl⟩:=hw
 rw [List.drop_length,Tm.rns] at hap
 simp only [List.append_nil] at hap
 rw [hap] at hR
 dsimp only at hR
 clear hap
 refine AWp.exit ?_
 refine AWp.rg [] [] ?_ (hr:=by conv=>lhs;simp [Tm.row,Tm.Q3,Cs.Q3,psR,q1])
 repeat (first | refine AWp.seq ?_ | refine AWp.block ?_)
 refine AWp.le (Le.low [401] [] (fr:=[(0,.ptr 1000 0),(2,.d (.sl (ps.map psR))),(6,.ptr 6 0),(7,.ptr 7 0),(85,.d (.sl (tcs.map Cs.row))),(86,.d (.int (tcs.length : Int))),(87,.d (.int (0 : Int)))]) (mem:=[(6,some (.blk 32 [.d (.int 0),.d (.int 0),.d (.str ByteArray.empty),.d (.str ByteArray.empty),.lit (.slice none 0 0),.lit (.slice none 0 0),.lit (.slice none 0 0)])),(7,some (.blk 32 [.d (.int tk),.d (.int tn),.d (.str nm),.d (.str tb),.d (Q7 tvs),.arr 400 0 ys.length,.arr 401 0 ([] : List Cs).length])),(400,some (.arr 32 7 (ys.map Tm.row))),(401,some (.arr 42 9 (([] : List Cs).map Cs.row))),(1000,some (.blk 152 [.d (.int (c1 : Int))]))]) rfl (by simp) (by simp)) ?_
 refine AWp.loop (σ:=fun u : {u : Nat×List Cs×Int // u.1≤tcs.length∧(Cs.rnL tcs ps c1 = (u.2.1 ++ (Cs.rnL (tcs.drop u.1) ps u.2.2).1,(Cs.rnL (tcs.drop u.1) ps u.2.2).2)∧u.2.1.length = u.1)}=>⟨118,[(0,.ptr 1000 0),(2,.d (.sl (ps.map psR))),(6,.ptr 6 0),(7,.ptr 7 0),(85,.d (.sl (tcs.map Cs.row))),(86,.d (.int (tcs.length : Int))),(87,.d (.int (u.1.1 : Int)))],[(6,some (.blk 32 [.d (.int 0),.d (.int 0),.d (.str ByteArray.empty),.d (.str ByteArray.empty),.lit (.slice none 0 0),.lit (.slice none 0 0),.lit (.slice none 0 0)])),(7,some (.blk 32 [.d (.int tk),.d (.int tn),.d (.str nm),.d (.str tb),.d (Q7 tvs),.arr 400 0 ys.length,.arr 401 0 u.1.2.1.length])),(400,some (.arr 32 7 (ys.map Tm.row))),(401,some (.arr 42 9 (u.1.2.1.map Cs.row))),(1000,some (.blk 152 [.d (.int u.1.2.2)]))]⟩)
  (μ:=fun u=>tcs.length - u.1.1) ⟨(0,[],c1),⟨Nat.zero_le _,⟨by simp,rfl⟩⟩⟩ (Le.sub (by simp) (by simp)) (fun ⟨(i,ds,c3),⟨hi22,hw2⟩⟩=>?_)
 dsimp only at hi22 hw2 ⊢
 refine AWp.rg [] [] ?_ (hr:=by conv=>lhs;simp [Tm.row,Tm.Q3,Cs.Q3,psR,q1])
 repeat (first | refine AWp.seq ?_ | refine AWp.block ?_)
 refine AWp.cond rfl (fun hc=>?_) (fun hc=>?_)
 ·have hi1 : i < tcs.length:=by have:=of_decide_eq_true hc;omega
  clear hc
  have h1d : tcs[i]? = some tcs[i]:=List.getElem?_eq_getElem hi1
  have hmd : tcs[i]∈tcs:=List.getElem_mem hi1
  have hdd : tcs.drop i = tcs[i] :: tcs.drop (i + 1):=List.drop_eq_getElem_cons hi1
  generalize tcs[i] = d at h1d hmd hdd
  obtain ⟨hap,hdl⟩:=hw2
  rw [hdd,Cs.rnL] at hap
  have hdR:=hcR d hmd
  obtain ⟨dt,dws,y⟩:=d
  obtain ⟨hw6,hyR⟩:=hdR
  dsimp only at hw6 hyR
  rw [Cs.rn] at hap
  have hfr:=cs_fresh dws c3 hw6
  obtain ⟨e,he⟩ : ∃ e : Int,e = U5 dws c3:=⟨_,rfl⟩
  rw [← he] at hfr hap
  have hul:=U4 dws c3
  generalize J5 dws c3 = us at hfr hap hul
  have hpxl : (dws.zip us).length = dws.length:=by rw [List.length_zip];omega
  generalize dws.zip us = PX at hfr hap hpxl
  obtain ⟨nw,hnw⟩ : ∃ nw,nw = ps ++ PX:=⟨_,rfl⟩
  rw [← hnw] at hap
  have hnw2 : List.take (ps.length + PX.length) (List.map psR ps ++ List.map psR PX) = List.map psR nw:=by rw [hnw,List.map_append,List.take_of_length_le (by simp)]
  have hx:=ih y nw e hyR (Cs.Zq.1 hO.2.2.2 _ hmd).2.2 (by rw [hnw,List.length_append];omega)
  generalize y.rn nw e = o at hx hap
  obtain ⟨z,c2⟩:=o
  dsimp only at hx hap
  obtain ⟨dk,dn,da,db,dvs,dxs,dcs⟩:=y
  obtain ⟨zk,zn,za,zb,zvs,zxs,zcs⟩:=z
  refine AWp.skip ?_
  refine AWp.rg [] [] ?_ (hr:=by conv=>lhs;simp [Tm.row,Tm.Q3,Cs.Q3,psR,h1d,Cs.row,hnw2,q1])
  refine AWp.rg [] [.c [] [.ptr 1000 0,.d (Q7 dws)] [(1000,.blk 152 [.d (.int c3)])] (.tuple [.d (Q7 us),.d (.sl (PX.map psR))]) [(1000,.blk 152 [.d (.int e)])]] ?_ (hr:=by conv=>lhs;simp [Tm.row,Tm.Q3,Cs.Q3,psR,h1d,Cs.row,hnw2,q1])
  refine AWp.dw [12] [.c [] [.ptr 1000 0,.agg [.d (.int dk),.d (.int dn),.d (.str da),.d (.str db),.d (Q7 dvs),.d (.sl (dxs.map Tm.row)),.d (.sl (dcs.map Cs.row))],.d (.sl (nw.map psR))] [(1000,.blk 152 [.d (.int e)])] (.agg [.d (.int zk),.d (.int zn),.d (.str za),.d (.str zb),.d (Q7 zvs),.d (.sl (zxs.map Tm.row)),.d (.sl (zcs.map Cs.row))]) [(1000,.blk 152 [.d (.int c2)])]] mixed ?_ (hr:=by conv=>lhs;simp [Tm.row,Tm.Q3,Cs.Q3,psR,h1d,Cs.row,hnw2,q1])
  refine AWp.rg [] [] ?_ (hr:=by conv=>lhs;simp [Tm.row,Tm.Q3,Cs.Q3,psR,h1d,Cs.row,hnw2,q1])
  refine ⟨⟨(i + 1,ds ++ [.mk dt us (.mk zk zn za zb zvs zxs zcs)],c2),hi1,⟨by rw [hap];simp,by simp [hdl]⟩⟩,by simp;omega,?_⟩
  dsimp only
  exact Le.sub (by simp [Cs.row,Tm.row,Tm.Q3,Cs.Q3,hdl]) (by simp [Cs.row,Tm.row,Tm.Q3,Cs.Q3,hdl])
 have hi1 : i = tcs.length:=by have:=of_decide_eq_false hc;omega
 subst hi1
 clear hc
 obtain ⟨hap,hdl⟩:=hw2
 rw [List.drop_length,Cs.rnL] at hap
 simp only [List.append_nil] at hap
 rw [hap] at hR
 dsimp only at hR
 subst hR
 refine AWp.exit ?_
 refine AWp.rg [] [] ?_ (hr:=by conv=>lhs;simp [Tm.row,Tm.Q3,Cs.Q3,psR,q1])
 refine AWp.ret ?_
 try dsimp only [Qq,Q8]
 apply Qv.Qq1 [400,401]
 ·rfl
 ·conv=>lhs;simp
 ·conv=>lhs;simp [Q9,Tryd.results95]
 ·rfl
 ·simp [Qj,Q4]
theorem rn_all : ∀ N,RnE N
 | 0=>fun _ _ _ h=>h.elim
 | N + 1=>rn_step N (rn_all N)
set_option maxRecDepth 20000 in
set_option maxHeartbeats 16000000 in
theorem sp_pickI (l o : List ByteArray) (hl : l.length≤8796093022207) (ho : o.length≤8796093022208) : Qw Tryd.prog 99 [X6 l,X6 o,.d (.bool true)] (fun _=>X6 (inN l o)) none:=by
 refine Qw.of Tryd.func99 rfl rfl rfl (Nat.le_of_ble_eq_true rfl) ?_
 show AWp _ _ (Zk _ Tryd.f99 _ _ _) (Z7 27 _)
 refine AWp.rg [] [] ?_
 refine AWp.rg [] [] ?_
 refine AWp.rg [] [] ?_
 repeat (first | refine AWp.seq ?_ | refine AWp.block ?_)
 refine AWp.le (Le.low [400] [] (fr:=[(1,.d (Q7 o)),(2,.d (.bool true)),(7,.arr 400 0 ([] : List ByteArray).length),(10,.d (Q7 l)),(11,.d (.int (l.length : Int))),(12,.d (.int (0 : Int)))]) (mem:=[(400,some (.arr 9 1 (([] : List ByteArray).map Zw)))]) rfl (by simp) (by simp)) ?_
 refine AWp.loop (σ:=fun u : {u : Nat×List ByteArray // u.1≤l.length∧u.2 = inN (l.take u.1) o}=>⟨27,[(1,.d (Q7 o)),(2,.d (.bool true)),(7,.arr 400 0 u.1.2.length),(10,.d (Q7 l)),(11,.d (.int (l.length : Int))),(12,.d (.int (u.1.1 : Int)))],[(400,some (.arr 9 1 (u.1.2.map Zw)))]⟩)
  (μ:=fun u=>l.length - u.1.1) ⟨(0,[]),⟨Nat.zero_le _,by simp [inN]⟩⟩ (Le.sub (by simp) (by simp)) (fun ⟨(i,us),⟨hi3,hw⟩⟩=>?_)
 dsimp only at hi3 hw ⊢
 refine AWp.rg [] [] ?_
 repeat (first | refine AWp.seq ?_ | refine AWp.block ?_)
 refine AWp.cond rfl (fun hc=>?_) (fun hc=>?_)
 ·have hi1 : i < l.length:=by have:=of_decide_eq_true hc;omega
  clear hc
  have h1x : l[i]? = some l[i]:=List.getElem?_eq_getElem hi1
  have hmx : l[i]∈l:=List.getElem_mem hi1
  have hdx : l.drop i = l[i] :: l.drop (i + 1):=List.drop_eq_getElem_cons hi1
  generalize l[i] = x at h1x hmx hdx
  have hul : us.length≤i:=by have:=Rv (l.take i) o;rw [hw];rw [List.length_take] at this;omega
  have hsn:=inN_snoc o h1x
  rw [← hw] at hsn
  have hc:=sp_Has o x ho
  generalize hasB o x = q at hc hsn
  refine AWp.skip ?_
  refine AWp.rg [] [] ?_ (hr:=by conv=>lhs;simp [h1x])
  cases q with
  | true =>
   refine AWp.rg [] [.p (fun _=>.d (.bool true)) none] ?_ (hr:=by conv=>lhs;simp [h1x])
   refine AWp.cy ?_
   refine AWp.rg [] [] ?_ (hr:=by conv=>lhs;simp [h1x])
   refine AWp.rg [] [] ?_ (hr:=by conv=>lhs;simp [h1x])
   refine ⟨⟨(i + 1,us ++ [x]),hi1,by rw [hsn];rfl⟩,by simp;omega,?_⟩
   dsimp only
   exact Le.sub (by simp) (by simp)
  | false =>
   refine AWp.rg [] [.p (fun _=>.d (.bool false)) none] ?_ (hr:=by conv=>lhs;simp [h1x])
   refine AWp.cn ?_
   refine AWp.skip ?_
   refine AWp.rg [] [] ?_ (hr:=by conv=>lhs;simp [h1x])
   refine ⟨⟨(i + 1,us),hi1,by rw [hsn];rfl⟩,by simp;omega,?_⟩
   dsimp only
   exact Le.sub (by simp) (by simp)
 have hi1 : i = l.length:=by have:=of_decide_eq_false hc;omega
 subst hi1
 clear hc
 rw [List.take_length] at hw
 subst hw
 refine AWp.exit ?_
 refine AWp.rg [] [] ?_
 refine AWp.ret ?_
 try dsimp only [Qq,Q8]
 apply Zk.Qq1 [400]
 ·rfl
 ·conv=>lhs;simp
 ·conv=>lhs;simp [Q9,Tryd.results99]
 rfl
set_option maxRecDepth 20000 in
set_option maxHeartbeats 16000000 in
theorem sp_pickO (l o : List ByteArray) (hl : l.length≤8796093022207) (ho : o.length≤8796093022208) : Qw Tryd.prog 99 [X6 l,X6 o,.d (.bool false)] (fun _=>X6 (woN l o)) none:=by
 refine Qw.of Tryd.func99 rfl rfl rfl (Nat.le_of_ble_eq_true rfl) ?_
 show AWp _ _ (Zk _ Tryd.f99 _ _ _) (Z7 27 _)
 refine AWp.rg [] [] ?_
 refine AWp.rg [] [] ?_
 refine AWp.rg [] [] ?_
 repeat (first | refine AWp.seq ?_ | refine AWp.block ?_)
 refine AWp.le (Le.low [400] [] (fr:=[(1,.d (Q7 o)),(2,.d (.bool false)),(7,.arr 400 0 ([] : List ByteArray).length),(10,.d (Q7 l)),(11,.d (.int (l.length : Int))),(12,.d (.int (0 : Int)))]) (mem:=[(400,some (.arr 9 1 (([] : List ByteArray).map Zw)))]) rfl (by simp) (by simp)) ?_
 refine AWp.loop (σ:=fun u : {u : Nat×List ByteArray // u.1≤l.length∧u.2 = woN (l.take u.1) o}=>⟨27,[(1,.d (Q7 o)),(2,.d (.bool false)),(7,.arr 400 0 u.1.2.length),(10,.d (Q7 l)),(11,.d (.int (l.length : Int))),(12,.d (.int (u.1.1 : Int)))],[(400,some (.arr 9 1 (u.1.2.map Zw)))]⟩)
  (μ:=fun u=>l.length - u.1.1) ⟨(0,[]),⟨Nat.zero_le _,by simp [woN]⟩⟩ (Le.sub (by simp) (by simp)) (fun ⟨(i,us),⟨hi3,hw⟩⟩=>?_)
 dsimp only at hi3 hw ⊢
 refine AWp.rg [] [] ?_
 repeat (first | refine AWp.seq ?_ | refine AWp.block ?_)
 refine AWp.cond rfl (fun hc=>?_) (fun hc=>?_)
 ·have hi1 : i < l.length:=by have:=of_decide_eq_true hc;omega
  clear hc
  have h1x : l[i]? = some l[i]:=List.getElem?_eq_getElem hi1
  have hmx : l[i]∈l:=List.getElem_mem hi1
  have hdx : l.drop i = l[i] :: l.drop (i + 1):=List.drop_eq_getElem_cons hi1
  generalize l[i] = x at h1x hmx hdx
  have hul : us.length≤i:=by have:=Fv (l.take i) o;rw [hw];rw [List.length_take] at this;omega
  have hsn:=woN_snoc o h1x
  rw [← hw] at hsn
  have hc:=sp_Has o x ho
  generalize hasB o x = q at hc hsn
  refine AWp.skip ?_
  refine AWp.rg [] [] ?_ (hr:=by conv=>lhs;simp [h1x])
  cases q with
  | true =>
   refine AWp.rg [] [.p (fun _=>.d (.bool true)) none] ?_ (hr:=by conv=>lhs;simp [h1x])
   refine AWp.cn ?_
   refine AWp.skip ?_
   refine AWp.rg [] [] ?_ (hr:=by conv=>lhs;simp [h1x])
   refine ⟨⟨(i + 1,us),hi1,by rw [hsn];rfl⟩,by simp;omega,?_⟩
   dsimp only
   exact Le.sub (by simp) (by simp)
  | false =>
   refine AWp.rg [] [.p (fun _=>.d (.bool false)) none] ?_ (hr:=by conv=>lhs;simp [h1x])
   refine AWp.cy ?_
   refine AWp.rg [] [] ?_ (hr:=by conv=>lhs;simp [h1x])
   refine AWp.rg [] [] ?_ (hr:=by conv=>lhs;simp [h1x])
   refine ⟨⟨(i + 1,us ++ [x]),hi1,by rw [hsn];rfl⟩,by simp;omega,?_⟩
   dsimp only
   exact Le.sub (by simp) (by simp)
 have hi1 : i = l.length:=by have:=of_decide_eq_false hc;omega
 subst hi1
 clear hc
 rw [List.take_length] at hw
 subst hw
 refine AWp.exit ?_
 refine AWp.rg [] [] ?_
 refine AWp.ret ?_
 try dsimp only [Qq,Q8]
 apply Zk.Qq1 [400]
 ·rfl
 ·conv=>lhs;simp
 ·conv=>lhs;simp [Q9,Tryd.results99]
 rfl
theorem cnt_append (k : Int) : ∀ (x y : List ByteArray) (t : Tm),cnt k (x ++ y) t = cnt k x (cnt k y t)
 | [],_,_=>rfl
 | b :: r,y,t=>by simp only [List.cons_append,cnt,cnt_append k r y t]
set_option maxRecDepth 20000 in
set_option maxHeartbeats 16000000 in
theorem Uk (kd : Int) (l : List ByteArray) (tk tn : Int) (ta tb : ByteArray) (tvs : List ByteArray) (txs : List Tm) (tcs : List Cs) (hl : l.length≤8796093022207) : Qw Tryd.prog 100 [.d (.int kd),X6 l,Xw (.mk tk tn ta tb tvs txs tcs)] (fun _=>Xw (cnt kd l (.mk tk tn ta tb tvs txs tcs))) none:=by
 obtain ⟨R,hR⟩ : ∃ R,R = cnt kd l (.mk tk tn ta tb tvs txs tcs):=⟨_,rfl⟩
 rw [← hR]
 obtain ⟨rk,rn,ra,rb,rvs,rxs,rcs⟩:=R
 refine Qw.of Tryd.func100 rfl rfl rfl (Nat.le_of_ble_eq_true rfl) ?_
 show AWp _ _ (Zk _ Tryd.f100 _ _ _) (Z7 24 _)
 refine AWp.rg [] [] ?_ (hr:=by conv=>lhs;simp [Tm.row,Tm.Q3,Cs.Q3])
 refine AWp.rg [] [] ?_ (hr:=by conv=>lhs;simp [Tm.row,Tm.Q3,Cs.Q3])
 repeat (first | refine AWp.seq ?_ | refine AWp.block ?_)
 refine AWp.loop (σ:=fun u : {u : Nat×Int×Int×ByteArray×ByteArray×List ByteArray×List Tm×List Cs // (cnt kd l (.mk tk tn ta tb tvs txs tcs) = cnt kd (l.take u.1) (.mk u.2.1 u.2.2.1 u.2.2.2.1 u.2.2.2.2.1 u.2.2.2.2.2.1 u.2.2.2.2.2.2.1 u.2.2.2.2.2.2.2)∧u.1≤l.length)}=>⟨24,[(0,.d (.int kd)),(1,.d (Q7 l)),(5,.ptr 5 0),(6,.ptr 6 0),(7,.d (.int ((u.1.1 : Int) - 1)))],[(5,some (.blk 32 [.d (.int u.1.2.1),.d (.int u.1.2.2.1),.d (.str u.1.2.2.2.1),.d (.str u.1.2.2.2.2.1),.d (Q7 u.1.2.2.2.2.2.1),.d (.sl (u.1.2.2.2.2.2.2.1.map Tm.row)),.d (.sl (u.1.2.2.2.2.2.2.2.map Cs.row))])),(6,some (.blk 32 [.d (.int 0),.d (.int 0),.d (.str ByteArray.empty),.d (.str ByteArray.empty),.lit (.slice none 0 0),.lit (.slice none 0 0),.lit (.slice none 0 0)]))]⟩)
  (μ:=fun u=>u.1.1) ⟨(l.length,tk,tn,ta,tb,tvs,txs,tcs),⟨by rw [List.take_length],Nat.le_refl _⟩⟩ (Le.sub (by simp) (by simp)) (fun ⟨(j0,zk,zn,za,zb,zvs,zxs,zcs),hw⟩=>?_)
 dsimp only at hw ⊢
 obtain ⟨hw,hj⟩:=hw
 rcases j0 with _ | j
 ·rw [show ((0 : Nat) : Int) - 1 = -1 from rfl]
  refine AWp.rg [] [] ?_ (hr:=by conv=>lhs;simp [Tm.row,Tm.Q3,Cs.Q3])
  refine AWp.cn ?_
  refine AWp.exit ?_
  rw [List.take_zero] at hw
  obtain ⟨rfl,rfl,rfl,rfl,rfl,rfl,rfl⟩ : zk = rk∧zn = rn∧za = ra∧zb = rb∧zvs = rvs∧zxs = rxs∧zcs = rcs:=by simpa [cnt] using (hR.trans hw).symm
  refine AWp.rg [] [] ?_ (hr:=by conv=>lhs;simp [Tm.row,Tm.Q3,Cs.Q3])
  refine AWp.ret ?_
  try dsimp only [Qq,Q8]
  apply Zk.ret
  ·rfl
  ·conv=>lhs;simp [Q9,Tryd.results100]
  first | rfl | simp [Z6,Xw]
 rw [show ((j + 1 : Nat) : Int) - 1 = (j : Int) by omega]
 have hk0:=eq_true (Int.natCast_nonneg j)
 have hk1 : j < l.length:=by omega
 have h1p : l[j]? = some l[j]:=List.getElem?_eq_getElem hk1
 have htk : l.take (j + 1) = l.take j ++ [l[j]]:=by rw [List.take_add_one,h1p];rfl
 generalize l[j] = s at h1p htk
 rw [htk,cnt_append] at hw
 dsimp only [cnt] at hw
 refine AWp.rg [] [] ?_ (hr:=by conv=>lhs;simp [Tm.row,Tm.Q3,Cs.Q3,h1p,hk0])
 refine AWp.cy ?_
 refine AWp.skip ?_
 refine AWp.dw [6] [] mixed ?_ (hr:=by conv=>lhs;simp [Tm.row,Tm.Q3,Cs.Q3,h1p,hk0])
 repeat (first | refine AWp.seq ?_ | refine AWp.block ?_)
 refine AWp.le (Le.low [] [] (fr:=[(0,.d (.int kd)),(1,.d (Q7 l)),(5,.ptr 5 0),(6,.ptr 6 0),(7,.d (.int (j : Int)))]) (mem:=[(5,some (.blk 32 [.d (.int kd),.d (.int 0),.d (.str s),.d (.str ByteArray.empty),.d (.sl []),.d (.sl [[.int zk,.int zn,.str za,.str zb,Q7 zvs,.sl (zxs.map Tm.row),.sl (zcs.map Cs.row)]]),.d (.sl [])])),(6,some (.blk 32 [.d (.int 0),.d (.int 0),.d (.str ByteArray.empty),.d (.str ByteArray.empty),.lit (.slice none 0 0),.lit (.slice none 0 0),.lit (.slice none 0 0)]))]) rfl (by simp) (by simp)) ?_
 refine AWp.rg [] [] ?_ (hr:=by conv=>lhs;simp [Tm.row,Tm.Q3,Cs.Q3,h1p,hk0])
 refine ⟨⟨(j,kd,0,s,.empty,[],[.mk zk zn za zb zvs zxs zcs],[]),⟨hw,by omega⟩⟩,by simp only [];omega,?_⟩
 dsimp only
 exact Le.sub (by simp [Tm.row,Tm.Q3,Cs.Q3,Q7]) (by simp [Tm.row,Tm.Q3,Cs.Q3,Q7])
def Fn.rn (f : Fn) : Fn:=⟨f.name,J5 f.params 0,(f.body.rn (f.params.zip (J5 f.params 0)) (U5 f.params 0)).1⟩
abbrev W9 : Fn→AV
 | ⟨g,ps,.mk k n a b vs xs cs⟩=>.agg [.d (.str g),.d (Q7 ps),.d (.int k),.d (.int n),.d (.str a),.d (.str b),.d (Q7 vs),.d (.sl (xs.map Tm.row)),.d (.sl (cs.map Cs.row))]
set_option maxRecDepth 20000 in
set_option maxHeartbeats 16000000 in
theorem sp_Named (f : Fn) (hb : f.body.Ok) (hr : f.body.Rt 25) (hp : f.params.length≤6) : Qw Tryd.prog 58 [W9 f] (fun _=>W9 f.rn) none:=by
 have hfr:=cs_fresh f.params 0 hp
 have hl:=U4 f.params 0
 have hx:=rn_all 25 f.body (f.params.zip (J5 f.params 0)) (U5 f.params 0) hr hb (by rw [List.length_zip];omega)
 unfold Fn.rn
 obtain ⟨fg,fps,fy⟩:=f
 dsimp only at *
 generalize U5 fps 0 = e at hfr hx ⊢
 generalize J5 fps 0 = us at hfr hx hl ⊢
 generalize fps.zip us = px at hfr hx ⊢
 generalize fy.rn px e = o at hx ⊢
 obtain ⟨z,c2⟩:=o
 dsimp only at *
 obtain ⟨fk,fn,fa,fb,fvs,fxs,fcs⟩:=fy
 obtain ⟨zk,zn,za,zb,zvs,zxs,zcs⟩:=z
 refine Qw.of Tryd.func58 rfl rfl rfl (Nat.le_of_ble_eq_true rfl) ?_
 show AWp _ _ (Zk _ Tryd.f58 _ _ _) (Z7 24 _)
 refine AWp.rg [] [] ?_ (hr:=by conv=>lhs;simp [W9,Fn.row,Tm.row,Tm.Q3,Cs.Q3,psR])
 refine AWp.rg [] [] ?_ (hr:=by conv=>lhs;simp [W9,Fn.row,Tm.row,Tm.Q3,Cs.Q3,psR])
 refine AWp.rg [] [.c [(1000,7)] [.ptr 1000 0,.d (Q7 fps)] [(1000,.blk 152 [.d (.int 0)])] (.tuple [.d (Q7 us),.d (.sl (px.map psR))]) [(1000,.blk 152 [.d (.int e)])]] ?_ (hr:=by conv=>lhs;simp [W9,Fn.row,Tm.row,Tm.Q3,Cs.Q3,psR])
 refine AWp.dw [] [.c [(1000,7)] [.ptr 1000 0,.agg [.d (.int fk),.d (.int fn),.d (.str fa),.d (.str fb),.d (Q7 fvs),.d (.sl (fxs.map Tm.row)),.d (.sl (fcs.map Cs.row))],.d (.sl (px.map psR))] [(1000,.blk 152 [.d (.int e)])] (.agg [.d (.int zk),.d (.int zn),.d (.str za),.d (.str zb),.d (Q7 zvs),.d (.sl (zxs.map Tm.row)),.d (.sl (zcs.map Cs.row))]) [(1000,.blk 152 [.d (.int c2)])]] mixed ?_ (hr:=by conv=>lhs;simp [W9,Fn.row,Tm.row,Tm.Q3,Cs.Q3,psR])
 refine AWp.ret ?_
 try dsimp only [Qq,Q8]
 apply Zk.ret
 ·rfl
 ·conv=>lhs;simp [Q9,Tryd.results58]
 rfl
theorem moreN_mem {s : ByteArray} : ∀ {l : List Tm} {had : List ByteArray},s∈R3 had l→∃ x∈l,s = x.nm
 | [],had,h=>by simp [R3] at h
 | x :: r,had,h=>by
  rw [R3] at h
  split at h
  ·rcases List.mem_cons.1 h with h | h
   ·exact ⟨x,List.mem_cons_self ..,h⟩
   ·obtain ⟨y,hy,e⟩:=moreN_mem h
    exact ⟨y,List.mem_cons_of_mem _ hy,e⟩
  ·obtain ⟨y,hy,e⟩:=moreN_mem h
   exact ⟨y,List.mem_cons_of_mem _ hy,e⟩
theorem Tm.Ok.nm {x : Tm} (h : x.Ok) : x.nm.size≤140737488355328:=by
 obtain ⟨k,n,a,b,vs,xs,cs⟩:=x
 exact h.1.1
theorem Tm.Fit.cs {k n : Int} {a b : ByteArray} {vs : List ByteArray} {xs : List Tm} {cs : List Cs} (h : (Tm.mk k n a b vs xs cs).Fit) : ∀ c∈cs,(∀ s∈c.2,s.size≤140737488355328)∧c.3.Fit:=fun c hc=>by
 obtain ⟨t,ws,x⟩:=c
 have h1:=Cs.Zq.1 h.ok.2.2.2 _ hc
 exact ⟨h1.1,(h.case hc).1⟩
structure Fn.Pt (f : Fn) : Prop where
 rt : f.body.Rt 175
 fit : f.body.Fit
 par : f.params.length≤6
 pars : ∀ s∈f.params,s.size≤140737488355328
abbrev Env:=List (ByteArray×Vl)
def D8 : Env→ByteArray→Option Vl
 | [],_=>none
 | (x,v) :: r,s=>if x = s then some v else D8 r s
abbrev zeroV : Vl:=.mk false 0 []
def envVal (e : Env) (s : ByteArray) : Vl:=(D8 e s).getD zeroV
def bi (b : Bool) : Int:=if b then 1 else 0
@[simp] theorem tyE_str : Uq Tryd.prog 9 = none:=by kernel_rfl
@[simp] theorem mk_size (a : Array UInt8) : (ByteArray.mk a).size = a.size:=rfl
@[simp] theorem le_maxLen1 : 1≤maxLen:=by decide
@[simp] theorem le_maxLen2 : 2≤maxLen:=by decide
@[simp] theorem le_maxLen3 : 3≤maxLen:=by decide
@[simp] theorem le_maxLen5 : 5≤maxLen:=by decide
@[simp] theorem le_maxLen40 (c : UInt8) : (⟨#[c]⟩ : ByteArray).size≤maxLen:=by show 1≤maxLen;decide
end Go.Proofs.YtjpldhjgehoffaaDoor
