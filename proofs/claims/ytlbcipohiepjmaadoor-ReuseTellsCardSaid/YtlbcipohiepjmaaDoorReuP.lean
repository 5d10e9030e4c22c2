import Derived.Test.YtlbcipohiepjmaaDoorLinP
set_option linter.unusedVariables false
set_option linter.unusedSimpArgs false
namespace Go.Proofs.YtlbcipohiepjmaaDoor
open Go.RowKit
theorem Tm.Cj (t:Tm):1≤t.sz:=by obtain⟨k,n,a,b,vs,xs,cs⟩:=t;simp only[Tm.sz];omega
mutual
def Tm.Sh:Tm→Prop
 | .mk k n a b vs xs cs=>(k=1∨k=2→xs=[])∧(k≠7→cs=[])∧(k=7→cs≠[])∧Tm.ShL xs∧Cs.ShL cs
def Tm.ShL:List Tm→Prop
 |[]=>True
 |x::r=>x.Sh∧Tm.ShL r
def Cs.ShL:List Cs→Prop
 |[]=>True
 |c::r=>c.Sh∧Cs.ShL r
def Cs.Sh:Cs→Prop
 | .mk t ws y=>y.Sh
end
structure LS.Eqv (s s':LS):Prop where
 c:∀n,s.c n=s'.c n
 t:∀b,(lkA s.tk b).isSome=(lkA s'.tk b).isSome
theorem linL_cons (x:Tm) (r:List Tm) (s:LS) (ss:List LS):Tm.Sv (x::r) (s::ss)=if x.lin s≠0 then x.lin s else Tm.Sv r ss:=by rw[Tm.Sv];rfl
theorem A8 {x:Tm} {s:LS} (h:Tm.Sv [x] [s]=0):x.lin s=0:=by
 rw[linL_cons]at h;by_cases h1:x.lin s≠0
 ·rw[if_pos h1]at h;exact h
 ·exact Decidable.not_not.1 h1
theorem linL_two {x y:Tm} {s u:LS} (h:Tm.Sv [x,y] [s,u]=0):x.lin s=0∧y.lin u=0:=by
 rw[linL_cons]at h;by_cases h1:x.lin s≠0
 ·rw[if_pos h1]at h;exact absurd h h1
 ·rw[if_neg h1]at h;exact⟨Decidable.not_not.1 h1,A8 h⟩
theorem K9 {x:Tm} {s:LS} (h:x.lin s=0):Tm.Sv [x] [s]=0:=by
 rw[linL_cons,if_neg (by simpa using h),Tm.Sv]
theorem linL_two' {x y:Tm} {s u:LS} (h:x.lin s=0) (h2:y.lin u=0):Tm.Sv [x,y] [s,u]=0:=by
 rw[linL_cons,if_neg (by simpa using h)];exact K9 h2
theorem clinL_mem {s:LS} {nm:ByteArray}:∀{cs:List Cs},Cs.Sv cs s nm=0→∀c∈cs,c.lin s nm=0
 |c::r,h,d,hd=>by
  rw[Cs.Sv]at h;split at h
  ·rename_i h1;exact absurd h h1
  ·rename_i h1;rcases List.mem_cons.1 hd with rfl|hd
   ·exact Decidable.not_not.1 h1
   ·exact clinL_mem h d hd
theorem clinL_all {s:LS} {nm:ByteArray}:∀{cs:List Cs},(∀c∈cs,c.lin s nm=0)→Cs.Sv cs s nm=0
 |[],_=>by rw[Cs.Sv]
 |c::r,h=>by
  rw[Cs.Sv,if_neg (by simpa using h c (by simp))];exact clinL_all fun d hd=>h d (by simp[hd])
theorem clin_inv {s:LS} {nm:ByteArray} {t:Int} {ws:List ByteArray} {y:Tm} (h:(Cs.mk t ws y).lin s nm=0):(s.D6 nm ws).1=0∧y.lin (s.D6 nm ws).2=0:=by
 rw[Cs.lin]at h;split at h
 ·rename_i h1;exact absurd h h1
 ·rename_i h1;exact⟨Decidable.not_not.1 h1,h⟩
section
variable {n:Int} {a b:ByteArray} {vs:List ByteArray} {xs:List Tm} {cs:List Cs} {s:LS}
theorem lin1:(Tm.mk 1 n a b vs xs cs).lin s=(s.Ww a).2.Bz (s.Ww a).1:=by rw[Tm.lin];rfl
theorem lin2:(Tm.mk 2 n a b vs xs cs).lin s=s.Bz 0:=by rw[Tm.lin];rfl
theorem lin345 {k:Int} (hk:k=3∨k=4∨k=5):(Tm.mk k n a b vs xs cs).lin s=(s.R5 xs).2.Bz (s.R5 xs).1:=by
 rw[Tm.lin,if_neg (by omega),if_neg (by omega),if_pos hk]
theorem lin12 (h:(Tm.mk 12 n a b vs xs cs).lin s=0):lkA s.tk b=some (xs.length:Int)∧(({ s with tk:=delA s.tk b }:LS).R5 xs).2.Bz (({ s with tk:=delA s.tk b }:LS).R5 xs).1=0:=by
 rw[Tm.lin,if_neg (by omega),if_neg (by omega),if_neg (by omega),if_pos rfl]at h;split at h
 ·simp at h
 ·rename_i h1;exact⟨Decidable.not_not.1 h1,h⟩
theorem lin6 (h:(Tm.mk 6 n a b vs xs cs).lin s=0):∃x y,xs=[x,y]∧lkA s.ct a=none∧x.lin (s.fst x)=0∧y.lin { s.rst x with ct:=U1 (s.rst x).ct a 1 }=0:=by
 rw[Tm.lin,if_neg (by omega),if_neg (by omega),if_neg (by omega),if_neg (by omega),if_pos rfl]at h;match xs,h with
 |[x,y],h=>
  rw[if_neg (by simp)]at h;split at h
  ·simp at h
  ·rename_i h1;have h2:=linL_two h;exact⟨x,y,rfl,by simpa using h1,h2.1,h2.2⟩
 |[],h=>simp at h
 |[_],h=>simp at h
 |_::_::_::_,h=>rw[if_pos (by simp)]at h;simp at h
theorem lin7 (h:(Tm.mk 7 n a b vs xs cs).lin s=0):∃x,xs=[x]∧x.tk=1∧1≤s.c x.nm∧∀c∈cs,c.lin s x.nm=0:=by
 rw[Tm.lin,if_neg (by omega),if_neg (by omega),if_neg (by omega),if_neg (by omega),if_neg (by omega),if_pos rfl]at h;match xs,h with
 |[x],h=>
  split at h
  ·simp at h
  ·rename_i h1;split at h
   ·simp at h
   ·rename_i h2;exact⟨x,rfl,by simpa[hdT0]using h1,by have h2:¬s.c x.nm<1:=h2;omega,clinL_mem h⟩
 |[],h=>simp at h
 |_::_::_,h=>rw[if_pos (by simp)]at h;simp at h
theorem linS {k:Int} (hk:k=8∨k=9∨k=10∨k=11∨k=13) (h:(Tm.mk k n a b vs xs cs).lin s=0):∃x,xs=[x]∧
  (k=8→s.there a=true∧x.lin (s.inc a)=0)∧(k=9→(s.Ww a).1=0∧x.lin (s.Ww a).2=0)∧(k=13→(lkA s.tk b).isSome=true∧x.lin { s with tk:=delA s.tk b }=0)∧
  (k=10→(s.Uk a vs).1=0∧x.lin (s.Uk a vs).2=0)∧(k=11→(s.Uk a vs).1=0∧lkA s.tk b=none∧b≠.empty∧x.lin { (s.Uk a vs).2 with tk:=U1 (s.Uk a vs).2.tk b (vs.length:Int) }=0):=by
 rw[Tm.lin,if_neg (by omega),if_neg (by omega),if_neg (by omega),if_neg (by omega),if_neg (by omega),if_neg (by omega),if_pos hk]at h;match xs,h with
 |[],h=>simp at h
 |_::_::_,h=>rw[if_pos (by simp)]at h;simp at h
 |[x],h=>
  rw[if_neg (by simp)]at h;refine⟨x,rfl,?_⟩;rcases hk with rfl|rfl|rfl|rfl|rfl
  ·rw[if_pos rfl]at h;refine⟨fun _=>?_,by omega,by omega,by omega,by omega⟩;split at h
   ·rename_i h1;exact⟨h1,A8 h⟩
   ·simp at h
  ·rw[if_neg (by omega),if_pos rfl]at h;refine⟨by omega,fun _=>?_,by omega,by omega,by omega⟩;split at h
   ·rename_i h1;exact absurd h h1
   ·rename_i h1;exact⟨Decidable.not_not.1 h1,A8 h⟩
  ·rw[if_neg (by omega),if_neg (by omega),if_neg (by omega)]at h;refine⟨by omega,by omega,by omega,fun _=>?_,by omega⟩;split at h
   ·rename_i h1;exact absurd h h1
   ·rename_i h1;rw[if_neg (by omega)]at h;exact⟨Decidable.not_not.1 h1,A8 h⟩
  ·rw[if_neg (by omega),if_neg (by omega),if_neg (by omega)]at h;refine⟨by omega,by omega,by omega,by omega,fun _=>?_⟩;by_cases h1:(s.Uk a vs).1≠0
   ·rw[if_pos h1]at h;exact absurd h h1
   ·rw[if_neg h1,if_pos rfl]at h;by_cases h2:(lkA s.tk b).isSome=true∨b= .empty
    ·rw[if_pos h2]at h;simp at h
    ·rw[if_neg h2]at h;rw[not_or]at h2;exact⟨Decidable.not_not.1 h1,by simpa using h2.1,h2.2,A8 h⟩
  ·rw[if_neg (by omega),if_neg (by omega),if_pos rfl]at h;refine⟨by omega,by omega,fun _=>?_,by omega,by omega⟩;split at h
   ·rename_i h1;exact⟨h1,A8 h⟩
   ·simp at h
theorem lin_kind {k:Int} (h:(Tm.mk k n a b vs xs cs).lin s=0):k=1∨k=2∨(k=3∨k=4∨k=5)∨k=12∨k=6∨k=7∨(k=8∨k=9∨k=10∨k=11∨k=13):=by
 rw[Tm.lin]at h;repeat' split at h
 all_goals first|omega|simp_all
end
end Go.Proofs.YtlbcipohiepjmaaDoor
namespace Go.Proofs.YtlbcipohiepjmaaDoor
open Go.RowKit
theorem useL_tk:∀{xs:List Tm} {s:LS},(s.R5 xs).1=0→∀x∈xs,x.tk=1
 |y::r,s,h,x,hx=>by
  rw[LS.R5]at h;by_cases h1:y.tk≠1
  ·rw[if_pos h1]at h;simp at h
  ·rw[if_neg h1]at h;by_cases h2:(s.Ww y.nm).1≠0
   ·rw[if_pos h2]at h;exact absurd h h2
   ·rw[if_neg h2]at h;rcases List.mem_cons.1 hx with rfl|hx
    ·exact Decidable.not_not.1 h1
    ·exact useL_tk h x hx
theorem Qb:∀{l:List Tm},Tm.ShL l↔∀x∈l,x.Sh
 |[]=>by simp[Tm.ShL]
 |x::r=>by simp[Tm.ShL,Qb (l:=r)]
theorem M3:∀{l:List Cs},Cs.ShL l↔∀x∈l,x.Sh
 |[]=>by simp[Cs.ShL]
 |x::r=>by simp[Cs.ShL,M3 (l:=r)]
theorem Fv {k:Int} (hk:k=8∨k=9):∀(l:List ByteArray) (t:Tm),(cnt k l t).stN=l++t.stN
 |[],_=>rfl
 |s::r,t=>by
  rw[cnt,Tm.stN,if_pos (by omega),Tm.J9,Tm.J9,Cs.J9,Fv hk r t];simp
theorem Gq {k:Int} (hk:k=8∨k=9):∀(l:List ByteArray) (t:Tm),(cnt k l t).Y7=t.Y7
 |[],_=>rfl
 |s::r,t=>by
  rw[cnt,Tm.Y7,if_neg (by omega),if_neg (by omega),Tm.Jk,Tm.Jk,Cs.Jk,Gq hk r t];simp
theorem Fj {k:Int} (hk:k=8∨k=9):∀(l:List ByteArray) (t:Tm),(cnt k l t).stT=t.stT
 |[],_=>rfl
 |s::r,t=>by
  rw[cnt,Tm.stT,if_neg (by omega),Tm.K8,Tm.K8,Cs.K8,Fj hk r t];simp
theorem stNL_mem {n:ByteArray}:∀{l:List Tm},n∈Tm.J9 l↔∃x∈l,n∈x.stN
 |[]=>by simp[Tm.J9]
 |x::r=>by simp[Tm.J9,stNL_mem (l:=r)]
theorem cstNL_mem {n:ByteArray}:∀{l:List Cs},n∈Cs.J9 l↔∃x∈l,n∈x.stN
 |[]=>by simp[Cs.J9]
 |x::r=>by simp[Cs.J9,cstNL_mem (l:=r)]
theorem cbdL_mem {n:ByteArray}:∀{l:List Cs},n∈Cs.bdL l↔∃x∈l,n∈x.bd
 |[]=>by simp[Cs.bdL]
 |x::r=>by simp[Cs.bdL,cbdL_mem (l:=r)]
theorem isL_var {k:Int} (hk:k≠6):∀{l:List Tm},Tm.isL k l=true→∀x∈l,x.tk=1
 |y::r,h,x,hx=>by
  rw[Tm.isL,if_neg hk,Bool.and_eq_true]at h;rcases List.mem_cons.1 hx with rfl|hx
  ·exact of_decide_eq_true h.1
  ·exact isL_var hk h.2 x hx
theorem Oq:∀{l:List Tm},Tm.isL 6 l=true→∀x∈l,x.isP=true
 |y::r,h,x,hx=>by
  rw[Tm.isL,if_pos rfl,Bool.and_eq_true]at h;rcases List.mem_cons.1 hx with rfl|hx
  ·exact h.1
  ·exact Oq h.2 x hx
theorem cisL_all:∀{l:List Cs},Cs.isL l=true→∀t ws y,Cs.mk t ws y∈l→y.isP=true
 |c::r,h,t,ws,y,hx=>by
  rw[Cs.isL,Bool.and_eq_true]at h;rcases List.mem_cons.1 hx with e|hx
  ·rw[←e,Cs.isP]at h;exact h.1
  ·exact cisL_all h.2 t ws y hx
theorem rt_var {d:Nat} {x:Tm} (hR:x.Rt d) (h1:x.tk=1):x.stN=[x.nm]∧x.free=[x.nm]∧x.bd=[]∧x.Y7=[]∧x.stT=[]:=by
 cases d with
 |zero=>exact hR.elim
 |succ d=>
  obtain⟨k,n,a,b,vs,xs,cs⟩:=x;rw[Tm.tk]at h1;subst h1;obtain⟨-,h2,-,-,-⟩:=hR;unfold Zv at h2;simp at h2;obtain⟨e1,e2⟩:=h2;subst e1 e2;refine⟨?_,?_,?_,?_,?_⟩
  ·rw[Tm.stN];rfl
  ·rw[Tm.free];rfl
  ·rw[Tm.bd];rfl
  ·rw[Tm.Y7];rfl
  ·rw[Tm.stT];rfl
theorem Tw:∀(xs:List Tm) (had:List ByteArray) (n:ByteArray),n∈U4 had xs→∃x∈xs,x.nm=n
 |x::r,had,n,h=>by
  rw[U4]at h;split at h
  ·rcases List.mem_cons.1 h with rfl|h
   ·exact⟨x,by simp,rfl⟩
   ·obtain⟨y,hy,e⟩:=Tw r _ n h;exact⟨y,by simp[hy],e⟩
  ·obtain⟨y,hy,e⟩:=Tw r _ n h;exact⟨y,by simp[hy],e⟩
theorem K3 {s:ByteArray} {l o:List ByteArray}:s∈inN l o↔s∈l∧s∈o:=by
 unfold inN;rw[List.mem_filter,X4]
theorem rt_two {d:Nat} {n:Int} {a b:ByteArray} {vs:List ByteArray} {xs:List Tm} {cs:List Cs} (h:(Tm.mk 6 n a b vs xs cs).Rt (d+1)):∃x y,xs=[x,y]∧cs=[]∧x.Rt d∧y.Rt d:=by
 obtain⟨-,h2,-,h4,-⟩:=h;unfold Zv at h2;simp at h2;match xs,h2 with
 |[x,y],h2=>exact⟨x,y,rfl,h2.2,h4 x (by simp),h4 y (by simp)⟩
theorem rt_one {d:Nat} {n:Int} {a b:ByteArray} {vs:List ByteArray} {xs:List Tm} {cs:List Cs} (h:(Tm.mk 7 n a b vs xs cs).Rt (d+1)):∃x,xs=[x]∧x.Rt d:=by
 obtain⟨-,h2,-,h4,-⟩:=h;unfold Zv at h2;simp at h2;match xs,h2 with
 |[x],h2=>exact⟨x,rfl,h4 x (by simp)⟩
theorem rt_none {d:Nat} {k n:Int} {a b:ByteArray} {vs:List ByteArray} {xs:List Tm} {cs:List Cs} (h:(Tm.mk k n a b vs xs cs).Rt (d+1)) (hk:k=1∨k=2):xs=[]:=by
 obtain⟨-,h2,-,-,-⟩:=h;unfold Zv at h2;rcases hk with rfl|rfl<;> simp at h2<;> exact h2.1
theorem rt_nocs {d:Nat} {k n:Int} {a b:ByteArray} {vs:List ByteArray} {xs:List Tm} {cs:List Cs} (h:(Tm.mk k n a b vs xs cs).Rt (d+1)) (hk:k≠7):cs=[]:=by
 obtain⟨-,h2,-,-,-⟩:=h;unfold Zv at h2;simp[hk]at h2;exact h2.2
theorem owL_eq (own:List ByteArray) (nm:ByteArray):∀l:List Cs,Cs.owL l own nm=l.map fun c=>c.ow own nm
 |[]=>rfl
 |c::r=>by rw[Cs.owL,owL_eq own nm r];rfl
theorem st_all:∀(d:Nat) (t:Tm) (has:List ByteArray),t.Rt d→t.isP=true→
  (∀n∈t.stN,n∈(t.ow has).stN)∧(∀n∈(t.ow has).stN,n∈t.stN∨n∈has∨n∈t.bd)∧(t.ow has).Y7=t.bd∧(∀n∈t.free,n∈t.stN)∧(∀n∈t.stN,n∈t.free∨n∈t.bd)∧(t.ow has).stT=[]∧t.Y7=t.bd:=by
 intro d;induction d with
 |zero=>intro t _ h;exact h.elim
 |succ d ih=>
  intro t has hR hP;obtain⟨k,n0,a,b,vs,xs,cs⟩:=t;have hR':=hR;obtain⟨hk,-,-,hx,hc⟩:=hR;rw[Tm.isP,Bool.and_eq_true]at hP;obtain⟨hP1,hP2⟩:=hP;by_cases h6:k=6
  ·subst h6;obtain⟨x,y,rfl,rfl,hxR,hyR⟩:=rt_two hR';have hPx:=Oq hP1 x (by simp);have hPy:=Oq hP1 y (by simp);rw[Tm.ow,if_neg (by omega),if_pos rfl];generalize hG:woN has (Tm.mk 6 n0 a b vs [x,y] []).free=G;generalize hO:inN has (Tm.mk 6 n0 a b vs [x,y] []).free=O;rw[letD,letH,Tm.owZ,Tm.owZ,Tm.owZ];simp only[List.headD_cons,List.tail_cons];obtain⟨x1,x2,x3,x4,x5,x6,x7⟩:=ih x (inN O x.free) hxR hPx;obtain⟨y1,y2,y3,y4,y5,y6,y7⟩:=ih y (inN O (woN y.free [a])++[a]) hyR hPy;have hGm:∀n∈G,n∈has:=fun n hn=>by rw[←hG]at hn;exact(X5.1 hn).1
   have hOm:∀n∈O,n∈has:=fun n hn=>by rw[←hO]at hn;exact(K3.1 hn).1
   have hst:(Tm.mk 6 n0 a b vs [x,y] []).stN=x.stN++y.stN:=by rw[Tm.stN];simp[Tm.J9,Cs.J9]
   have hbd:(Tm.mk 6 n0 a b vs [x,y] []).bd=a::(x.bd++y.bd):=by rw[Tm.bd];simp[Tm.bdL,Cs.bdL]
   have hfr:∀n,n∈(Tm.mk 6 n0 a b vs [x,y] []).free↔n∈x.free∨(n∈y.free∧n≠a):=fun n=>by
    rw[Tm.free,if_neg (by omega),if_pos ⟨rfl,rfl⟩,Tm.freeL,Tm.freeB,Nz,Nz,X5];simp
   rw[Fv (.inr rfl),Fv (.inl rfl),Gq (.inr rfl),Gq (.inl rfl),Fj (.inr rfl),Fj (.inl rfl),hst,hbd];have e1:(Tm.mk 6 0 a .empty [] [x.ow (inN O x.free),y.ow (inN O (woN y.free [a])++[a])] []).stN=(x.ow (inN O x.free)).stN++(y.ow (inN O (woN y.free [a])++[a])).stN:=by rw[Tm.stN];simp[Tm.J9,Cs.J9]
   have e2:(Tm.mk 6 0 a .empty [] [x.ow (inN O x.free),y.ow (inN O (woN y.free [a])++[a])] []).Y7=a::(x.bd++y.bd):=by rw[Tm.Y7,Tm.Jk,Tm.Jk,Tm.Jk,Cs.Jk,x3,y3];simp
   have e3:(Tm.mk 6 0 a .empty [] [x.ow (inN O x.free),y.ow (inN O (woN y.free [a])++[a])] []).stT=[]:=by rw[Tm.stT,Tm.K8,Tm.K8,Tm.K8,Cs.K8,x6,y6];simp
   rw[e1,e2,e3];refine⟨fun n hn=>?_,fun n hn=>?_,rfl,fun n hn=>?_,fun n hn=>?_,rfl,?_⟩
   ·simp only[List.mem_append]at hn⊢;exact hn.elim (fun h=>.inr (.inr (.inl (x1 n h)))) fun h=>.inr (.inr (.inr (y1 n h)))
   ·simp only[List.mem_append]at hn;simp only[List.mem_append,List.mem_cons];rcases hn with hn|hn|hn|hn
    ·exact .inr (.inl (hGm n hn))
    ·exact .inr (.inl (hOm n (K3.1 (K3.1 hn).1).1))
    ·rcases x2 n hn with h|h|h
     ·exact .inl (.inl h)
     ·exact .inr (.inl (hOm n (K3.1 h).1))
     ·exact .inr (.inr (.inr (.inl h)))
    ·rcases y2 n hn with h|h|h
     ·exact .inl (.inr h)
     ·rcases List.mem_append.1 h with h|h
      ·exact .inr (.inl (hOm n (K3.1 h).1))
      ·exact .inr (.inr (.inl (by simpa using h)))
     ·exact .inr (.inr (.inr (.inr h)))
   ·rw[hfr]at hn;simp only[List.mem_append];exact hn.elim (fun h=>.inl (x4 n h)) fun h=>.inr (y4 n h.1)
   ·simp only[List.mem_append]at hn;simp only[List.mem_cons,List.mem_append];rw[hfr];rcases hn with hn|hn
    ·rcases x5 n hn with h|h
     ·exact .inl (.inl h)
     ·exact .inr (.inr (.inl h))
    ·rcases y5 n hn with h|h
     ·by_cases e:n=a
      ·exact .inr (.inl e)
      ·exact .inl (.inr ⟨h,e⟩)
     ·exact .inr (.inr (.inr h))
   ·rw[Tm.Y7,Tm.Jk,Tm.Jk,Tm.Jk,Cs.Jk,x7,y7];simp
  ·have hvar:=isL_var h6 hP1;have hxs:Tm.Jk xs=[]∧Tm.bdL xs=[]∧Tm.K8 xs=[]∧(∀n,n∈Tm.J9 xs↔∃x∈xs,x.nm=n):=by
    have:∀l:List Tm,(∀x∈l,x∈xs)→Tm.Jk l=[]∧Tm.bdL l=[]∧Tm.K8 l=[]:=by
     intro l;induction l with
     |nil=>intro _;exact⟨rfl,rfl,rfl⟩
     |cons x r ih2=>
      intro hm;obtain⟨e1,e2,e3⟩:=ih2 fun z hz=>hm z (by simp[hz])
      obtain⟨-,-,q3,q4,q5⟩:=rt_var (hx x (hm x (by simp))) (hvar x (hm x (by simp)));rw[Tm.Jk,Tm.bdL,Tm.K8,e1,e2,e3,q3,q4,q5];exact⟨rfl,rfl,rfl⟩
    obtain⟨e1,e2,e3⟩:=this xs fun _ h=>h
    refine⟨e1,e2,e3,fun n=>?_⟩;rw[stNL_mem];refine⟨fun⟨x,h1,h2⟩=>⟨x,h1,?_⟩,fun⟨x,h1,h2⟩=>⟨x,h1,?_⟩⟩
    ·rw[(rt_var (hx x h1) (hvar x h1)).1]at h2;exact(List.mem_singleton.1 h2).symm
    ·rw[(rt_var (hx x h1) (hvar x h1)).1];simp[h2]
   obtain⟨o1,o2,o3,o4⟩:=hxs;have hfx:∀n,(∃x∈xs,n∈x.free)↔∃x∈xs,x.nm=n:=fun n=>by
    refine⟨fun⟨x,h1,h2⟩=>⟨x,h1,?_⟩,fun⟨x,h1,h2⟩=>⟨x,h1,?_⟩⟩
    ·rw[(rt_var (hx x h1) (hvar x h1)).2.1]at h2;exact(List.mem_singleton.1 h2).symm
    ·rw[(rt_var (hx x h1) (hvar x h1)).2.1];simp[h2]
   by_cases h7:k=7
   ·subst h7;have hst:∀n,n∈(Tm.mk 7 n0 a b vs xs cs).stN↔(∃x∈xs,x.nm=n)∨∃c∈cs,n∈c.stN:=fun n=>by
     rw[Tm.stN,if_neg (by omega),List.nil_append,List.mem_append,o4,cstNL_mem]
    have hbd:∀n,n∈(Tm.mk 7 n0 a b vs xs cs).bd↔∃c∈cs,n∈c.bd:=fun n=>by
     rw[Tm.bd,if_neg (by omega),o2,List.nil_append,List.nil_append,cbdL_mem]
    have hfr:∀n,n∈(Tm.mk 7 n0 a b vs xs cs).free↔(∃x∈xs,x.nm=n)∨∃c∈cs,n∈c.Mw:=fun n=>by
     rw[Tm.free,if_neg (by omega),if_neg (by omega),if_neg (by omega),O3,mem_frees,hfx];simp
    rw[Tm.ow,if_neg (by omega),if_neg (by omega),if_pos rfl];generalize hG:woN has (Tm.mk 7 n0 a b vs xs cs).free=G;generalize hO:inN has (Tm.mk 7 n0 a b vs xs cs).free=O;have hGm:∀n∈G,n∈has:=fun n hn=>by rw[←hG]at hn;exact(X5.1 hn).1
    have hOm:∀n∈O,n∈has:=fun n hn=>by rw[←hO]at hn;exact(K3.1 hn).1
    obtain⟨x0,rfl,hx0⟩:=rt_one hR';have hnm:nmH [x0]=x0.nm:=rfl;rw[Fv (.inr rfl),Gq (.inr rfl),Fj (.inr rfl),hnm,owL_eq]
    -- one case
    have hcase:∀t ws y,Cs.mk t ws y∈cs→∃H,(Cs.mk t ws y).ow O x0.nm= .mk t ws (cnt 8 (inN ws y.free) (cnt 9 (if hasB y.free x0.nm then[]else[x0.nm]) (y.ow H)))∧(∀n∈H,n∈has∨n∈ws)∧
      (∀n∈y.stN,n∈(y.ow H).stN)∧(∀n∈(y.ow H).stN,n∈y.stN∨n∈H∨n∈y.bd)∧(y.ow H).Y7=y.bd∧(∀n∈y.free,n∈y.stN)∧(∀n∈y.stN,n∈y.free∨n∈y.bd)∧(y.ow H).stT=[]∧y.Y7=y.bd:=fun t ws y hm=>by
     refine⟨if hasB y.free x0.nm then O++inN ws y.free else woN (O++inN ws y.free) [x0.nm],by rw[Cs.ow],fun n hn=>?_,ih y _ (hc _ hm).2 (cisL_all hP2 t ws y hm)⟩;have:n∈O++inN ws y.free:=by
      split at hn
      ·exact hn
      ·exact(X5.1 hn).1
     rcases List.mem_append.1 this with h|h
     ·exact .inl (hOm n h)
     ·exact .inr (K3.1 h).1
    have ec:∀(t:Int) (ws:List ByteArray) (y:Tm) (H:List ByteArray),(Cs.mk t ws (cnt 8 (inN ws y.free) (cnt 9 (if hasB y.free x0.nm then[]else[x0.nm]) (y.ow H)))).stN=inN ws y.free++((if hasB y.free x0.nm then[]else[x0.nm])++(y.ow H).stN):=fun t ws y H=>by
     rw[Cs.stN,Fv (.inl rfl),Fv (.inr rfl)]
    have hst2:∀n,n∈(Tm.mk 7 0 .empty .empty [] [x0] (cs.map fun c=>c.ow O x0.nm)).stN↔n=x0.nm∨∃c∈cs,n∈(c.ow O x0.nm).stN:=fun n=>by
     rw[Tm.stN,if_neg (by omega),List.nil_append,List.mem_append,o4,cstNL_mem];constructor
     ·rintro(⟨x,h1,h2⟩|⟨c,h1,h2⟩)
      ·exact .inl (by rw[←h2,List.mem_singleton.1 h1])
      ·obtain⟨c0,hc0,rfl⟩:=List.mem_map.1 h1;exact .inr ⟨c0,hc0,h2⟩
     ·rintro(rfl|⟨c,h1,h2⟩)
      ·exact .inl ⟨x0,by simp,rfl⟩
      ·exact .inr ⟨_,List.mem_map.2 ⟨c,h1,rfl⟩,h2⟩
    refine⟨fun n hn=>?_,fun n hn=>?_,?_,fun n hn=>?_,fun n hn=>?_,?_,?_⟩
    ·rw[List.mem_append,hst2];rcases(hst n).1 hn with⟨x,h1,h2⟩|⟨c,h1,h2⟩
     ·simp only[List.mem_singleton]at h1;subst h1;exact .inr (.inl h2.symm)
     ·refine .inr (.inr ⟨c,h1,?_⟩);obtain⟨t,ws,y⟩:=c;obtain⟨H,e,-,p1,-⟩:=hcase t ws y h1;rw[e,ec];rw[Cs.stN]at h2;simp only[List.mem_append];exact .inr (.inr (p1 n h2))
    ·rw[List.mem_append,hst2]at hn;rw[hst,hbd];rcases hn with hn|hn|⟨c,h1,h2⟩
     ·exact .inr (.inl (hGm n hn))
     ·exact .inl (.inl ⟨x0,by simp,hn.symm⟩)
     ·obtain⟨t,ws,y⟩:=c;obtain⟨H,e,pH,p1,p2,-⟩:=hcase t ws y h1;rw[e,ec]at h2;simp only[List.mem_append]at h2;have hb:∀m,m∈ws→∃c∈cs,m∈c.bd:=fun m hm=>⟨_,h1,by rw[Cs.bd];simp[hm]⟩
      rcases h2 with h2|h2|h2
      ·exact .inr (.inr (hb n (K3.1 h2).1))
      ·have:n=x0.nm:=by
        split at h2
        ·simp at h2
        ·simpa using h2
       exact .inl (.inl ⟨x0,by simp,this.symm⟩)
      ·rcases p2 n h2 with h|h|h
       ·exact .inl (.inr ⟨_,h1,by rw[Cs.stN];exact h⟩)
       ·rcases pH n h with h|h
        ·exact .inr (.inl h)
        ·exact .inr (.inr (hb n h))
       ·exact .inr (.inr ⟨_,h1,by rw[Cs.bd];simp[h]⟩)
    ·rw[Tm.Y7,if_neg (by omega),if_neg (by omega),o1,Tm.bd,if_neg (by omega),o2];simp only[List.nil_append];have:∀l:List Cs,(∀c∈l,c∈cs)→Cs.Jk (l.map fun c=>c.ow O x0.nm)=Cs.bdL l:=by
      intro l;induction l with
      |nil=>intro _;rfl
      |cons c r ih2=>
       intro hm;obtain⟨t,ws,y⟩:=c;obtain⟨H,e,-,-,-,p3,-⟩:=hcase t ws y (hm _ (by simp));rw[List.map_cons,Cs.Jk,Cs.bdL,ih2 fun z hz=>hm z (by simp[hz]),e,Cs.Y7,Gq (.inl rfl),Gq (.inr rfl),p3,Cs.bd]
     exact this cs fun _ h=>h
    ·rw[hst];rcases(hfr n).1 hn with h|⟨c,h1,h2⟩
     ·exact .inl h
     ·obtain⟨t,ws,y⟩:=c;obtain⟨H,-,-,-,-,-,p4,-⟩:=hcase t ws y h1;rw[Cs.Mw,X5]at h2;exact .inr ⟨_,h1,by rw[Cs.stN];exact p4 n h2.1⟩
    ·rw[hfr,hbd];rcases(hst n).1 hn with h|⟨c,h1,h2⟩
     ·exact .inl (.inl h)
     ·obtain⟨t,ws,y⟩:=c;obtain⟨H,-,-,-,-,-,-,p5,-⟩:=hcase t ws y h1;rw[Cs.stN]at h2;rcases p5 n h2 with h|h
      ·by_cases hw:n∈ws
       ·exact .inr ⟨_,h1,by rw[Cs.bd];simp[hw]⟩
       ·exact .inl (.inr ⟨_,h1,by rw[Cs.Mw,X5];exact⟨h,hw⟩⟩)
      ·exact .inr ⟨_,h1,by rw[Cs.bd];simp[h]⟩
    ·rw[Tm.stT,if_neg (by omega),o3];simp only[List.nil_append];have:∀l:List Cs,(∀c∈l,c∈cs)→Cs.K8 (l.map fun c=>c.ow O x0.nm)=[]:=by
      intro l;induction l with
      |nil=>intro _;rfl
      |cons c r ih2=>
       intro hm;obtain⟨t,ws,y⟩:=c;obtain⟨H,e,-,-,-,-,-,-,p6,-⟩:=hcase t ws y (hm _ (by simp));rw[List.map_cons,Cs.K8,ih2 fun z hz=>hm z (by simp[hz]),e,Cs.stT,Fj (.inl rfl),Fj (.inr rfl),p6];rfl
     exact this cs fun _ h=>h
    ·rw[Tm.Y7,if_neg (by omega),if_neg (by omega),o1,Tm.bd,if_neg (by omega),o2];simp only[List.nil_append];have:∀l:List Cs,(∀c∈l,c∈cs)→Cs.Jk l=Cs.bdL l:=by
      intro l;induction l with
      |nil=>intro _;rfl
      |cons c r ih2=>
       intro hm;obtain⟨t,ws,y⟩:=c;obtain⟨H,-,-,-,-,-,-,-,-,p7⟩:=hcase t ws y (hm _ (by simp));rw[Cs.Jk,Cs.bdL,ih2 fun z hz=>hm z (by simp[hz]),Cs.Y7,p7,Cs.bd]
     exact this cs fun _ h=>h
   ·have hcs:=rt_nocs hR' h7;subst hcs;have hst:∀n,n∈(Tm.mk k n0 a b vs xs []).stN↔(k=1∧n=a)∨∃x∈xs,x.nm=n:=fun n=>by
     rw[Tm.stN,List.mem_append,Cs.J9,List.append_nil,o4];by_cases e:k=1
     ·rw[if_pos (.inl e)];simp[e]
     ·rw[if_neg (by omega)];simp[e]
    have hbd:(Tm.mk k n0 a b vs xs []).bd=[]:=by rw[Tm.bd,if_neg h6,o2];rfl
    have how:(Tm.mk k n0 a b vs xs []).Y7=[]:=by rw[Tm.Y7,if_neg h6,if_neg (by omega),o1];rfl
    have hsT:(Tm.mk k n0 a b vs xs []).stT=[]:=by rw[Tm.stT,if_neg (by omega),o3];rfl
    have hfr:∀n,n∈(Tm.mk k n0 a b vs xs []).free↔(k=1∧n=a)∨∃x∈xs,x.nm=n:=fun n=>by
     rw[Tm.free];by_cases e:k=1
     ·subst e;rw[if_pos rfl,rt_none hR' (.inl rfl)];simp
     ·rw[if_neg e,if_neg (by omega),if_neg (by omega),O3,mem_frees,hfx];simp[e]
    have hGm:∀n∈woN has (Tm.mk k n0 a b vs xs []).free,n∈has:=fun n hn=>(X5.1 hn).1
    rw[Tm.ow,if_neg h6,if_neg h7];by_cases h3:k=3∨k=4∨k=5
    ·rw[if_pos h3,Fv (.inr rfl),Fv (.inl rfl),Gq (.inr rfl),Gq (.inl rfl),Fj (.inr rfl),Fj (.inl rfl),hbd,how,hsT];refine⟨fun n hn=>by simp[hn],fun n hn=>?_,rfl,fun n hn=>by rw[hst];exact(hfr n).1 hn,fun n hn=>.inl ((hfr n).2 ((hst n).1 hn)),rfl,rfl⟩;simp only[List.mem_append]at hn;rcases hn with hn|hn|hn
     ·exact .inr (.inl (hGm n hn))
     ·rw[hst];exact .inl (.inr (Tw xs [] n hn))
     ·exact .inl hn
    ·rw[if_neg h3,Fv (.inr rfl),Gq (.inr rfl),Fj (.inr rfl),hbd,how,hsT];refine⟨fun n hn=>by simp[hn],fun n hn=>?_,rfl,fun n hn=>by rw[hst];exact(hfr n).1 hn,fun n hn=>.inl ((hfr n).2 ((hst n).1 hn)),rfl,rfl⟩;rcases List.mem_append.1 hn with hn|hn
     ·exact .inr (.inl (hGm n hn))
     ·exact .inl hn
theorem Lx:∀(d:Nat) (t:Tm) (e:Nat),d≤e→t.Rt d→t.Rt e:=by
 intro d;induction d with
 |zero=>intro t e _ h;exact h.elim
 |succ d ih=>
  intro t e he h;obtain⟨e,rfl⟩:∃e',e=e'+1:=⟨e-1,by omega⟩
  obtain⟨k,n,a,b,vs,xs,cs⟩:=t;obtain⟨h1,h2,h3,h4,h5⟩:=h;exact⟨h1,h2,h3,fun x hx=>ih x e (by omega) (h4 x hx),fun c hc=>⟨(h5 c hc).1,ih _ e (by omega) (h5 c hc).2⟩⟩
theorem around_rt (d:Nat):∀(bs:Bs) (t:Tm),(∀b∈bs,b.2.Rt d)→t.Rt d→(around bs t).Rt (bs.length+d)
 |[],t,_,h=>by simpa[around]using h
 |b::r,t,hb,h=>by
  have h1:=around_rt d r t (fun x hx=>hb x (List.mem_cons_of_mem _ hx)) h;rw[around,List.length_cons,show r.length+1+d=(r.length+d)+1 from by omega];refine⟨by omega,rfl,by simp,fun x hx=>?_,by simp⟩;rcases List.mem_cons.1 hx with rfl|hx
  ·exact Lx d _ _ (by omega) (hb b (List.mem_cons_self ..))
  ·rw[List.mem_singleton.1 hx];exact h1
theorem varT_rt (s:ByteArray) (d:Nat):(varT s).Rt (d+1):=⟨by omega,rfl,by simp,by simp,by simp⟩
theorem pl_rt:∀(d:Nat) (t:Tm) (c:Int),t.Rt d→(t.pl c).1.Rt (7 * d):=by
 intro d;induction d with
 |zero=>intro t _ h;exact h.elim
 |succ d ih=>
 intro t c hR;obtain⟨k,n,a,b,vs,xs,cs⟩:=t;have hR':=hR;obtain⟨hk,hmany,h6,hx,hc⟩:=hR';have hA:∀(ys:List Tm) (c:Int),(∀y∈ys,y∈xs)→(∀x∈(Tm.ats ys c).1,x.Rt (7 * d))∧∀b∈(Tm.ats ys c).2.1,b.2.Rt (7 * d):=by
  intro ys;induction ys with
  |nil=>intro c _;exact⟨fun x h=>by simp[Tm.ats]at h,fun b h=>by simp[Tm.ats]at h⟩
  |cons y r ih2=>
   intro c hm;have hy:=hx y (hm y (List.mem_cons_self ..));have hd0:0<d:=by
    rcases d with _|d
    ·exact hy.elim
    ·omega
   rw[Tm.ats];split
   ·obtain⟨h1,h2⟩:=ih2 c fun z hz=>hm z (List.mem_cons_of_mem _ hz)
    refine⟨fun x hx=>?_,h2⟩;rcases List.mem_cons.1 hx with rfl|hx
    ·exact Lx d _ _ (by omega) hy
    ·exact h1 x hx
   ·obtain⟨h1,h2⟩:=ih2 (y.pl (wr (c+1))).2 fun z hz=>hm z (List.mem_cons_of_mem _ hz)
    refine⟨fun x hx=>?_,fun b hb=>?_⟩
    ·rcases List.mem_cons.1 hx with rfl|hx
     ·rw[show 7 * d=(7 * d-1)+1 from by omega];exact varT_rt _ _
     ·exact h1 x hx
    ·rcases List.mem_cons.1 hb with rfl|hb
     ·exact ih y _ hy
     ·exact h2 b hb
 have hL:∀(ys:List Tm) (c:Int),(∀y∈ys,y∈xs)→(∀x∈(Tm.plL ys c).1,x.Rt (7 * d))∧(Tm.plL ys c).1.length=ys.length:=by
  intro ys;induction ys with
  |nil=>intro c _;exact⟨fun x h=>by simp[Tm.plL]at h,rfl⟩
  |cons y r ih2=>
   intro c hm;obtain⟨h1,h2⟩:=ih2 (y.pl c).2 fun z hz=>hm z (List.mem_cons_of_mem _ hz)
   rw[Tm.plL];refine⟨fun x hx'=>?_,by simp[h2]⟩;rcases List.mem_cons.1 hx' with rfl|hx'
   ·exact ih y c (hx y (hm y (List.mem_cons_self ..)))
   ·exact h1 x hx'
 have hC:∀(ys:List Cs) (c:Int),(∀y∈ys,y∈cs)→(∀x∈(Cs.plL ys c).1,x.2.length≤6∧x.3.Rt (7 * d))∧(Cs.plL ys c).1.length=ys.length:=by
  intro ys;induction ys with
  |nil=>intro c _;exact⟨fun x h=>by simp[Cs.plL]at h,rfl⟩
  |cons y r ih2=>
   intro c hm;obtain⟨h1,h2⟩:=ih2 (y.pl c).2 fun z hz=>hm z (List.mem_cons_of_mem _ hz)
   obtain⟨g1,g2⟩:=hc y (hm y (List.mem_cons_self ..));obtain⟨t,ws,y⟩:=y;rw[Cs.plL];refine⟨fun x hx'=>?_,by simp[h2]⟩;rcases List.mem_cons.1 hx' with rfl|hx'
   ·rw[Cs.pl];exact⟨g1,ih y c g2⟩
   ·exact h1 x hx'
 have hbl:=E9 xs c;have hvl:=ats_len xs c;obtain⟨hv,hb⟩:=hA xs c fun _ h=>h
 have hxs:xs.length+cs.length≤6:=h6;rw[Tm.pl];split
 ·rename_i hk3;have hcs:cs=[]:=by
   unfold Zv at hmany;rcases hk3 with rfl|rfl|rfl<;> simp at hmany<;> exact hmany.2
  subst hcs;have hN:(Tm.mk k n a .empty [] (Tm.ats xs c).1 []).Rt (7 * d+1):=⟨hk,by rw[hvl];exact hmany,by rw[hvl];exact h6,hv,by simp⟩
  exact Lx _ _ _ (by omega) (around_rt (7 * d+1) _ _ (fun b hb'=>Lx _ _ _ (by omega) (hb b hb')) hN)
 split
 ·rename_i hk6;subst hk6;have hx2:xs.length=2∧cs=[]:=by
   unfold Zv at hmany;simp at hmany;exact hmany
  obtain⟨g1,g2⟩:=hL xs c fun _ h=>h
  refine Lx (7 * d+1) _ _ (by omega) ⟨hk,?_,by rw[g2];simp;omega,g1,by simp⟩;rw[g2,hx2.1];rfl
 split
 ·rename_i hk7;subst hk7;obtain⟨g1,g2⟩:=hC cs (Tm.ats xs c).2.2 fun _ h=>h
  have hN:(Tm.mk 7 0 .empty .empty [] (Tm.ats xs c).1 (Cs.plL cs (Tm.ats xs c).2.2).1).Rt (7 * d+1):=⟨hk,by rw[hvl,g2];exact hmany,by rw[hvl,g2];exact h6,hv,g1⟩
  have hx1:xs.length=1:=by
   unfold Zv at hmany;simp at hmany;exact hmany
  exact Lx _ _ _ (by omega) (around_rt (7 * d+1) _ _ (fun b hb'=>Lx _ _ _ (by omega) (hb b hb')) hN)
 ·exact Lx (d+1) _ _ (by omega) hR
def bsz:Bs→Nat
 |[]=>0
 |b::r=>1+b.2.sz+bsz r
theorem around_sz:∀(bs:Bs) (t:Tm),(around bs t).sz=bsz bs+t.sz
 |[],t=>by simp[around,bsz]
 |b::r,t=>by
  have:=around_sz r t;simp only[around,Tm.sz,Tm.szs,Cs.szs,bsz,this];omega
theorem sz_pos (t:Tm):1≤t.sz:=by obtain⟨k,n,a,b,vs,xs,cs⟩:=t;simp only[Tm.sz];omega
mutual
theorem Tm.pl_sz:∀(t:Tm) (c:Int),(t.pl c).1.sz+2≤3 * t.sz
 | .mk k n a b vs xs cs,c=>by
  have hA:=Tm.ats_sz xs c;have hL:=Tm.plL_sz xs c;have hC:=Cs.plL_sz cs (Tm.ats xs c).2.2;rw[Tm.pl];split
  ·dsimp only;rw[around_sz];simp only[Tm.sz,Cs.szs];omega
  split
  ·simp only[Tm.sz,Cs.szs];omega
  split
  ·dsimp only;rw[around_sz];simp only[Tm.sz];omega
  ·simp only[Tm.sz];omega
theorem Tm.ats_sz:∀(l:List Tm) (c:Int),bsz (Tm.ats l c).2.1+Tm.szs (Tm.ats l c).1≤3 * Tm.szs l
 |[],c=>by simp[Tm.ats,bsz,Tm.szs]
 |x::r,c=>by
  have h1:=Tm.ats_sz r c;have h2:=Tm.pl_sz x (wr (c+1));have h3:=Tm.ats_sz r (x.pl (wr (c+1))).2;have h4:∀s,(varT s).sz=1:=fun s=>by simp[varT,Tm.sz,Tm.szs,Cs.szs]
  rw[Tm.ats];split
  ·simp only[Tm.szs];omega
  ·simp only[Tm.szs,bsz,h4];omega
theorem Tm.plL_sz:∀(l:List Tm) (c:Int),Tm.szs (Tm.plL l c).1≤3 * Tm.szs l
 |[],c=>by simp[Tm.plL,Tm.szs]
 |x::r,c=>by
  have h1:=Tm.plL_sz r (x.pl c).2;have h2:=Tm.pl_sz x c;rw[Tm.plL];simp only[Tm.szs];omega
theorem Cs.plL_sz:∀(l:List Cs) (c:Int),Cs.szs (Cs.plL l c).1≤3 * Cs.szs l
 |[],c=>by simp[Cs.plL,Cs.szs]
 |x::r,c=>by
  have h1:=Cs.plL_sz r (x.pl c).2;have h2:=Cs.pl_sz x c;rw[Cs.plL];simp only[Cs.szs];omega
theorem Cs.pl_sz:∀(d:Cs) (c:Int),(d.pl c).1.sz≤3 * d.sz
 | .mk t ws y,c=>by
  have:=Tm.pl_sz y c;rw[Cs.pl];simp only[Cs.sz];omega
end
mutual
theorem Tm.rn_sz:∀(t:Tm) (ps:Ps) (c:Int),(t.rn ps c).1.sz≤t.sz
 | .mk k n a b vs xs cs,ps,c=>by
  have h1:=Tm.rns_sz k a ps 0 xs a c;have h2:=Cs.rnL_sz cs ps (Tm.rns k a ps 0 xs a c).2.2;rw[Tm.rn];split
  ·simp only[Tm.sz,Tm.szs,Cs.szs];omega
  ·simp only[Tm.sz];omega
theorem Tm.rns_sz (k:Int) (a:ByteArray) (ps:Ps):∀(i:Nat) (l:List Tm) (nm:ByteArray) (c:Int),Tm.szs (Tm.rns k a ps i l nm c).1≤Tm.szs l
 |_,[],_,_=>by simp[Tm.rns,Tm.szs]
 |i,x::r,nm,c=>by
  rw[Tm.rns];split
  ·have h1:=Tm.rn_sz x (ps++[(a,vNm (wr (c+1)))]) (wr (c+1));have h2:=Tm.rns_sz k a ps (i+1) r (vNm (wr (c+1))) (x.rn (ps++[(a,vNm (wr (c+1)))]) (wr (c+1))).2;simp only[Tm.szs];omega
  ·have h1:=Tm.rn_sz x ps c;have h2:=Tm.rns_sz k a ps (i+1) r nm (x.rn ps c).2;simp only[Tm.szs];omega
theorem Cs.rnL_sz:∀(l:List Cs) (ps:Ps) (c:Int),Cs.szs (Cs.rnL l ps c).1≤Cs.szs l
 |[],_,_=>by simp[Cs.rnL,Cs.szs]
 |x::r,ps,c=>by
  have h1:=Cs.rn_sz x ps c;have h2:=Cs.rnL_sz r ps (x.rn ps c).2;rw[Cs.rnL];simp only[Cs.szs];omega
theorem Cs.rn_sz:∀(d:Cs) (ps:Ps) (c:Int),(d.rn ps c).1.sz≤d.sz
 | .mk t ws y,ps,c=>by
  have:=Tm.rn_sz y (ps++ws.zip (Xx ws c)) (V7 ws c);rw[Cs.rn];simp only[Cs.sz];omega
end
theorem Fn.pl_pt (f:Fn) (hb:f.body.Ok) (hr:f.body.Rt 25) (hp:f.params.length≤6) (hz:f.body.sz≤349525):f.pl.Pt:=by
 obtain⟨h1,h2⟩:=Fn.pl_ok f hb hr hp;have h3:f.rn.body.sz≤f.body.sz:=Tm.rn_sz f.body _ _;have h4:f.pl.body.sz+2≤3 * f.rn.body.sz:=Tm.pl_sz f.rn.body 0;refine⟨Go.Proofs.YtlbcipohiepjmaaDoor.pl_rt 25 f.rn.body 0 (f.rn_rt hr),⟨h1,by omega⟩,h2,fun s hs=>Aq f.params 0 s ?_⟩;exact hs
theorem digit_byte (u:Nat):∀b∈Lib.decDigits u,48≤b.toNat∧b.toNat≤57:=by
 induction u using Nat.strongRecOn with
 |_ u ih=>
  by_cases h:u<10
  ·rw[Lib.decDigits,dif_pos h];intro b hb;rw[List.mem_singleton.1 hb,UInt8.toNat_ofNat'];omega
  ·rw[Lib.decDigits,dif_neg h];intro b hb;rcases List.mem_append.1 hb with hb|hb
   ·exact ih (u / 10) (by omega) b hb
   ·rw[List.mem_singleton.1 hb,UInt8.toNat_ofNat'];omega
theorem digits_len:∀(n u:Nat),u<10 ^ (n+1)→(Lib.decDigits u).length≤n+1
 |0,u,h=>by
  rw[Lib.decDigits,dif_pos (by omega)];simp
 |n+1,u,h=>by
  by_cases h1:u<10
  ·rw[Lib.decDigits,dif_pos h1];simp
  ·have:=digits_len n (u / 10) (by rw[Nat.pow_succ]at h;omega);rw[Lib.decDigits,dif_neg h1,List.length_append,List.length_singleton];omega
theorem nameB_mk {c:UInt8} {l:List UInt8} (hc:97≤c.toNat∧c.toNat≤122) (hl:∀b∈l,48≤b.toNat∧b.toNat≤57) (h7:l.length≤7):Rw ⟨(c::l).toArray⟩=true:=by
 have hs:(⟨(c::l).toArray⟩:ByteArray).size=l.length+1:=by simp[ByteArray.size]
 unfold Rw;rw[Bool.and_eq_true,List.all_eq_true,Bool.and_eq_true,decide_eq_true_eq,decide_eq_true_eq,hs];refine⟨fun j hj=>?_,by omega,by omega⟩;have hg:(⟨(c::l).toArray⟩:ByteArray)[j]? =(c::l)[j]?:=by
  by_cases hj2:j<l.length+1
  ·rw[getElem?_pos _ _ (by rw[hs];exact hj2),List.getElem?_eq_getElem (by simpa using hj2)];rfl
  ·rw[getElem?_neg _ _ (by rw[hs];exact hj2),List.getElem?_eq_none (by simp;omega)]
 rw[hg];rcases j with _|j
 ·simp only[List.getElem?_cons_zero];unfold chOk;simp;omega
 ·rw[List.getElem?_cons_succ];cases hq:l[j]? with
  |none=>rfl
  |some b=>
   have:=hl b (List.mem_of_getElem? hq);simp only;unfold chOk;simp;omega
theorem O9 {i:Int} (h:0≤i) (h2:i≤9999999):(∀b∈Lib.itoa i,48≤b.toNat∧b.toNat≤57)∧(Lib.itoa i).length≤7:=by
 unfold Lib.itoa;rw[if_neg (by omega)];exact⟨digit_byte _,digits_len 6 _ (by omega)⟩
theorem vNm_mk (i:Int):vNm i=⟨(118::Lib.itoa i).toArray⟩:=by
 unfold vNm Hz;apply ByteArray.ext;rw[ByteArray.data_append];simp
theorem wNm_mk (i:Int):wNm i=⟨(119::Lib.itoa i).toArray⟩:=by
 unfold wNm Hz;apply ByteArray.ext;rw[ByteArray.data_append];simp
theorem vNm_name {i:Int} (h:0≤i) (h2:i≤9999999):Rw (vNm i)=true:=by
 rw[vNm_mk];exact nameB_mk (by decide) (O9 h h2).1 (O9 h h2).2
theorem wNm_name {i:Int} (h:0≤i) (h2:i≤9999999):Rw (wNm i)=true:=by
 rw[wNm_mk];exact nameB_mk (by decide) (O9 h h2).1 (O9 h h2).2
theorem vNm_ne_wNm (i j:Int):vNm i≠wNm j:=by
 rw[vNm_mk,wNm_mk];intro h;have:=congrArg (fun x:ByteArray=>x.data.toList) h;simp at this
theorem wNm_inj {a b:Int} (ha:0≤a) (hb:0≤b) (h:wNm a=wNm b):a=b:=itoaB_inj ha hb (append_left_inj h)
theorem twB_of {l:List ByteArray} (h:l.Nodup):twB l=false:=by
 refine twB_no fun j hj x hx=>?_
 cases hq:hasB (l.take j) x with
 |false=>rfl
 |true=>
  exfalso;have h1:=X4.1 hq;obtain⟨i,hi,e⟩:=List.mem_take_iff_getElem.1 h1;have h2:=List.getElem?_eq_some_iff.1 hx;obtain⟨h3,h4⟩:=h2;have:=(List.getElem_inj h).1 (e.trans h4.symm);omega
theorem seqV_bad {c:Int} {n:Nat} (h:0≤c) (h2:c+n≤9999999):badB (P6 c n)=false:=by
 unfold badB;rw[List.any_eq_false];intro s hs;unfold P6 at hs;obtain⟨i,hi,rfl⟩:=List.mem_map.1 hs;have:=List.mem_range.1 hi;rw[vNm_name (by omega) (by omega)];simp
theorem R4 {f:J6} {k n:Int} {a b:ByteArray} {vs names:List ByteArray} {xs:List Tm} {cs:List Cs} {deep:Int} (h1:deep≤24) (h2:1≤k) (h3:k≤7) (h4:Zv k xs.length cs.length=false) (h5:Xw f k n a names xs.length=0)
  (h6:Tm.X9 f k a names deep 0 xs=0) (h7:k=7→cs.length≠0∧cs.length≤5∧Cs.X9 f names deep [] cs=0):(Tm.mk k n a b vs xs cs).wrong f names deep=0:=by
 rw[Tm.wrong,if_neg (by omega),if_neg (by omega),h4,if_neg (by simp),if_neg (by rw[h5];simp),if_neg (by rw[h6];simp)];by_cases hk:k=7
 ·obtain⟨g1,g2,g3⟩:=h7 hk;rw[if_neg (by omega),if_neg (by omega),g3]
 ·rw[if_pos hk]
theorem J7 {f:J6} {k:Int} {a:ByteArray} {names:List ByteArray} {deep:Int} {i:Nat} {x:Tm} {r:List Tm}:Tm.X9 f k a names deep i (x::r)=0↔x.wrong f (if k=6∧i=1 then names++[a]else names) (deep+1)=0∧Tm.X9 f k a names deep (i+1) r=0:=by
 rw[Tm.X9];by_cases h:x.wrong f (if k=6∧i=1 then names++[a]else names) (deep+1)=0
 ·rw[if_neg (fun e=>e h)];exact⟨fun e=>⟨h,e⟩,fun e=>e.2⟩
 ·rw[if_pos h];exact⟨fun e=>absurd e h,fun e=>absurd e.1 h⟩
theorem Pj {f:J6} {names:List ByteArray} {deep:Int} {had:List Int} {t:Int} {ws:List ByteArray} {y:Tm} {r:List Cs}:Cs.X9 f names deep had (.mk t ws y::r)=0↔
  ((¬(t<0∨9<t))∧had.contains t=false∧twB ws=false∧badB ws=false∧ws.length≤6∧y.wrong f (names++ws) (deep+1)=0)∧Cs.X9 f names deep (t::had) r=0:=by
 have key:Cs.wrongC f names deep had (.mk t ws y)=0↔((¬(t<0∨9<t))∧had.contains t=false∧twB ws=false∧badB ws=false∧ws.length≤6∧y.wrong f (names++ws) (deep+1)=0):=by
  rw[Cs.wrongC];by_cases g1:t<0∨9<t
  ·rw[if_pos g1];exact⟨fun e=>by omega,fun e=>absurd g1 e.1⟩
  rw[if_neg g1];by_cases g2:(had.contains t||twB ws||badB ws)=true
  ·rw[if_pos g2];refine⟨fun e=>by omega,fun e=>?_⟩;rw[e.2.1,e.2.2.1,e.2.2.2.1]at g2;simp at g2
  rw[if_neg g2];simp only[Bool.or_eq_true,not_or,Bool.not_eq_true]at g2;by_cases g3:6<ws.length
  ·rw[if_pos g3];exact⟨fun e=>by omega,fun e=>absurd e.2.2.2.2.1 (by omega)⟩
  rw[if_neg g3];exact⟨fun e=>⟨g1,g2.1.1,g2.1.2,g2.2,by omega,e⟩,fun e=>e.2.2.2.2.2⟩
 rw[Cs.X9];by_cases h:Cs.wrongC f names deep had (.mk t ws y)=0
 ·rw[if_neg (fun e=>e h)];exact⟨fun e=>⟨key.1 h,e⟩,fun e=>e.2⟩
 ·rw[if_pos h];exact⟨fun e=>absurd e h,fun e=>absurd (key.2 e.1) h⟩
theorem nowP_add (ps:Ps) (p:ByteArray×ByteArray) (s:ByteArray):nowP (ps++[p]) s=if p.1=s then p.2 else nowP ps s:=by
 unfold nowP;rw[List.foldl_append];rfl
def RnR (names names':List ByteArray) (ps:Ps):Prop:=∀s∈names,nowP ps s∈names'
theorem RnR.one {names names':List ByteArray} {ps:Ps} (h:RnR names names' ps) (a v:ByteArray):RnR (names++[a]) (names'++[v]) (ps++[(a,v)]):=fun s hs=>by
 rw[nowP_add];split
 ·exact List.mem_append_right _ (List.mem_singleton.2 rfl)
 ·rename_i hne;rcases List.mem_append.1 hs with hs|hs
  ·exact List.mem_append_left _ (h s hs)
  ·exact absurd (List.mem_singleton.1 hs).symm hne
theorem RnR.more {names names':List ByteArray} {ps:Ps} (h:RnR names names' ps):∀(ws vs:List ByteArray),ws.length=vs.length→RnR (names++ws) (names'++vs) (ps++ws.zip vs):=by
 intro ws;induction ws generalizing names names' ps with
 |nil=>
  intro vs hl;rcases vs with _|⟨v,vs⟩
  ·simpa using h
  ·simp at hl
 |cons w ws ih=>
  intro vs hl;rcases vs with _|⟨v,vs⟩
  ·simp at hl
  ·have:=ih (h.one w v) vs (by simpa using hl);simpa[List.append_assoc]using this
theorem rn_wrong (A:J6):∀(d:Nat) (t:Tm) (names names':List ByteArray) (ps:Ps) (c deep:Int),t.Rt d→t.wrong A names deep=0→0≤c→c+t.bd.length≤9999999→RnR names names' ps→(t.rn ps c).1.wrong A names' deep=0:=by
 intro d;induction d with
 |zero=>intro t _ _ _ _ _ h;exact h.elim
 |succ d ih=>
 intro t names names' ps c deep hR hw h0 hb hr;have hbd:=bd_rn (d+1) t ps c hR h0 (by omega);obtain⟨k,n,a,b,vs,xs,cs⟩:=t;have hR':=hR;obtain⟨hk,hmany,_,hx,hc⟩:=hR';obtain⟨h1,h2,h3,h4,h5,h6,h7⟩:=R3 hw;rw[Tm.rn];by_cases hk1:k=1
 ·subst hk1;rw[if_pos rfl];unfold Zv at hmany;simp at hmany;obtain⟨rfl,rfl⟩:=hmany;refine R4 h1 h2 h3 h4 ?_ rfl (fun h=>by omega);unfold Xw at h5⊢;rw[if_pos rfl]at h5⊢;split at h5
  ·rename_i hh;rw[if_pos (X4.2 (hr a (X4.1 hh)))]
  ·cases h5
 rw[if_neg hk1];by_cases hk6:k=6
 ·obtain⟨x,y,rfl,rfl⟩:=rt_let hR hk6;subst hk6;have hl:(Tm.mk 6 n a b vs [x,y] []).bd.length=x.bd.length+(1+y.bd.length):=by simp[Tm.bd,Tm.bdL,Cs.bdL];omega
  rw[hl]at hb
  push_cast at hb
  rw[J7,J7,if_neg (by omega),if_pos (by omega)]at h6;obtain⟨_,e2⟩:=bd_rn d x ps c (hx x (by simp)) h0 (by omega);have hw1:wr (c+x.bd.length+1)=c+x.bd.length+1:=wr_of (by omega) (by omega);have g1:=ih x names names' ps c (deep+1) (hx x (by simp)) h6.1 h0 (by omega) hr;have g2:=ih y (names++[a]) (names'++[vNm (c+x.bd.length+1)]) (ps++[(a,vNm (c+x.bd.length+1))]) (c+x.bd.length+1) (deep+1) (hx y (by simp)) h6.2.1 (by omega) (by omega) (hr.one a _);have hE:Tm.rns 6 a ps 0 [x,y] a c=([(x.rn ps c).1,(y.rn (ps++[(a,vNm (c+x.bd.length+1))]) (c+x.bd.length+1)).1],vNm (c+x.bd.length+1),(y.rn (ps++[(a,vNm (c+x.bd.length+1))]) (c+x.bd.length+1)).2):=by simp[Tm.rns,e2,hw1]
  rw[hE,Cs.rnL];dsimp only;refine R4 h1 h2 h3 rfl ?_ ?_ (fun h=>by omega)
  ·unfold Xw;rw[if_neg (by omega),if_neg (by omega),if_neg (by omega),if_neg (by omega),if_pos rfl,vNm_name (by omega) (by omega)];rfl
  ·rw[J7,J7,if_neg (by omega),if_pos (by omega)];exact⟨g1,g2,rfl⟩
 ·have hL:∀(ys:List Tm) (i:Nat) (nm:ByteArray) (c:Int),(∀y∈ys,y∈xs)→Tm.X9 A k a names deep i ys=0→0≤c→c+(Tm.bdL ys).length≤9999999→(∀a',Tm.X9 A k a' names' deep i (Tm.rns k a ps i ys nm c).1=0)∧(Tm.rns k a ps i ys nm c).1.length=ys.length∧(Tm.rns k a ps i ys nm c).2.2=c+(Tm.bdL ys).length:=by
   intro ys;induction ys with
   |nil=>intro i nm c _ _ _ _;exact⟨fun _=>rfl,rfl,by simp[Tm.rns,Tm.bdL]⟩
   |cons y r ih2=>
    intro i nm c hm hwr h0 hb;rw[Tm.bdL,List.length_append]at hb⊢
    push_cast at hb⊢
    rw[J7,if_neg (fun h=>hk6 h.1)]at hwr;have hy:=hx y (hm y (List.mem_cons_self ..));obtain⟨_,e2⟩:=bd_rn d y ps c hy h0 (by omega);obtain⟨g1,g2,g3⟩:=ih2 (i+1) nm (c+y.bd.length) (fun z hz=>hm z (List.mem_cons_of_mem _ hz)) hwr.2 (by omega) (by omega);rw[Tm.rns,if_neg fun h=>hk6 h.1,e2];refine⟨fun a'=>?_,by simp[g2],by dsimp only;rw[g3];omega⟩;rw[J7,if_neg (fun h=>hk6 h.1)];exact⟨ih y names names' ps c (deep+1) hy hwr.1 h0 (by omega) hr,g1 a'⟩
  have hC:k=7→∀(ys:List Cs) (had:List Int) (c:Int),(∀y∈ys,y∈cs)→Cs.X9 A names deep had ys=0→0≤c→c+(Cs.bdL ys).length≤9999999→Cs.X9 A names' deep had (Cs.rnL ys ps c).1=0∧(Cs.rnL ys ps c).1.length=ys.length:=by
   intro hk7 ys;induction ys with
   |nil=>intro had c _ _ _ _;exact⟨rfl,rfl⟩
   |cons y r ih2=>
    intro had c hm hwr h0 hb;have hy:=hm y (List.mem_cons_self ..);obtain⟨t,ws,y⟩:=y;rw[Cs.bdL,Cs.bd,List.length_append,List.length_append]at hb
    push_cast at hb
    rw[Pj]at hwr;obtain⟨⟨w1,w2,w3,w4,w5,w6⟩,w7⟩:=hwr;obtain⟨e1,e2⟩:=Fq ws c h0 (by omega);obtain⟨_,e3⟩:=bd_rn d y (ps++ws.zip (Xx ws c)) (c+ws.length) (hc _ hy).2 (by omega) (by omega);obtain⟨g1,g2⟩:=ih2 (t::had) (c+ws.length+y.bd.length) (fun z hz=>hm z (List.mem_cons_of_mem _ hz)) w7 (by omega) (by omega);have g3:=ih y (names++ws) (names'++Xx ws c) (ps++ws.zip (Xx ws c)) (c+ws.length) (deep+1) (hc _ hy).2 w6 (by omega) (by omega) (hr.more ws _ (Vw ws c).symm);rw[Cs.rnL,Cs.rn,e2,e3];refine⟨?_,by simp[g2]⟩;dsimp only;rw[Pj];exact⟨⟨w1,w2,by rw[e1];exact twB_of (seqV_nodup h0 _),by rw[e1];exact seqV_bad h0 (by omega),by rw[Vw];exact w5,g3⟩,g1⟩
  have hl:(Tm.mk k n a b vs xs cs).bd.length=(Tm.bdL xs).length+(Cs.bdL cs).length:=by simp[Tm.bd,hk6]
  rw[hl]at hb
  push_cast at hb
  obtain⟨g1,g2,g3⟩:=hL xs 0 a c (fun _ h=>h) h6 h0 (by omega);have hno:=rns_no hk6 a ps xs 0 a c;rw[hno,g3];by_cases hk7:k=7
  ·obtain⟨q1,q2,q3⟩:=h7 hk7;obtain⟨g4,g5⟩:=hC hk7 cs [] (c+(Tm.bdL xs).length) (fun _ h=>h) q3 (by omega) (by omega);refine R4 h1 h2 h3 (by rw[g2,g5];exact h4) ?_ (g1 a) (fun _=>⟨by rw[g5];exact q1,by rw[g5];exact q2,g4⟩);subst hk7;rfl
  ·have hcs:cs=[]:=by
    unfold Zv at hmany;simp only[Bool.or_eq_false_iff,Bool.and_eq_false_iff,decide_eq_false_iff_not]at hmany;rcases hmany.2 with h|h
    ·exact absurd hk7 h
    ·exact List.eq_nil_of_length_eq_zero (by omega)
   subst hcs;refine R4 h1 h2 h3 (by rw[g2];exact h4) ?_ (g1 a) (fun h=>absurd h hk7);rw[g2];unfold Xw at h5⊢;rw[if_neg hk1]at h5⊢;exact h5
theorem var_wrong {A:J6} {names names':List ByteArray} {deep deep':Int} {t:Tm} {d:Nat} (hR:t.Rt d) (h1:t.tk=1) (hw:t.wrong A names deep=0) (hn:∀s∈names,s∈names') (hd:deep'≤24):t.wrong A names' deep'=0:=by
 obtain⟨k,n,a,b,vs,xs,cs⟩:=t;simp only[Tm.tk]at h1;subst h1;rcases d with _|d
 ·exact hR.elim
 obtain⟨_,hmany,_⟩:=hR;obtain⟨_,h2,h3,h4,h5,_⟩:=R3 hw;unfold Zv at hmany;simp at hmany;obtain⟨rfl,rfl⟩:=hmany;refine R4 hd h2 h3 h4 ?_ rfl (fun h=>by omega);unfold Xw at h5⊢;rw[if_pos rfl]at h5⊢;split at h5
 ·rename_i hh;rw[if_pos (X4.2 (hn a (X4.1 hh)))]
 ·cases h5
theorem varT_wrong {A:J6} {names:List ByteArray} {deep:Int} {s:ByteArray} (h:s∈names) (hd:deep≤24):(varT s).wrong A names deep=0:=by
 refine R4 hd (by omega) (by omega) rfl ?_ rfl (fun h=>by omega);unfold Xw;rw[if_pos rfl,if_pos (X4.2 h)]
theorem pl_cnt:∀(d:Nat) (t:Tm) (c:Int),t.Rt d→0≤c→c+t.sz<9223372036854775807→c≤(t.pl c).2∧(t.pl c).2+1≤c+t.sz:=by
 intro d;induction d with
 |zero=>intro t _ h;exact h.elim
 |succ d ih=>
 intro t c hR h0 hb;obtain⟨k,n,a,b,vs,xs,cs⟩:=t;obtain⟨_,_,_,hx,hc⟩:=hR;simp only[Tm.sz]at hb⊢
 push_cast at hb⊢
 have hA:∀(ys:List Tm) (c:Int),(∀y∈ys,y∈xs)→0≤c→c+1+(Tm.szs ys:Nat)<9223372036854775807→c≤(Tm.ats ys c).2.2∧(Tm.ats ys c).2.2≤c+(Tm.szs ys:Nat):=by
  intro ys;induction ys with
  |nil=>intro c _ _ _;simp[Tm.ats,Tm.szs]
  |cons y r ih2=>
   intro c hm h0 hb;simp only[Tm.szs]at hb⊢
   push_cast at hb⊢
   have hsz:=sz_pos y;have hw:wr (c+1)=c+1:=wr_of (by omega) (by omega);rw[Tm.ats];split
   ·have:=ih2 c (fun z hz=>hm z (List.mem_cons_of_mem _ hz)) h0 (by omega);dsimp only;omega
   ·have h2:=ih y (c+1) (hx y (hm y (List.mem_cons_self ..))) (by omega) (by omega);rw[hw];have:=ih2 (y.pl (c+1)).2 (fun z hz=>hm z (List.mem_cons_of_mem _ hz)) (by omega) (by omega);dsimp only;omega
 have hL:∀(ys:List Tm) (c:Int),(∀y∈ys,y∈xs)→0≤c→c+(Tm.szs ys:Nat)<9223372036854775807→c≤(Tm.plL ys c).2∧(Tm.plL ys c).2≤c+(Tm.szs ys:Nat):=by
  intro ys;induction ys with
  |nil=>intro c _ _ _;simp[Tm.plL,Tm.szs]
  |cons y r ih2=>
   intro c hm h0 hb;simp only[Tm.szs]at hb⊢
   push_cast at hb⊢
   have h1:=ih y c (hx y (hm y (List.mem_cons_self ..))) h0 (by omega);have:=ih2 (y.pl c).2 (fun z hz=>hm z (List.mem_cons_of_mem _ hz)) (by omega) (by omega);rw[Tm.plL];dsimp only;omega
 have hC:∀(ys:List Cs) (c:Int),(∀y∈ys,y∈cs)→0≤c→c+(Cs.szs ys:Nat)<9223372036854775807→c≤(Cs.plL ys c).2∧(Cs.plL ys c).2≤c+(Cs.szs ys:Nat):=by
  intro ys;induction ys with
  |nil=>intro c _ _ _;simp[Cs.plL,Cs.szs]
  |cons y r ih2=>
   intro c hm h0 hb;have hy:=hc y (hm y (List.mem_cons_self ..));obtain⟨t,ws,y⟩:=y;simp only[Cs.szs,Cs.sz]at hb⊢
   push_cast at hb⊢
   have h1:=ih y c hy.2 h0 (by omega);have:=ih2 (y.pl c).2 (fun z hz=>hm z (List.mem_cons_of_mem _ hz)) (by omega) (by omega);rw[Cs.plL,Cs.pl];dsimp only;omega
 rw[Tm.pl];split
 ·have:=hA xs c (fun _ h=>h) h0 (by omega);dsimp only;omega
 split
 ·have:=hL xs c (fun _ h=>h) h0 (by omega);dsimp only;omega
 split
 ·have h1:=hA xs c (fun _ h=>h) h0 (by omega);have:=hC cs (Tm.ats xs c).2.2 (fun _ h=>h) (by omega) (by omega);dsimp only;omega
 ·dsimp only;omega
theorem pl_wrong (A:J6):∀(d:Nat) (t:Tm) (names names':List ByteArray) (c deep deep':Int),t.Rt d→t.wrong A names deep=0→(∀s∈names,s∈names')→0≤c→c+t.sz≤9999999→deep'≤24-7 * (d:Int)→(t.pl c).1.wrong A names' deep'=0:=by
 intro d;induction d with
 |zero=>intro t _ _ _ _ _ h;exact h.elim
 |succ d ih=>
 intro t names names' c deep deep' hR hw hn h0 hb hd;have hR2:=hR;obtain⟨k,n,a,b,vs,xs,cs⟩:=t;obtain⟨hk,hmany,h6c,hx,hc⟩:=hR;obtain⟨h1,h2,h3,h4,h5,h6,h7⟩:=R3 hw;simp only[Tm.sz]at hb
 push_cast at hb hd
 -- what lies around
 have hA:∀(ys:List Tm) (i:Nat) (c:Int) (names':List ByteArray) (deep':Int),(∀y∈ys,y∈xs)→k≠6→Tm.X9 A k a names deep i ys=0→(∀s∈names,s∈names')→0≤c→c+1+(Tm.szs ys:Nat)≤9999999→deep'+ys.length≤24-7 * (d:Int)→
   ∀inner:Tm,(∀(names'':List ByteArray) (deep'':Int),(∀s∈names',s∈names'')→deep''≤deep'+ys.length→(∀(x:Tm),x∈(Tm.ats ys c).1→∀deep≤24,x.wrong A names'' deep=0)→inner.wrong A names'' deep''=0)→(around (Tm.ats ys c).2.1 inner).wrong A names' deep'=0:=by
  intro ys;induction ys with
  |nil=>intro i c names' deep' _ _ _ _ _ _ _ inner hi;exact hi names' deep' (fun _ h=>h) (by simp) (fun x h=>by simp[Tm.ats]at h)
  |cons y r ih2=>
   intro i c names' deep' hm hk6 hwr hn h0 hb hd inner hi;simp only[Tm.szs]at hb;rw[List.length_cons]at hd hi
   push_cast at hb hd hi
   rw[J7,if_neg (fun h=>hk6 h.1)]at hwr;have hy:=hx y (hm y (List.mem_cons_self ..));have hsz:=sz_pos y;rw[Tm.ats]at hi⊢;by_cases hv:y.tk=1
   ·rw[if_pos hv]at hi⊢;dsimp only at hi⊢;refine ih2 (i+1) c names' deep' (fun z hz=>hm z (List.mem_cons_of_mem _ hz)) hk6 hwr.2 hn h0 (by omega) (by omega) inner fun names'' deep'' g1 g2 g3=>?_
    refine hi names'' deep'' g1 (by omega) fun x hx' e he=>?_
    rcases List.mem_cons.1 hx' with rfl|hx'
    ·exact var_wrong hy hv hwr.1 (fun s hs=>g1 s (hn s hs)) he
    ·exact g3 x hx' e he
   ·rw[if_neg hv]at hi⊢;have hw1:wr (c+1)=c+1:=wr_of (by omega) (by omega);rw[hw1]at hi⊢;have hcn:=pl_cnt d y (c+1) hy (by omega) (by omega);dsimp only at hi⊢;rw[around];have hy1:=ih y names names' (c+1) (deep+1) (deep'+1) hy hwr.1 hn (by omega) (by omega) (by omega);refine R4 (by omega) (by omega) (by omega) rfl ?_ ?_ (fun h=>by omega)
    ·unfold Xw;rw[if_neg (by omega),if_neg (by omega),if_neg (by omega),if_neg (by omega),if_pos rfl,wNm_name (by omega) (by omega)];rfl
    ·rw[J7,J7,if_neg (by omega),if_pos (by omega)];refine⟨hy1,?_,rfl⟩;refine ih2 (i+1) (y.pl (c+1)).2 (names'++[wNm (c+1)]) (deep'+1) (fun z hz=>hm z (List.mem_cons_of_mem _ hz)) hk6 hwr.2 (fun s hs=>List.mem_append_left _ (hn s hs)) (by omega) (by omega) (by omega) inner fun names'' deep'' g1 g2 g3=>?_
     refine hi names'' deep'' (fun s hs=>g1 s (List.mem_append_left _ hs)) (by omega) fun x hx' e he=>?_
     rcases List.mem_cons.1 hx' with rfl|hx'
     ·exact varT_wrong (g1 _ (List.mem_append_right _ (List.mem_singleton.2 rfl))) he
     ·exact g3 x hx' e he
 have hall:∀(names'':List ByteArray) (a':ByteArray) (deep:Int) (l:List Tm) (i:Nat),k≠6→(∀x∈l,∀deep≤24,x.wrong A names'' deep=0)→deep+1≤24→Tm.X9 A k a' names'' deep i l=0:=by
  intro names'' a' deep l;induction l with
  |nil=>intro _ _ _ _;rfl
  |cons x r ih2=>
   intro i hk6 hl hd;rw[J7,if_neg (fun h=>hk6 h.1)];exact⟨hl x (List.mem_cons_self ..) _ hd,ih2 (i+1) hk6 (fun z hz=>hl z (List.mem_cons_of_mem _ hz)) hd⟩
 have hlen:=ats_len xs c;have hxl:(xs.length:Int)≤6:=by omega
 rw[Tm.pl];by_cases k3:k=3∨k=4∨k=5
 ·rw[if_pos k3];have hcs:cs=[]:=by
   unfold Zv at hmany;simp only[Bool.or_eq_false_iff,Bool.and_eq_false_iff,decide_eq_false_iff_not]at hmany;rcases hmany.2 with h|h
   ·exact absurd (show k≠7 by omega) h
   ·exact List.eq_nil_of_length_eq_zero (by omega)
  subst hcs;refine hA xs 0 c names' deep' (fun _ h=>h) (by omega) h6 hn h0 (by omega) (by omega) _ fun names'' deep'' g1 g2 g3=>?_
  refine R4 (by omega) h2 h3 (by rw[hlen];exact h4) ?_ (hall names'' a deep'' _ 0 (by omega) g3 (by omega)) (fun h=>by omega);rw[hlen];unfold Xw at h5⊢;rw[if_neg (by omega)]at h5⊢;exact h5
 rw[if_neg k3];by_cases k6:k=6
 ·rw[if_pos k6];obtain⟨x,y,rfl,rfl⟩:=rt_let hR2 k6;subst k6;rw[J7,J7,if_neg (by omega),if_pos (by omega)]at h6;simp only[Tm.szs]at hb
  push_cast at hb
  have hcn:=pl_cnt d x c (hx x (by simp)) h0 (by omega);have g1:=ih x names names' c (deep+1) (deep'+1) (hx x (by simp)) h6.1 hn h0 (by omega) (by omega);have g2:=ih y (names++[a]) (names'++[a]) (x.pl c).2 (deep+1) (deep'+1) (hx y (by simp)) h6.2.1 (fun s hs=>by
   rcases List.mem_append.1 hs with h|h
   ·exact List.mem_append_left _ (hn s h)
   ·exact List.mem_append_right _ h) (by omega) (by omega) (by omega)
  rw[Tm.plL,Tm.plL,Tm.plL];dsimp only;refine R4 (by omega) (by omega) (by omega) rfl ?_ ?_ (fun h=>by omega)
  ·unfold Xw at h5⊢;rw[if_neg (by omega),if_neg (by omega),if_neg (by omega),if_neg (by omega),if_pos rfl]at h5⊢;exact h5
  ·rw[J7,J7,if_neg (by omega),if_pos (by omega)];exact⟨g1,g2,rfl⟩
 rw[if_neg k6];by_cases k7:k=7
 ·rw[if_pos k7];obtain⟨q1,q2,q3⟩:=h7 k7;have hxl1:xs.length=1:=by
   subst k7;unfold Zv at hmany;simp at hmany;exact hmany
  have hcn:0≤(Tm.ats xs c).2.2∧(Tm.ats xs c).2.2≤c+(Tm.szs xs:Nat):=by
   match xs,hxl1,hx with
   |[x],_,hx=>
    have hsz:=sz_pos x;simp only[Tm.szs]at hb⊢
    push_cast at hb⊢
    rw[Tm.ats];split
    ·dsimp only;rw[Tm.ats];dsimp only;omega
    ·have hw1:wr (c+1)=c+1:=wr_of (by omega) (by omega);have:=pl_cnt d x (c+1) (hx x (by simp)) (by omega) (by omega);rw[hw1];dsimp only;rw[Tm.ats];dsimp only;omega
  have hC:∀(ys:List Cs) (had:List Int) (c:Int) (names'':List ByteArray) (deep'':Int),(∀y∈ys,y∈cs)→Cs.X9 A names deep had ys=0→(∀s∈names,s∈names'')→0≤c→c+(Cs.szs ys:Nat)≤9999999→deep''+1≤24-7 * (d:Int)→Cs.X9 A names'' deep'' had (Cs.plL ys c).1=0∧(Cs.plL ys c).1.length=ys.length:=by
   intro ys;induction ys with
   |nil=>intro had c _ _ _ _ _ _ _;exact fun _=>⟨rfl,rfl⟩
   |cons y r ih2=>
    intro had c names'' deep'' hm hwr hn h0 hb hd;have hy:=hc y (hm y (List.mem_cons_self ..));obtain⟨t,ws,y⟩:=y;simp only[Cs.szs,Cs.sz]at hb
    push_cast at hb
    rw[Pj]at hwr;obtain⟨⟨w1,w2,w3,w4,w5,w6⟩,w7⟩:=hwr;have hcn:=pl_cnt d y c hy.2 h0 (by omega);obtain⟨g1,g2⟩:=ih2 (t::had) (y.pl c).2 names'' deep'' (fun z hz=>hm z (List.mem_cons_of_mem _ hz)) w7 hn (by omega) (by omega) hd;have g3:=ih y (names++ws) (names''++ws) c (deep+1) (deep''+1) hy.2 w6 (fun s hs=>by
     rcases List.mem_append.1 hs with h|h
     ·exact List.mem_append_left _ (hn s h)
     ·exact List.mem_append_right _ h) h0 (by omega) hd
    rw[Cs.plL,Cs.pl];refine⟨?_,by simp[g2]⟩;dsimp only;rw[Pj];exact⟨⟨w1,w2,w3,w4,w5,g3⟩,g1⟩
  refine hA xs 0 c names' deep' (fun _ h=>h) (by omega) h6 hn h0 (by omega) (by omega) _ fun names'' deep'' g1 g2 g3=>?_
  obtain⟨g4,g5⟩:=hC cs [] (Tm.ats xs c).2.2 names'' deep'' (fun _ h=>h) q3 (fun s hs=>g1 s (hn s hs)) (by omega) (by omega) (by omega);have h8:=hall names'' .empty deep'' (Tm.ats xs c).1 0 (by omega) g3 (by omega);subst k7;exact R4 (by omega) (by omega) (by omega) (by rw[hlen,g5];exact h4) rfl h8 (fun _=>⟨by rw[g5];exact q1,by rw[g5];exact q2,g4⟩)
 ·rw[if_neg k7];have hk12:k=1∨k=2:=by omega
  rcases hk12 with rfl|rfl
  ·exact var_wrong (d:=d+1) hR2 rfl hw hn (by omega)
  ·have hnil:xs=[]∧cs=[]:=by
    unfold Zv at hmany;simp at hmany;exact hmany
   obtain⟨rfl,rfl⟩:=hnil;exact R4 (by omega) h2 h3 h4 h5 rfl (fun h=>by omega)
def RnEv (names:List ByteArray) (ps:Ps) (c:Int) (env env':Env):Prop:=∀s∈names,(∃i,1≤i∧i≤c∧nowP ps s=vNm i)∧envVal env' (nowP ps s)=envVal env s
structure RnOk (A:J6) (x:Fn):Prop where
 rt:x.body.Rt 25
 wrong:x.body.wrong A x.params 0=0
 bd:x.params.length+x.body.bd.length≤9999999
theorem bd_le:∀(d:Nat) (t:Tm),t.Rt d→t.bd.length+6≤7 * t.sz:=by
 intro d;induction d with
 |zero=>intro t h;exact h.elim
 |succ d ih=>
 intro t hR;obtain⟨k,n,a,b,vs,xs,cs⟩:=t;obtain⟨hk,hmany,_,hx,hc⟩:=hR;have hL:∀ys:List Tm,(∀y∈ys,y∈xs)→(Tm.bdL ys).length≤7 * Tm.szs ys:=by
  intro ys;induction ys with
  |nil=>intro _;simp[Tm.bdL]
  |cons y r ih2=>
   intro hm;have h1:=ih y (hx y (hm y (List.mem_cons_self ..)));have h2:=ih2 fun z hz=>hm z (List.mem_cons_of_mem _ hz)
   rw[Tm.bdL,List.length_append,Tm.szs];omega
 have hC:∀ys:List Cs,(∀y∈ys,y∈cs)→(Cs.bdL ys).length≤7 * Cs.szs ys:=by
  intro ys;induction ys with
  |nil=>intro _;simp[Cs.bdL]
  |cons y r ih2=>
   intro hm;have hy:=hc y (hm y (List.mem_cons_self ..));obtain⟨t,ws,y⟩:=y;have h1:=ih y hy.2;have h2:=ih2 fun z hz=>hm z (List.mem_cons_of_mem _ hz)
   have h3:ws.length≤6:=hy.1;rw[Cs.bdL,Cs.bd,List.length_append,List.length_append,Cs.szs,Cs.sz];omega
 have h1:=hL xs fun _ h=>h
 have h2:=hC cs fun _ h=>h
 rw[Tm.bd,List.length_append,List.length_append,Tm.sz];have h3:(if k=6 then[a]else[]).length≤1:=by split<;> simp
 omega
theorem Fn.rn_plen (f:Fn):f.rn.params.length=f.params.length:=Vw _ _
theorem Fn.Right.rnOk {A:J6} {x:Fn} (h:x.Right A) (hr:x.body.Rt 25):RnOk A x:=
 ⟨hr,h.wrong,by have:=bd_le 25 x.body hr;have:=h.sz;have:=h.params;omega⟩
theorem Fn.Right.rn {A:J6} {x:Fn} (h:x.Right A) (hr:x.body.Rt 25):x.rn.Right A:=by
 have hb:=(h.rnOk hr).bd;obtain⟨e1,e2⟩:=Fq x.params 0 (by omega) (by omega);have hp:x.rn.params=P6 0 x.params.length:=e1;have hpa:=h.params;have hsz:=h.sz;have hs:x.rn.body.sz≤x.body.sz:=Tm.rn_sz _ _ _;refine⟨h.name,by rw[hp];exact twB_of (seqV_nodup (by omega) _),by rw[hp];exact seqV_bad (by omega) (by omega),by rw[x.rn_plen];exact hpa,by omega,?_⟩;have hR:RnR x.params (Xx x.params 0) (x.params.zip (Xx x.params 0)):=by
  have:=RnR.more (names:=[]) (names':=[]) (ps:=[]) (fun s hs=>by cases hs) x.params (Xx x.params 0) (Vw _ _).symm;simpa using this
 exact rn_wrong A 25 x.body x.params x.rn.params _ (V7 x.params 0) 0 hr h.wrong (by omega) (by omega) hR
def NW (s:ByteArray):Prop:=∀i,s≠wNm i
def AgE (env env':Env):Prop:=∀s,NW s→envVal env' s=envVal env s
structure PlOk (A:J6) (x:Fn):Prop where
 rt:x.body.Rt 25
 wrong:x.body.wrong A x.params 0=0
 params:∀s∈x.params,NW s
 bd:∀s∈x.body.bd,NW s
 sz:(x.body.sz:Int)<9223372036854775807
theorem around_isP:∀(bs:Bs) (t:Tm),(∀b∈bs,b.2.isP=true)→t.isP=true→(around bs t).isP=true
 |[],t,_,h=>h
 |b::r,t,hb,h=>by
  have h1:=hb b (List.mem_cons_self ..);have h2:=around_isP r t (fun x hx=>hb x (List.mem_cons_of_mem _ hx)) h;simp[around,Tm.isP,Tm.isL,Cs.isL,h1,h2]
theorem isL_vars {k:Int} (hk:k≠6):∀l:List Tm,(∀x∈l,x.tk=1)→Tm.isL k l=true
 |[],_=>rfl
 |x::r,h=>by
  rw[Tm.isL,if_neg hk,isL_vars hk r fun y hy=>h y (List.mem_cons_of_mem _ hy),h x (List.mem_cons_self ..)];rfl
theorem ats_vars:∀(l:List Tm) (c:Int),∀x∈(Tm.ats l c).1,x.tk=1
 |[],c,x,hx=>by simp[Tm.ats]at hx
 |y::r,c,x,hx=>by
  rw[Tm.ats]at hx;by_cases h:y.tk=1
  ·rw[if_pos h]at hx;rcases List.mem_cons.1 hx with rfl|hx
   ·exact h
   ·exact ats_vars r _ x hx
  ·rw[if_neg h]at hx;rcases List.mem_cons.1 hx with rfl|hx
   ·rfl
   ·exact ats_vars r _ x hx
theorem pl_isP:∀(d:Nat) (t:Tm) (c:Int),t.Rt d→(t.pl c).1.isP=true:=by
 intro d;induction d with
 |zero=>intro t _ h;exact h.elim
 |succ d ih=>
 intro t c hR;obtain⟨k,n,a,b,vs,xs,cs⟩:=t;have hR':=hR;obtain⟨hk,hmany,_,hx,hc⟩:=hR';have hA:∀(ys:List Tm) (c:Int),(∀y∈ys,y∈xs)→∀b∈(Tm.ats ys c).2.1,b.2.isP=true:=by
  intro ys;induction ys with
  |nil=>intro c _ b hb;simp[Tm.ats]at hb
  |cons y r ih2=>
   intro c hm b hb;rw[Tm.ats]at hb;by_cases h:y.tk=1
   ·rw[if_pos h]at hb;exact ih2 _ (fun z hz=>hm z (List.mem_cons_of_mem _ hz)) b hb
   ·rw[if_neg h]at hb;rcases List.mem_cons.1 hb with rfl|hb
    ·exact ih y _ (hx y (hm y (List.mem_cons_self ..)))
    ·exact ih2 _ (fun z hz=>hm z (List.mem_cons_of_mem _ hz)) b hb
 have hL:∀(ys:List Tm) (c:Int),(∀y∈ys,y∈xs)→Tm.isL 6 (Tm.plL ys c).1=true:=by
  intro ys;induction ys with
  |nil=>intro c _;rfl
  |cons y r ih2=>
   intro c hm;rw[Tm.plL,Tm.isL,if_pos rfl,ih y _ (hx y (hm y (List.mem_cons_self ..))),ih2 _ fun z hz=>hm z (List.mem_cons_of_mem _ hz)];rfl
 have hC:∀(ys:List Cs) (c:Int),(∀y∈ys,y∈cs)→Cs.isL (Cs.plL ys c).1=true:=by
  intro ys;induction ys with
  |nil=>intro c _;rfl
  |cons y r ih2=>
   intro c hm;have hy:=hc y (hm y (List.mem_cons_self ..));obtain⟨t,ws,y⟩:=y;rw[Cs.plL,Cs.isL,ih2 _ fun z hz=>hm z (List.mem_cons_of_mem _ hz),Cs.pl,Cs.isP,ih y _ hy.2];rfl
 rw[Tm.pl];split
 ·rename_i h;refine around_isP _ _ (hA xs c fun _ h=>h) ?_;rw[Tm.isP,isL_vars (by omega) _ (ats_vars xs c)];rfl
 split
 ·rename_i h;rw[Tm.isP,hL xs c fun _ h=>h];rfl
 split
 ·rename_i h;refine around_isP _ _ (hA xs c fun _ h=>h) ?_;rw[Tm.isP,isL_vars (by omega) _ (ats_vars xs c),hC cs _ fun _ h=>h];rfl
 ·have h1:k=1∨k=2:=by omega
  have h2:xs=[]∧cs=[]:=by
   unfold Zv at hmany;rcases h1 with rfl|rfl<;> simpa using hmany
  obtain⟨rfl,rfl⟩:=h2;rfl
theorem seqV_nw {c:Int} {n:Nat}:∀s∈P6 c n,NW s:=fun s hs i=>by
 unfold P6 at hs;obtain⟨j,_,rfl⟩:=List.mem_map.1 hs;exact vNm_ne_wNm _ _
theorem Fn.Right.plOk {A:J6} {x:Fn} (h:x.Right A) (hr:x.body.Rt 25):PlOk A x.rn:=by
 have hb:=(h.rnOk hr).bd;obtain⟨e1,e2⟩:=Fq x.params 0 (by omega) (by omega);have hp:x.rn.params=P6 0 x.params.length:=e1;have hR:=h.rn hr;have hsz:=hR.sz;obtain⟨h3,_⟩:=bd_rn 25 x.body (x.params.zip (Xx x.params 0)) (V7 x.params 0) hr (by omega) (by omega);exact⟨x.rn_rt hr,hR.wrong,by rw[hp];exact seqV_nw,fun s hs=>seqV_nw s (h3.mem_iff.1 hs),by omega⟩
theorem pl_body {l:List Fn} (hl:P5 l) (h:Yv l=0):∀y∈l.map Fn.pl,y.body.Ok∧y.body.Rt 175∧y.body.isP=true:=fun y hy=>by
 obtain⟨x,hx,rfl⟩:=List.mem_map.1 hy;obtain⟨h1,h2,h3⟩:=Bw hl h x hx;exact⟨(x.pl_ok h1 h2 h3).1,pl_rt 25 x.rn.body 0 (x.rn_rt h2),pl_isP 25 x.rn.body 0 (x.rn_rt h2)⟩
def Ck (c:Int) (n:Nat):List ByteArray:=(List.range n).map fun(i:Nat)=>wNm (c+1+(i:Int))
theorem seqW_add (c:Int) (m n:Nat):Ck c (m+n)=Ck c m++Ck (c+m) n:=by
 unfold Ck;rw[List.range_add,List.map_append,List.map_map];congr 1;refine List.map_congr_left fun i _=>?_
 simp only[Function.comp];congr 1
 push_cast
 omega
theorem seqW_one (c:Int):Ck c 1=[wNm (c+1)]:=by simp[Ck]
theorem seqW_nodup {c:Int} (hc:0≤c) (n:Nat):(Ck c n).Nodup:=by
 unfold Ck;rw[List.nodup_iff_pairwise_ne,List.pairwise_map];refine List.Pairwise.imp ?_ List.nodup_range;intro a b hab e;have:=wNm_inj (by omega) (by omega) e;omega
def bsBd:Bs→List ByteArray
 |[]=>[]
 |b::r=>b.1::(b.2.bd++bsBd r)
theorem around_bd:∀(bs:Bs) (t:Tm),(around bs t).bd=bsBd bs++t.bd
 |[],t=>rfl
 |b::r,t=>by simp[around,Tm.bd,Tm.bdL,Cs.bdL,bsBd,around_bd r t]
theorem bdL_nil:∀l:List Tm,(∀x∈l,x.bd=[])→Tm.bdL l=[]
 |[],_=>rfl
 |x::r,h=>by rw[Tm.bdL,h x (List.mem_cons_self ..),bdL_nil r fun y hy=>h y (List.mem_cons_of_mem _ hy)];rfl
theorem var_bd {d:Nat} {t:Tm} (hR:t.Rt d) (h:t.tk=1):t.bd=[]:=by
 obtain⟨k,n,a,b,vs,xs,cs⟩:=t;change k=1 at h;subst h;cases d with
 |zero=>exact hR.elim
 |succ d=>
  obtain⟨_,hmany,_⟩:=hR;unfold Zv at hmany;simp at hmany;obtain⟨rfl,rfl⟩:=hmany;rfl
theorem perm_mid {α:Type} {x a b c d:List α} (h1:x.Perm (a++b)):(x++(c++d)).Perm ((a++c)++(b++d)):=by
 refine(h1.append_right _).trans ?_;rw[List.append_assoc,List.append_assoc];refine List.Perm.append_left a ?_;rw[←List.append_assoc,←List.append_assoc];exact(List.perm_append_comm).append_right d
theorem pl_bd:∀(d:Nat) (t:Tm) (c:Int),t.Rt d→0≤c→c+t.sz<9223372036854775807→∃n:Nat,(t.pl c).2=c+n∧(t.pl c).1.bd.Perm (t.bd++Ck c n):=by
 intro d;induction d with
 |zero=>intro t _ h;exact h.elim
 |succ d ih=>
 intro t c hR h0 hb;obtain⟨k,n,a,b,vs,xs,cs⟩:=t;have hR':=hR;obtain⟨hk,hmany,_,hx,hc⟩:=hR';have hA:∀(ys:List Tm) (c:Int),(∀y∈ys,y∈xs)→0≤c→c+Tm.szs ys+1<9223372036854775807→∃m:Nat,(Tm.ats ys c).2.2=c+m∧m≤Tm.szs ys∧(bsBd (Tm.ats ys c).2.1).Perm (Tm.bdL ys++Ck c m)∧(∀x∈(Tm.ats ys c).1,x.bd=[]):=by
  intro ys;induction ys with
  |nil=>intro c _ _ _;exact⟨0,by simp[Tm.ats],by simp,by simp[Tm.ats,bsBd,Tm.bdL,Ck],by simp[Tm.ats]⟩
  |cons y r ih2=>
   intro c hm h0 hb;rw[Tm.szs]at hb⊢;have hy:=hx y (hm y (List.mem_cons_self ..));have hp:=sz_pos y;rw[Tm.ats];by_cases h:y.tk=1
   ·rw[if_pos h];obtain⟨m,g1,g2,g3,g4⟩:=ih2 c (fun z hz=>hm z (List.mem_cons_of_mem _ hz)) h0 (by push_cast at hb;omega);refine⟨m,g1,by omega,by rw[Tm.bdL,var_bd hy h,List.nil_append];exact g3,fun x hx=>?_⟩;rcases List.mem_cons.1 hx with rfl|hx
    ·exact var_bd hy h
    ·exact g4 x hx
   ·rw[if_neg h];have hw:wr (c+1)=c+1:=wr_of (by omega) (by push_cast at hb;omega);rw[hw];have hcnt:=pl_cnt d y (c+1) hy (by omega) (by push_cast at hb;omega);obtain⟨m1,e1,e2⟩:=ih y (c+1) hy (by omega) (by push_cast at hb;omega);rw[e1]at hcnt⊢;obtain⟨m2,g1,g2,g3,g4⟩:=ih2 (c+1+m1) (fun z hz=>hm z (List.mem_cons_of_mem _ hz)) (by omega) (by push_cast at hb;omega);refine⟨1+m1+m2,by dsimp only;rw[g1];push_cast;omega,by omega,?_,fun x hx=>?_⟩
    ·dsimp only;rw[bsBd,Tm.bdL,seqW_add,seqW_add,seqW_one];have h1:=perm_mid (c:=Tm.bdL r) (d:=Ck (c+1+m1) m2) e2;refine(List.Perm.cons _ (((List.Perm.refl _).append g3).trans h1)).trans ?_;rw[show c+((1+m1:Nat):Int)=c+1+m1 from by push_cast;omega,show c+((1:Nat):Int)=c+1 from by push_cast;omega];rw[List.append_assoc [wNm (c+1)]];exact(List.perm_middle (a:=wNm (c+1)) (l₁:=y.bd++Tm.bdL r) (l₂:=Ck (c+1) m1++Ck (c+1+m1) m2)).symm
    ·rcases List.mem_cons.1 hx with rfl|hx
     ·rfl
     ·exact g4 x hx
 have hL:∀(ys:List Tm) (c:Int),(∀y∈ys,y∈xs)→0≤c→c+Tm.szs ys<9223372036854775807→∃m:Nat,(Tm.plL ys c).2=c+m∧m≤Tm.szs ys∧(Tm.bdL (Tm.plL ys c).1).Perm (Tm.bdL ys++Ck c m):=by
  intro ys;induction ys with
  |nil=>intro c _ _ _;exact⟨0,by simp[Tm.plL],by simp,by simp[Tm.plL,Tm.bdL,Ck]⟩
  |cons y r ih2=>
   intro c hm h0 hb;rw[Tm.szs]at hb⊢;have hy:=hx y (hm y (List.mem_cons_self ..));have hcnt:=pl_cnt d y c hy (by omega) (by push_cast at hb;omega);obtain⟨m1,e1,e2⟩:=ih y c hy (by omega) (by push_cast at hb;omega);rw[Tm.plL];rw[e1]at hcnt⊢;obtain⟨m2,g1,g2,g3⟩:=ih2 (c+m1) (fun z hz=>hm z (List.mem_cons_of_mem _ hz)) (by omega) (by push_cast at hb;omega);refine⟨m1+m2,by dsimp only;rw[g1];push_cast;omega,by omega,?_⟩;dsimp only;rw[Tm.bdL,Tm.bdL,seqW_add];exact((List.Perm.refl _).append g3).trans (perm_mid e2)
 have hC:∀(ys:List Cs) (c:Int),(∀y∈ys,y∈cs)→0≤c→c+Cs.szs ys<9223372036854775807→∃m:Nat,(Cs.plL ys c).2=c+m∧m≤Cs.szs ys∧(Cs.bdL (Cs.plL ys c).1).Perm (Cs.bdL ys++Ck c m):=by
  intro ys;induction ys with
  |nil=>intro c _ _ _;exact⟨0,by simp[Cs.plL],by simp,by simp[Cs.plL,Cs.bdL,Ck]⟩
  |cons y r ih2=>
   intro c hm h0 hb;have hy:=hc y (hm y (List.mem_cons_self ..));obtain⟨t,ws,y⟩:=y;have hy:=hy.2;change y.Rt d at hy;rw[Cs.szs,Cs.sz]at hb⊢;have hcnt:=pl_cnt d y c hy (by omega) (by push_cast at hb;omega);obtain⟨m1,e1,e2⟩:=ih y c hy (by omega) (by push_cast at hb;omega);rw[Cs.plL,Cs.pl];dsimp only;rw[e1]at hcnt⊢;obtain⟨m2,g1,g2,g3⟩:=ih2 (c+m1) (fun z hz=>hm z (List.mem_cons_of_mem _ hz)) (by omega) (by push_cast at hb;omega);refine⟨m1+m2,by rw[g1];push_cast;omega,by omega,?_⟩;rw[Cs.bdL,Cs.bdL,Cs.bd,Cs.bd,seqW_add];refine((List.Perm.refl _).append g3).trans (perm_mid ?_);rw[List.append_assoc];exact(List.Perm.refl _).append e2
 have hs:((Tm.mk k n a b vs xs cs).sz:Int)=1+Tm.szs xs+Cs.szs cs:=by rw[Tm.sz];push_cast;omega
 rw[hs]at hb;rw[Tm.pl];split
 ·rename_i h;have hcs:cs=[]:=by
   unfold Zv at hmany;rcases h with rfl|rfl|rfl<;> simp at hmany<;> first|exact hmany.2|(cases cs with|nil=>rfl|cons _ _=>simp at hmany)
  subst hcs;obtain⟨m,g1,g2,g3,g4⟩:=hA xs c (fun _ h=>h) h0 (by omega);refine⟨m,g1,?_⟩;dsimp only;rw[around_bd,Tm.bd,Tm.bd,if_neg (by omega),bdL_nil _ g4];simpa[Cs.bdL]using g3
 split
 ·rename_i h;subst h;have hcs:cs=[]:=by
   unfold Zv at hmany;simp at hmany;exact hmany.2
  subst hcs;obtain⟨m,g1,g2,g3⟩:=hL xs c (fun _ h=>h) h0 (by omega);refine⟨m,g1,?_⟩;dsimp only;rw[Tm.bd,Tm.bd,if_pos rfl,Cs.bdL,List.append_nil,List.append_nil,List.append_assoc];exact(List.Perm.refl _).append g3
 split
 ·rename_i h;subst h;obtain⟨m,g1,g2,g3,g4⟩:=hA xs c (fun _ h=>h) h0 (by omega);rw[g1];obtain⟨m2,f1,f2,f3⟩:=hC cs (c+m) (fun _ h=>h) (by omega) (by omega);refine⟨m+m2,by dsimp only;rw[f1];push_cast;omega,?_⟩;dsimp only;rw[around_bd,Tm.bd,Tm.bd,if_neg (by omega),if_neg (by omega),bdL_nil _ g4,List.nil_append,List.nil_append,List.nil_append,seqW_add];exact((List.Perm.refl _).append f3).trans (perm_mid g3)
 ·exact⟨0,by simp,by simp[Ck]⟩
theorem Fn.Right.pl_bd {A:J6} {x:Fn} (h:x.Right A) (hr:x.body.Rt 25):x.pl.bd.Nodup:=by
 have hO:=h.plOk hr;have hn:=x.rn_bd hr (by have:=bd_le 25 x.body hr;have:=h.sz;have:=h.params;unfold Fn.bd;rw[List.length_append];omega);obtain⟨m,_,hp⟩:=Go.Proofs.YtlbcipohiepjmaaDoor.pl_bd 25 x.rn.body 0 (x.rn_rt hr) (by omega) (by have:=hO.sz;omega);have hp2:x.pl.bd.Perm (x.rn.bd++Ck 0 m):=by
  unfold Fn.bd;rw[List.append_assoc];exact(List.Perm.refl x.rn.params).append hp
 refine hp2.nodup_iff.2 (List.nodup_append.2 ⟨hn,seqW_nodup (by omega) m,fun s hs t ht e=>?_⟩);have hw:NW s:=by
  unfold Fn.bd at hs;rcases List.mem_append.1 hs with hs|hs
  ·exact hO.params s hs
  ·exact hO.bd s hs
 unfold Ck at ht;obtain⟨j,_,rfl⟩:=List.mem_map.1 ht;exact hw _ e
theorem Fn.Right.pl_free {A:J6} {x:Fn} (h:x.Right A) (hr:x.body.Rt 25):∀s∈x.pl.body.free,s∈x.pl.params:=by
 have hR:=h.rn hr;have hsz:=hR.sz;exact wrong_free A _ x.pl.body x.pl.params (-151) (Nat.lt_succ_self _) (pl_wrong A 25 x.rn.body x.rn.params x.rn.params 0 0 (-151) (x.rn_rt hr) hR.wrong (fun _ h=>h) (by omega) (by omega) (by omega))
end Go.Proofs.YtlbcipohiepjmaaDoor
namespace Go.Proofs.YtlbcipohiepjmaaDoor
open Classical Go.RowKit
theorem left_of {s:LS} (h:s.Ok) (hc:∀n,s.c n=0) (ht:s.tk=[]):s.left=false:=by
 unfold LS.left;rw[ht,Bool.or_eq_false_iff];refine⟨List.any_eq_false.2 fun p hp=>?_,rfl⟩;have h1:=mem_lk h.kc (s:=p.1) (v:=p.2) hp;have h2:=hc p.1;unfold LS.c at h2;rw[h1]at h2;simp at h2;simp[h2]
theorem use_of {s:LS} {n:ByteArray} (h:1≤s.c n):(s.Ww n).1=0:=by
 unfold LS.Ww;unfold LS.c at h;cases hk:lkA s.ct n with
 |none=>rw[hk]at h;simp at h
 |some k=>
  rw[hk]at h;dsimp only;rw[if_neg (by simp at h;omega)]
theorem useL_of:∀(xs:List Tm) {s:LS},s.Ok→(∀x∈xs,x.tk=1)→(∀m,occ xs m≤s.c m)→(s.R5 xs).1=0
 |[],s,_,_,_=>rfl
 |x::r,s,hs,hx,hc=>by
  have h1:=hc x.nm;rw[occ_cons,if_pos rfl]at h1;have h0:0≤occ r x.nm:=by unfold occ;omega
  have hu:=use_of (s:=s) (n:=x.nm) (by omega);obtain⟨g1,g2,-⟩:=LS.I7 hs hu;rw[LS.R5,if_neg (by simpa using hx x (by simp)),if_neg (by simpa using hu)];refine useL_of r g1 (fun y hy=>hx y (by simp[hy])) fun m=>?_
  have:=hc m;rw[occ_cons]at this;rw[g2];split at this<;> rename_i e
  ·rw[if_pos e];omega
  ·rw[if_neg e];omega
theorem lin8_of {n:Int} {a b:ByteArray} {vs:List ByteArray} {x:Tm} {cs:List Cs} {s:LS} (h:s.there a=true) (h2:x.lin (s.inc a)=0):(Tm.mk 8 n a b vs [x] cs).lin s=0:=by
 rw[Tm.lin,if_neg (by omega),if_neg (by omega),if_neg (by omega),if_neg (by omega),if_neg (by omega),if_neg (by omega),if_pos (by omega),if_neg (by simp),if_pos rfl,if_pos h];exact K9 h2
theorem lin9_of {n:Int} {a b:ByteArray} {vs:List ByteArray} {x:Tm} {cs:List Cs} {s:LS} (h:(s.Ww a).1=0) (h2:x.lin (s.Ww a).2=0):(Tm.mk 9 n a b vs [x] cs).lin s=0:=by
 rw[Tm.lin,if_neg (by omega),if_neg (by omega),if_neg (by omega),if_neg (by omega),if_neg (by omega),if_neg (by omega),if_pos (by omega),if_neg (by simp),if_neg (by omega),if_pos rfl,if_neg (by simpa using h)];exact K9 h2
theorem lin6_of {n:Int} {a b:ByteArray} {vs:List ByteArray} {x y:Tm} {cs:List Cs} {s:LS} (h:lkA s.ct a=none) (h2:x.lin (s.fst x)=0) (h3:y.lin { s.rst x with ct:=U1 (s.rst x).ct a 1 }=0):(Tm.mk 6 n a b vs [x,y] cs).lin s=0:=by
 rw[Tm.lin,if_neg (by omega),if_neg (by omega),if_neg (by omega),if_neg (by omega),if_pos rfl,if_neg (by simp),if_neg (by simp[h])];exact linL_two' h2 h3
theorem lin7_of {n:Int} {a b:ByteArray} {vs:List ByteArray} {x:Tm} {cs:List Cs} {s:LS} (h1:x.tk=1) (h:1≤s.c x.nm) (h2:∀c∈cs,c.lin s x.nm=0):(Tm.mk 7 n a b vs [x] cs).lin s=0:=by
 rw[Tm.lin,if_neg (by omega),if_neg (by omega),if_neg (by omega),if_neg (by omega),if_neg (by omega),if_pos rfl,if_neg (by simp[hdT0,h1]),if_neg (show¬s.c (hdT0 [x]).nm<1 from fun hh=>by have hh:s.c x.nm<1:=hh;omega)];exact clinL_all h2
theorem cnt9_lin:∀(l:List ByteArray) (t:Tm) {s:LS},s.Ok→l.Nodup→(∀n∈l,1≤s.c n)→∃s':LS,s'.Ok∧(∀m,s'.c m=if m∈l then s.c m-1 else s.c m)∧s'.tk=s.tk∧s'.inn=s.inn∧(∀m,(lkA s'.ct m).isSome=(lkA s.ct m).isSome)∧(t.lin s'=0→(cnt 9 l t).lin s=0)
 |[],t,s,hs,_,_=>⟨s,hs,fun m=>by simp,rfl,rfl,fun m=>rfl,fun h=>h⟩
 |a::r,t,s,hs,hn,hc=>by
  rw[List.nodup_cons]at hn;have hu:=use_of (hc a (by simp));obtain⟨g1,g2,g3,g4,g5,-⟩:=LS.I7 hs hu;obtain⟨s',k1,k2,k3,k4,k5,k6⟩:=cnt9_lin r t g1 hn.2 fun n hm=>by
   rw[g2,if_neg (fun e=>hn.1 (by rw[e];exact hm))];exact hc n (by simp[hm])
  refine⟨s',k1,fun m=>?_,k3.trans g3,k4.trans g4,fun m=>(k5 m).trans (g5 m),fun h=>?_⟩
  ·rw[k2,g2];by_cases e:a=m
   ·subst e;rw[if_neg hn.1,if_pos rfl,if_pos (by simp)]
   ·rw[if_neg e];by_cases hm:m∈r
    ·rw[if_pos hm,if_pos (by simp[hm])]
    ·rw[if_neg hm,if_neg (by simp[hm];exact fun h=>e h.symm)]
  ·rw[cnt];exact lin9_of hu (k6 h)
theorem there_inc {s:LS} (hs:s.Ok) {n:ByteArray} (a:ByteArray) (h:s.there n=true):(s.inc a).there n=true:=by
 have hm:∀m,s.c m≤(s.inc a).c m:=fun m=>by
  rw[(LS.inc_ok hs a).2];split<;> omega
 unfold LS.there at h⊢;have hi:(s.inc a).inn=s.inn:=rfl;rw[hi];rw[Bool.or_eq_true]at h⊢;rcases h with h|h
 ·left;have:=of_decide_eq_true h;have:=hm n;exact decide_eq_true (by omega)
 ·right;cases hk:lkA s.inn n with
  |none=>rw[hk]at h;simp at h
  |some up=>
   rw[hk]at h;dsimp only at h⊢;have:=of_decide_eq_true h;have:=hm up;exact decide_eq_true (by omega)
theorem cnt8_lin:∀(l:List ByteArray) (t:Tm) {s:LS},s.Ok→(∀n∈l,s.there n=true)→∃s':LS,s'.Ok∧(∀m,s'.c m=s.c m+occB l m)∧s'.tk=s.tk∧s'.inn=s.inn∧(∀m,(lkA s'.ct m).isSome=((lkA s.ct m).isSome||decide (m∈l)))∧(t.lin s'=0→(cnt 8 l t).lin s=0)
 |[],t,s,hs,_=>⟨s,hs,fun m=>by simp[occB],rfl,rfl,fun m=>by simp,fun h=>h⟩
 |a::r,t,s,hs,hc=>by
  obtain⟨g1,g2⟩:=LS.inc_ok hs a;obtain⟨s',k1,k2,k3,k4,k5,k6⟩:=cnt8_lin r t g1 fun n hm=>there_inc hs a (hc n (by simp[hm]))
  refine⟨s',k1,fun m=>?_,k3,k4,fun m=>?_,fun h=>?_⟩
  ·rw[k2,g2,A7];split<;> omega
  ·rw[k5];unfold LS.inc;dsimp only;rw[Kk];by_cases e:a=m
   ·subst e;simp
   ·rw[if_neg e];have e':m≠a:=fun h=>e h.symm
    simp[e']
  ·rw[cnt];exact lin8_of (hc a (by simp)) (k6 h)
theorem Gv {l:List ByteArray} (h:l.Nodup) (n:ByteArray):occB l n=if n∈l then 1 else 0:=by
 induction l with
 |nil=>simp[occB]
 |cons a r ih=>
  rw[List.nodup_cons]at h;rw[A7,ih h.2];by_cases e:a=n
  ·subst e;rw[if_pos rfl,if_neg h.1,if_pos (by simp)];rfl
  ·rw[if_neg e];have e':n≠a:=fun h=>e h.symm
   simp[e']
theorem moreN_occ:∀(xs:List Tm) (had:List ByteArray) (n:ByteArray),occB (U4 had xs) n=occ xs n-if n ∉ had∧∃x∈xs,x.nm=n then 1 else 0
 |[],had,n=>by simp[U4,occB,occ]
 |x::r,had,n=>by
  have ih:=moreN_occ r (had++[x.nm]) n;rw[U4,occ_cons];by_cases hb:hasB had x.nm=true
  ·have hm:=X4.1 hb;rw[if_pos hb,A7,ih];by_cases e:x.nm=n
   ·subst e;rw[if_pos rfl,if_neg (fun h=>h.1 (by simp)),if_neg (fun h=>h.1 hm)];omega
   ·rw[if_neg e];have e1:(n ∉ had++[x.nm]∧∃y∈r,y.nm=n)↔(n ∉ had∧∃y∈x::r,y.nm=n):=by
     have e':n≠x.nm:=fun h=>e h.symm
     simp[e,e']
    by_cases h:n ∉ had++[x.nm]∧∃y∈r,y.nm=n
    ·rw[if_pos h,if_pos (e1.1 h)];omega
    ·rw[if_neg h,if_neg (fun hh=>h (e1.2 hh))];omega
  ·rw[if_neg hb,ih];have hm:x.nm ∉ had:=fun h=>hb (X4.2 h)
   by_cases e:x.nm=n
   ·subst e;rw[if_pos rfl,if_neg (fun h=>h.1 (by simp)),if_pos ⟨hm,x,by simp,rfl⟩];omega
   ·rw[if_neg e];have e1:(n ∉ had++[x.nm]∧∃y∈r,y.nm=n)↔(n ∉ had∧∃y∈x::r,y.nm=n):=by
     have e':n≠x.nm:=fun h=>e h.symm
     simp[e,e']
    by_cases h:n ∉ had++[x.nm]∧∃y∈r,y.nm=n
    ·rw[if_pos h,if_pos (e1.1 h)];omega
    ·rw[if_neg h,if_neg (fun hh=>h (e1.2 hh))];omega
theorem occ_zero {xs:List Tm} {n:ByteArray} (h:¬∃x∈xs,x.nm=n):occ xs n=0:=by
 unfold occ;rw[List.filter_eq_nil_iff.2 fun x hx=>by simp;exact fun e=>h ⟨x,hx,e⟩];rfl
theorem newL_of (nm:ByteArray):∀(ws:List ByteArray) {s:LS},ws.Nodup→(∀v∈ws,lkA s.ct v=none)→(s.D6 nm ws).1=0∧(∀m,(lkA (s.D6 nm ws).2.ct m).isSome=((lkA s.ct m).isSome||decide (m∈ws)))∧(∀m,lkA (s.D6 nm ws).2.inn m=if m∈ws then some nm else lkA s.inn m)
 |[],s,_,_=>⟨rfl,fun m=>by simp[LS.D6],fun m=>by simp[LS.D6]⟩
 |v::r,s,hn,hk=>by
  rw[List.nodup_cons]at hn;rw[LS.D6,if_neg (by rw[hk v (by simp)];simp)];obtain⟨k1,k2,k3⟩:=newL_of nm r (s:={ s with ct:=U1 s.ct v 0,inn:=U1 s.inn v nm }) hn.2 fun u hu=>by
   dsimp only;rw[Kk,if_neg (fun e=>hn.1 (by rw[e];exact hu))];exact hk u (by simp[hu])
  refine⟨k1,fun m=>?_,fun m=>?_⟩
  ·rw[k2];dsimp only;rw[Kk];by_cases e:v=m
   ·subst e;simp
   ·rw[if_neg e];have e':m≠v:=fun h=>e h.symm
    simp[e']
  ·rw[k3];dsimp only;rw[Kk];by_cases hm:m∈r
   ·rw[if_pos hm,if_pos (by simp[hm])]
   ·rw[if_neg hm];by_cases e:v=m
    ·subst e;rw[if_pos rfl,if_pos (by simp)]
    ·rw[if_neg e,if_neg (by simp[hm];exact fun h=>e h.symm)]
theorem known_of {s:LS} {n:ByteArray} (h:s.c n≠0):(lkA s.ct n).isSome=true:=by
 unfold LS.c at h;cases hk:lkA s.ct n with
 |none=>rw[hk]at h;simp at h
 |some k=>rfl
theorem ow_lin:∀(d:Nat) (t:Tm) (has:List ByteArray) (s:LS),t.Rt d→t.isP=true→t.bd.Nodup→(∀n∈t.bd,lkA s.ct n=none)→has.Nodup→(∀n∈t.free,n∈has)→s.Ok→(∀n,s.c n=if n∈has then 1 else 0)→s.tk=[]→(t.ow has).lin s=0:=by
 intro d;induction d with
 |zero=>intro t _ _ h;exact h.elim
 |succ d ih=>
  intro t has s hR hP hbd hun hhn hfree hs hc htk;obtain⟨k,n0,a,b,vs,xs,cs⟩:=t
  -- drops
  have hgn:(woN has (Tm.mk k n0 a b vs xs cs).free).Nodup:=hhn.sublist List.filter_sublist;obtain⟨s1,o1,c1,t1,i1,k1,step⟩:=cnt9_lin (woN has (Tm.mk k n0 a b vs xs cs).free) (if k=3∨k=4∨k=5 then cnt 8 (U4 [] xs) (.mk k n0 a b vs xs cs)
   else if k=6 then cnt 8 (letD a (inN has (Tm.mk k n0 a b vs xs cs).free) xs) (.mk 6 0 a .empty [] (Tm.owZ xs (letH a (inN has (Tm.mk k n0 a b vs xs cs).free) xs)) [])
   else if k=7 then .mk 7 0 .empty .empty [] xs (Cs.owL cs (inN has (Tm.mk k n0 a b vs xs cs).free) (nmH xs))
   else .mk k n0 a b vs xs cs) hs hgn fun n hn=>by
   rw[hc,if_pos (X5.1 hn).1];omega
  have hc1:∀m,s1.c m=if m∈(Tm.mk k n0 a b vs xs cs).free then 1 else 0:=fun m=>by
   rw[c1,hc];by_cases hf:m∈(Tm.mk k n0 a b vs xs cs).free
   ·rw[if_neg (fun h=>(X5.1 h).2 hf),if_pos (hfree m hf),if_pos hf]
   ·rw[if_neg hf];by_cases hh:m∈has
    ·rw[if_pos (X5.2 ⟨hh,hf⟩),if_pos hh];rfl
    ·rw[if_neg (fun h=>hh (X5.1 h).1),if_neg hh]
  have hun1:∀n∈(Tm.mk k n0 a b vs xs cs).bd,lkA s1.ct n=none:=fun n hn=>by
   have:=k1 n;rw[hun n hn]at this;simpa using this
  have htk1:s1.tk=[]:=t1.trans htk;have hR':=hR;obtain⟨hk,-,-,hx,hcR⟩:=hR;have hP':=hP;rw[Tm.isP,Bool.and_eq_true]at hP;obtain⟨hP1,hP2⟩:=hP;rw[Tm.ow];refine step ?_;clear step;by_cases h6:k=6
  ·subst h6;obtain⟨x,y,rfl,rfl,hxR,hyR⟩:=rt_two hR';have hPx:=Oq hP1 x (by simp);have hPy:=Oq hP1 y (by simp);have hbd':(Tm.mk 6 n0 a b vs [x,y] []).bd=a::(x.bd++y.bd):=by rw[Tm.bd];simp[Tm.bdL,Cs.bdL]
   have hfr:∀n,n∈(Tm.mk 6 n0 a b vs [x,y] []).free↔n∈x.free∨(n∈y.free∧n≠a):=fun n=>by
    rw[Tm.free,if_neg (by omega),if_pos ⟨rfl,rfl⟩,Tm.freeL,Tm.freeB,Nz,Nz,X5];simp
   rw[hbd']at hbd hun1;rw[List.nodup_cons,List.nodup_append]at hbd;obtain⟨hna,hbx,hby,hbxy⟩:=hbd;rw[if_neg (by omega),if_pos rfl];generalize hF:(Tm.mk 6 n0 a b vs [x,y] []).free=F at *;obtain⟨O,hO⟩:∃O,O=inN has F:=⟨_,rfl⟩
   rw[←hO];have hOm:∀n,n∈O↔n∈F:=fun n=>by
    rw[hO,K3];exact⟨fun h=>h.2,fun h=>⟨hfree n h,h⟩⟩
   have hOn:O.Nodup:=by rw[hO];exact hhn.sublist List.filter_sublist
   rw[letD,letH,Tm.owZ,Tm.owZ,Tm.owZ];simp only[List.headD_cons,List.tail_cons];obtain⟨A,hA⟩:∃A,A=inN O x.free:=⟨_,rfl⟩
   obtain⟨B,hB⟩:∃B,B=inN O (woN y.free [a]):=⟨_,rfl⟩
   obtain⟨D,hD⟩:∃D,D=inN A (woN y.free [a]):=⟨_,rfl⟩
   rw[←hA,←hB,←hD];have hAm:∀n,n∈A↔n∈x.free:=fun n=>by
    rw[hA,K3,hOm,hfr];exact⟨fun h=>h.2,fun h=>⟨.inl h,h⟩⟩
   have hBm:∀n,n∈B↔n∈y.free∧n≠a:=fun n=>by
    rw[hB,K3,hOm,hfr,X5];simp;exact fun h1 h2=>.inr ⟨h1,h2⟩
   have hDm:∀n,n∈D↔n∈A∧n∈B:=fun n=>by
    rw[hD,K3,hBm,X5];simp
   have hAn:A.Nodup:=by rw[hA];exact hOn.sublist List.filter_sublist
   have hBn:B.Nodup:=by rw[hB];exact hOn.sublist List.filter_sublist
   have hDn:D.Nodup:=by rw[hD];exact hAn.sublist List.filter_sublist
   have hkn:∀n∈F,(lkA s1.ct n).isSome=true:=fun n hn=>known_of (by rw[hc1,if_pos hn];omega)
   obtain⟨s2,o2,c2,t2,i2,k2,step⟩:=cnt8_lin D (.mk 6 0 a .empty [] [x.ow A,y.ow (B++[a])] []) o1 fun n hn=>by
    have:n∈F:=by rw[hDm,hAm]at hn;exact(hfr n).2 (.inl hn.1)
    unfold LS.there;rw[hc1,if_pos this];rfl
   refine step ?_;clear step;have hun2:∀n,n∈a::(x.bd++y.bd)→lkA s2.ct n=none:=fun n hn=>by
    have h1:=k2 n;have h2:=hun1 n hn;rw[h2]at h1;have h3:n ∉ D:=fun h=>by
     rw[hDm,hAm]at h;have:=hkn n ((hfr n).2 (.inl h.1));rw[h2]at this;simp at this
    simpa[h3]using h1
   have hc2:∀m,s2.c m=(if m∈F then 1 else 0)+if m∈D then 1 else 0:=fun m=>by rw[c2,hc1,Gv hDn]
   obtain⟨x1,x2,x3,x4,x5,x6,x7⟩:=st_all d x A hxR hPx;have hask:∀n,lkA s2.ct n≠none→((x.ow A).askN n=true↔n∈A):=fun n hk=>by
    unfold Tm.askN;rw[Bool.and_eq_true,X4,x3];have hnb:n ∉ x.bd:=fun h=>hk (hun2 n (by simp[h]))
    refine⟨fun⟨h1,_⟩=>?_,fun h=>⟨x1 n (x4 n ((hAm n).1 h)),by rw[Nv.2 hnb];rfl⟩⟩;rcases x2 n h1 with h|h|h
    ·rcases x5 n h with h|h
     ·exact(hAm n).2 h
     ·exact absurd h hnb
    ·exact h
    ·exact absurd h hnb
   have hcn:∀n,lkA s2.ct n=none→s2.c n=0:=fun n h=>by unfold LS.c;rw[h];rfl
   have hAF:∀n∈A,n∈F:=fun n h=>(hfr n).2 (.inl ((hAm n).1 h))
   refine lin6_of (hun2 a (by simp)) ?_ ?_
   ·refine ih x A _ hxR hPx hbx (fun n hn=>?_) hAn (fun n h=>(hAm n).2 h) (LS.fst_ok o2 _) (fun n=>?_) ?_
    ·unfold LS.fst;dsimp only;rw[O7 (fun _ k=>min1 k),U5,hun2 n (by simp[hn])];split<;> rfl
    ·rw[LS.fst_c];by_cases hk:lkA s2.ct n=none
     ·have h0:=hcn n hk;rw[h0];have:n ∉ A:=fun h=>by
       have:=hc2 n;rw[h0,if_pos (hAF n h)]at this;split at this<;> omega
      rw[if_neg this];split<;> rfl
     ·by_cases h:n∈A
      ·rw[if_pos ((hask n hk).2 h),if_pos h,hc2,if_pos (hAF n h)];unfold min1;split<;> split<;> omega
      ·rw[if_neg (fun hh=>h ((hask n hk).1 hh)),if_neg h]
    ·unfold LS.fst;dsimp only;rw[t2,htk1];rfl
   ·refine ih y (B++[a]) _ hyR hPy hby (fun n hn=>?_) ?_ (fun n h=>?_) (LS.put_ok (LS.rst_ok o2 _) a (by omega)) (fun n=>?_) ?_
    ·dsimp only;have hne:a≠n:=fun e=>hna (by subst e;simp[hn])
     rw[Kk,if_neg hne];unfold LS.rst;dsimp only;rw[O7 (fun k v=>if (x.ow A).askN k then v-min1 v else v),hun2 n (by simp[hn])];rfl
    ·rw[List.nodup_append];refine⟨hBn,by simp,fun u hu v hv=>?_⟩;simp only[List.mem_singleton]at hv;subst hv;exact((hBm u).1 hu).2
    ·by_cases e:n=a
     ·simp[e]
     ·simp only[List.mem_append];exact .inl ((hBm n).2 ⟨h,e⟩)
    ·rw[LS.c_put];by_cases e:a=n
     ·subst e;rw[if_pos rfl,if_pos (by simp)]
     ·rw[if_neg e,LS.rst_c];have e':n≠a:=fun h=>e h.symm
      have hmem:n∈B++[a]↔n∈B:=by simp[e']
      by_cases hk:lkA s2.ct n=none
      ·have h0:=hcn n hk;have h1:=hc2 n;rw[h0]at h1;have:n ∉ B:=fun h=>by
        have:n∈F:=(hfr n).2 (.inr ((hBm n).1 h));rw[if_pos this]at h1;split at h1<;> omega
       rw[if_neg (fun hh=>this (hmem.1 hh)),h0];split<;> rfl
      ·have h1:=hc2 n;by_cases hA':n∈A
       ·rw[if_pos ((hask n hk).2 hA'),h1,if_pos (hAF n hA')];by_cases hB':n∈B
        ·rw[if_pos ((hDm n).2 ⟨hA',hB'⟩),if_pos (hmem.2 hB')];rfl
        ·rw[if_neg (fun h=>hB' ((hDm n).1 h).2),if_neg (fun h=>hB' (hmem.1 h))];rfl
       ·rw[if_neg (fun h=>hA' ((hask n hk).1 h)),h1,if_neg (fun h=>hA' ((hDm n).1 h).1)];by_cases hB':n∈B
        ·rw[if_pos ((hfr n).2 (.inr ((hBm n).1 hB'))),if_pos (hmem.2 hB')];rfl
        ·have:n ∉ F:=fun h=>by
          rcases(hfr n).1 h with h|h
          ·exact hA' ((hAm n).2 h)
          ·exact hB' ((hBm n).2 h)
         rw[if_neg this,if_neg (fun h=>hB' (hmem.1 h))];rfl
    ·show(s2.rst (x.ow A)).tk=[]
     unfold LS.rst;dsimp only;rw[t2,htk1];rfl
  ·have hvar:=isL_var h6 hP1;have hfx:∀n,(∃x∈xs,n∈x.free)↔∃x∈xs,x.nm=n:=fun n=>by
    refine⟨fun⟨x,h1,h2⟩=>⟨x,h1,?_⟩,fun⟨x,h1,h2⟩=>⟨x,h1,?_⟩⟩
    ·rw[(rt_var (hx x h1) (hvar x h1)).2.1]at h2;exact(List.mem_singleton.1 h2).symm
    ·rw[(rt_var (hx x h1) (hvar x h1)).2.1];simp[h2]
   have hfr:∀n,n∈(Tm.mk k n0 a b vs xs cs).free↔(k=1∧n=a)∨(∃x∈xs,x.nm=n)∨∃c∈cs,n∈c.Mw:=fun n=>by
    rw[Tm.free];by_cases e:k=1
    ·subst e;rw[if_pos rfl,rt_none hR' (.inl rfl),rt_nocs hR' (by omega)];simp
    ·rw[if_neg e,if_neg (by omega),if_neg (by omega),O3,mem_frees,hfx];simp[e]
   by_cases h7:k=7
   ·subst h7;obtain⟨x0,rfl,hx0⟩:=rt_one hR';have hx1:=hvar x0 (by simp);rw[if_neg (by omega),if_neg (by omega),if_pos rfl,owL_eq];have hnm:nmH [x0]=x0.nm:=rfl;rw[hnm];generalize hF:(Tm.mk 7 n0 a b vs [x0] cs).free=F at *;obtain⟨O,hO⟩:∃O,O=inN has F:=⟨_,rfl⟩
    rw[←hO];have hOm:∀n,n∈O↔n∈F:=fun n=>by
     rw[hO,K3];exact⟨fun h=>h.2,fun h=>⟨hfree n h,h⟩⟩
    have hOn:O.Nodup:=by rw[hO];exact hhn.sublist List.filter_sublist
    have hnF:x0.nm∈F:=(hfr _).2 (.inr (.inl ⟨x0,by simp,rfl⟩));have hkn:∀n∈F,lkA s1.ct n≠none:=fun n hn h=>by
     have:=known_of (s:=s1) (n:=n) (by rw[hc1,if_pos hn];omega);rw[h]at this;simp at this
    have hbd':(Tm.mk 7 n0 a b vs [x0] cs).bd=Cs.bdL cs:=by
     rw[Tm.bd,if_neg (by omega),Tm.bdL,Tm.bdL,(rt_var hx0 hx1).2.2.1];simp
    rw[hbd']at hbd hun1;refine lin7_of hx1 (by rw[hc1,if_pos hnF];omega) fun c hcm=>?_
    obtain⟨c0,hc0,rfl⟩:=List.mem_map.1 hcm;obtain⟨tg,ws,y⟩:=c0;have hyR:y.Rt d:=(hcR _ hc0).2;have hyP:=cisL_all hP2 tg ws y hc0;have hb1:(ws++y.bd).Nodup:=by
     have:∀l:List Cs,(Cs.bdL l).Nodup→Cs.mk tg ws y∈l→(ws++y.bd).Nodup:=by
      intro l;induction l with
      |nil=>intro _ h;cases h
      |cons c r ih2=>
       intro h1 h2;rw[Cs.bdL,List.nodup_append]at h1;rcases List.mem_cons.1 h2 with e|h2
       ·subst e;exact h1.1
       ·exact ih2 h1.2.1 h2
     exact this cs hbd hc0
    have hb2:∀n∈ws++y.bd,lkA s1.ct n=none:=fun n hn=>hun1 n (cbdL_mem.2 ⟨_,hc0,by rw[Cs.bd];exact hn⟩)
    rw[List.nodup_append]at hb1;obtain⟨hwn,hyn,hwy⟩:=hb1;obtain⟨e0,kd,ki⟩:=newL_of x0.nm ws hwn fun v hv=>hb2 v (by simp[hv])
    obtain⟨q1,q2,q3⟩:=LS.newL_ok x0.nm ws o1 e0;rw[Cs.ow,Cs.lin,if_neg (by simpa using e0)];generalize s1.D6 x0.nm ws=S at e0 kd ki q1 q2 q3;obtain⟨U,hU⟩:∃U,U=inN ws y.free:=⟨_,rfl⟩
    rw[←hU];have hUm:∀n,n∈U↔n∈ws∧n∈y.free:=fun n=>by rw[hU,K3]
    have hUn:U.Nodup:=by rw[hU];exact hwn.sublist List.filter_sublist
    obtain⟨s3,o3,c3,t3,i3,k3,step⟩:=cnt8_lin U (cnt 9 (if hasB y.free x0.nm then[]else[x0.nm]) (y.ow (if hasB y.free x0.nm then O++U else woN (O++U) [x0.nm]))) q1 fun n hn=>by
     unfold LS.there;rw[ki,if_pos ((hUm n).1 hn).1];dsimp only;rw[q2,q2,hc1,hc1,if_pos hnF];simp
    refine step ?_;clear step;have hUF:∀n∈U,n ∉ F:=fun n h hf=>hkn n hf (hb2 n (by simp[((hUm n).1 h).1]))
    have hc3:∀m,s3.c m=if m∈O++U then 1 else 0:=fun m=>by
     rw[c3,q2,hc1,Gv hUn];by_cases h1:m∈F
     ·rw[if_pos h1,if_neg (fun h=>hUF m h h1),if_pos (by simp[hOm,h1])];rfl
     ·rw[if_neg h1];by_cases h2:m∈U
      ·rw[if_pos h2,if_pos (by simp[h2])];rfl
      ·rw[if_neg h2,if_neg (by simp[hOm,h1,h2])];rfl
    have hOU:(O++U).Nodup:=by
     rw[List.nodup_append];exact⟨hOn,hUn,fun u hu v hv e=>hUF v hv (by rw[←e];exact(hOm u).1 hu)⟩
    have hun3:∀n∈y.bd,lkA s3.ct n=none:=fun n hn=>by
     have h1:=k3 n;rw[kd,hb2 n (by simp[hn])]at h1;have hw:n ∉ ws:=fun h=>hwy n h n hn rfl
     have hu:n ∉ U:=fun h=>hw ((hUm n).1 h).1
     simpa[hw,hu]using h1
    have hfy:∀n∈y.free,n∈O++U:=fun n hn=>by
     by_cases hw:n∈ws
     ·simp only[List.mem_append];exact .inr ((hUm n).2 ⟨hw,hn⟩)
     ·simp only[List.mem_append];exact .inl ((hOm n).2 ((hfr n).2 (.inr (.inr ⟨_,hc0,by rw[Cs.Mw,X5];exact⟨hn,hw⟩⟩))))
    have ht3:s3.tk=[]:=by rw[t3,q3,htk1]
    by_cases hb:hasB y.free x0.nm=true
    ·rw[if_pos hb,if_pos hb];show(y.ow (O++U)).lin s3=0;exact ih y (O++U) s3 hyR hyP hyn hun3 hOU hfy o3 hc3 ht3
    ·rw[if_neg hb,if_neg hb];have hnf:x0.nm ∉ y.free:=fun h=>hb (X4.2 h)
     obtain⟨s4,o4,c4,t4,i4,k4,step⟩:=cnt9_lin [x0.nm] (y.ow (woN (O++U) [x0.nm])) o3 (by simp) fun n hn=>by
      simp only[List.mem_singleton]at hn;subst hn;rw[hc3,if_pos (by simp[hOm,hnF])];omega
     refine step (ih y _ s4 hyR hyP hyn (fun n hn=>?_) (hOU.sublist List.filter_sublist) (fun n hn=>?_) o4 (fun n=>?_) (t4.trans ht3))
     ·have:=k4 n;rw[hun3 n hn]at this;simpa using this
     ·exact X5.2 ⟨hfy n hn,by simp;exact fun e=>hnf (by rw[←e];exact hn)⟩
     ·rw[c4,hc3];by_cases e:n=x0.nm
      ·subst e;rw[if_pos (by simp),if_pos (by simp[hOm,hnF]),if_neg (fun h=>(X5.1 h).2 (by simp))];rfl
      ·rw[if_neg (by simp[e])];by_cases h:n∈O++U
       ·rw[if_pos h,if_pos (X5.2 ⟨h,by simp[e]⟩)]
       ·rw[if_neg h,if_neg (fun hh=>h (X5.1 hh).1)]
   ·have hcs:=rt_nocs hR' h7;subst hcs;rw[if_neg h6,if_neg h7];by_cases h3:k=3∨k=4∨k=5
    ·rw[if_pos h3];have hF:∀n,n∈(Tm.mk k n0 a b vs xs []).free↔∃x∈xs,x.nm=n:=fun n=>by
      rw[hfr];refine⟨fun h=>?_,fun h=>.inr (.inl h)⟩;rcases h with h|h|⟨c,h,_⟩
      ·omega
      ·exact h
      ·cases h
     obtain⟨s2,o2,c2,t2,i2,k2,step⟩:=cnt8_lin (U4 [] xs) (.mk k n0 a b vs xs []) o1 fun n hn=>by
      unfold LS.there;rw[hc1,if_pos ((hF n).2 (Tw xs [] n hn))];rfl
     refine step ?_;have hc2:∀m,s2.c m=occ xs m:=fun m=>by
      rw[c2,hc1,moreN_occ];by_cases h:∃x∈xs,x.nm=m
      ·rw[if_pos ((hF m).2 h),if_pos ⟨by simp,h⟩];omega
      ·rw[if_neg (fun hh=>h ((hF m).1 hh)),if_neg (fun hh=>h hh.2),occ_zero h];rfl
     have hu:=useL_of xs o2 hvar fun m=>by rw[hc2];exact Int.le_refl _
     obtain⟨g1,g2,g3⟩:=LS.useL_ok xs o2 hu;rw[lin345 h3,hu];unfold LS.Bz;rw[left_of g1 (fun m=>by rw[g2,hc2];omega) (by rw[g3,t2,htk1])];simp
    ·rw[if_neg h3];have h12:k=1∨k=2:=by omega
     have hxs:=rt_none hR' h12;subst hxs;rcases h12 with rfl|rfl
     ·have hF:∀n,n∈(Tm.mk 1 n0 a b vs [] []).free↔n=a:=fun n=>by rw[hfr];simp
      have hu:=use_of (s:=s1) (n:=a) (by rw[hc1,if_pos ((hF a).2 rfl)];omega);obtain⟨g1,g2,g3,-⟩:=LS.I7 o1 hu;rw[lin1,hu];unfold LS.Bz;rw[left_of g1 (fun m=>by
       rw[g2,hc1];by_cases e:a=m
       ·subst e;rw[if_pos rfl,if_pos ((hF a).2 rfl)];rfl
       ·rw[if_neg e,if_neg (fun h=>e ((hF m).1 h).symm)]) (by rw[g3,htk1])]
      simp
     ·have hF:∀n,n ∉ (Tm.mk 2 n0 a b vs [] []).free:=fun n=>by rw[hfr];simp
      rw[lin2];unfold LS.Bz;rw[left_of o1 (fun m=>by rw[hc1,if_neg (hF m)]) htk1];simp
end Go.Proofs.YtlbcipohiepjmaaDoor
namespace Go.Proofs.YtlbcipohiepjmaaDoor
open Go.RowKit
structure LS.Sim (s s':LS):Prop where
 c:∀n,lkA s.ct n=lkA s'.ct n
 i:∀n,lkA s.inn n=lkA s'.inn n
 t:∀b,lkA s.tk b=lkA s'.tk b
theorem LS.Sim.cc {s s':LS} (h:s.Sim s') (n:ByteArray):s.c n=s'.c n:=by unfold LS.c;rw[h.c]
theorem left_iff {s:LS} (h:s.Ok):s.left=true↔(∃n k,lkA s.ct n=some k∧0<k)∨∃b k,lkA s.tk b=some k:=by
 unfold LS.left;rw[Bool.or_eq_true,List.any_eq_true];refine or_congr ⟨fun⟨p,h1,h2⟩=>⟨p.1,p.2,mem_lk h.kc h1,by simpa using h2⟩,fun⟨n,k,h1,h2⟩=>⟨(n,k),lk_mem h1,by simpa using h2⟩⟩ ⟨fun h1=>?_,fun⟨b,k,h1⟩=>?_⟩
 ·cases ht:s.tk with
  |nil=>rw[ht]at h1;simp at h1
  |cons p r=>exact⟨p.1,p.2,by obtain⟨x,y⟩:=p;rw[lkA,if_pos rfl]⟩
 ·cases ht:s.tk with
  |nil=>rw[ht]at h1;simp[lkA]at h1
  |cons p r=>simp
theorem LS.Sim.left {s s':LS} (h:s.Sim s') (hs:s.Ok) (hs':s'.Ok):s.left=s'.left:=by
 rw[Bool.eq_iff_iff,left_iff hs,left_iff hs'];simp only[h.c,h.t]
theorem LS.Sim.Bz {s s':LS} (h:s.Sim s') (hs:s.Ok) (hs':s'.Ok) (e:Int):s.Bz e=s'.Bz e:=by
 unfold LS.Bz;rw[h.left hs hs']
theorem LS.Sim.use {s s':LS} (h:s.Sim s') (n:ByteArray):(s.Ww n).1=(s'.Ww n).1∧(s.Ww n).2.Sim (s'.Ww n).2:=by
 unfold LS.Ww;rw[h.c n];cases lkA s'.ct n with
 |none=>exact⟨rfl,h⟩
 |some k=>
  dsimp only;split
  ·exact⟨rfl,h⟩
  ·exact⟨rfl,⟨fun m=>by dsimp only;rw[Kk,Kk,h.c],h.i,h.t⟩⟩
theorem LS.Sim.R5:∀(xs:List Tm) {s s':LS},s.Sim s'→(s.R5 xs).1=(s'.R5 xs).1∧(s.R5 xs).2.Sim (s'.R5 xs).2
 |[],s,s',h=>⟨rfl,h⟩
 |x::r,s,s',h=>by
  obtain⟨h1,h2⟩:=h.use x.nm;rw[LS.R5,LS.R5];split
  ·exact⟨rfl,h⟩
  ·rw[h1];split
   ·exact⟨h1,h2⟩
   ·exact LS.Sim.R5 r h2
theorem N7 {s:LS} (h:s.Ok) (n:ByteArray):(s.Ww n).2.Ok:=by
 by_cases h0:(s.Ww n).1=0
 ·exact(LS.I7 h h0).1
 ·unfold LS.Ww at h0⊢;cases hk:lkA s.ct n with
  |none=>exact h
  |some k=>
   rw[hk]at h0;dsimp only at h0⊢;by_cases h1:k<1
   ·rw[if_pos h1];exact h
   ·rw[if_neg h1]at h0;exact absurd rfl h0
theorem useL_okA:∀(xs:List Tm) {s:LS},s.Ok→(s.R5 xs).2.Ok
 |[],s,h=>h
 |x::r,s,h=>by
  rw[LS.R5];split
  ·exact h
  ·split
   ·exact N7 h _
   ·exact useL_okA r (N7 h _)
theorem LS.Sim.inc {s s':LS} (h:s.Sim s') (n:ByteArray):(s.inc n).Sim (s'.inc n):=
 ⟨fun m=>by unfold LS.inc;dsimp only;rw[Kk,Kk,h.c,h.cc],h.i,h.t⟩
theorem LS.Sim.U0 (nm:ByteArray):∀(vs:List ByteArray) {s s':LS},s.Sim s'→(s.U0 nm vs).1=(s'.U0 nm vs).1∧(s.U0 nm vs).2.Sim (s'.U0 nm vs).2
 |[],s,s',h=>⟨rfl,h⟩
 |v::r,s,s',h=>by
  rw[LS.U0,LS.U0,h.i];split
  ·exact⟨rfl,h⟩
  ·exact LS.Sim.U0 nm r (h.inc v)
theorem openL_okA (nm:ByteArray):∀(vs:List ByteArray) {s:LS},s.Ok→(s.U0 nm vs).2.Ok
 |[],s,h=>h
 |v::r,s,h=>by
  rw[LS.U0];split
  ·exact h
  ·exact openL_okA nm r (LS.inc_ok h v).1
theorem LS.Sim.Uk {s s':LS} (h:s.Sim s') (nm:ByteArray) (vs:List ByteArray):(s.Uk nm vs).1=(s'.Uk nm vs).1∧(s.Uk nm vs).2.Sim (s'.Uk nm vs).2:=by
 obtain⟨h1,h2⟩:=LS.Sim.U0 nm vs h;unfold LS.Uk;rw[h1];split
 ·exact⟨h1,h2⟩
 ·exact h2.use nm
theorem Rv {s:LS} (h:s.Ok) (nm:ByteArray) (vs:List ByteArray):(s.Uk nm vs).2.Ok:=by
 unfold LS.Uk;split
 ·exact openL_okA nm vs h
 ·exact N7 (openL_okA nm vs h) nm
theorem LS.Sim.D6 (nm:ByteArray):∀(vs:List ByteArray) {s s':LS},s.Sim s'→(s.D6 nm vs).1=(s'.D6 nm vs).1∧(s.D6 nm vs).2.Sim (s'.D6 nm vs).2
 |[],s,s',h=>⟨rfl,h⟩
 |v::r,s,s',h=>by
  rw[LS.D6,LS.D6,h.c];split
  ·exact⟨rfl,h⟩
  ·exact LS.Sim.D6 nm r ⟨fun m=>by dsimp only;rw[Kk,Kk,h.c],fun m=>by dsimp only;rw[Kk,Kk,h.i],h.t⟩
theorem LS.Sim.there {s s':LS} (h:s.Sim s') (n:ByteArray):s.there n=s'.there n:=by
 unfold LS.there;rw[h.cc,h.i];cases lkA s'.inn n with
 |none=>rfl
 |some up=>dsimp only;rw[h.cc]
theorem LS.Sim.fst {s s':LS} (h:s.Sim s') (t:Tm):(s.fst t).Sim (s'.fst t):=by
 unfold LS.fst;refine⟨fun n=>?_,h.i,fun b=>?_⟩
 ·dsimp only;rw[O7 (fun _ k=>min1 k),O7 (fun _ k=>min1 k),U5,U5,h.c]
 ·dsimp only;rw[U5,U5,h.t]
theorem LS.Sim.rst {s s':LS} (h:s.Sim s') (t:Tm) (a:ByteArray):({ s.rst t with ct:=U1 (s.rst t).ct a 1 }:LS).Sim { s'.rst t with ct:=U1 (s'.rst t).ct a 1 }:=by
 unfold LS.rst;refine⟨fun n=>?_,h.i,fun b=>?_⟩
 ·dsimp only;rw[Kk,Kk,O7 (fun k v=>if t.askN k then v-min1 v else v),O7 (fun k v=>if t.askN k then v-min1 v else v),h.c]
 ·dsimp only;rw[U5 (fun k=>!t.askT k),U5 (fun k=>!t.askT k),h.t]
theorem lin_sim:∀(N:Nat) (t:Tm),t.sz≤N→∀s s':LS,s.Ok→s'.Ok→s.Sim s'→t.lin s=0→t.lin s'=0:=by
 intro N;induction N with
 |zero=>intro t h;have:=t.Cj;omega
 |succ N ih=>
  intro t hN s s' hs hs' he h;obtain⟨k,n,a,b,vs,xs,cs⟩:=t;rw[Tm.sz]at hN;rcases lin_kind h with rfl|rfl|hk|rfl|rfl|rfl|hk
  ·obtain⟨h1,h2⟩:=he.use a;rw[lin1]at h⊢;rw[←h1,←h2.Bz (N7 hs a) (N7 hs' a)];exact h
  ·rw[lin2]at h⊢;rw[←he.Bz hs hs'];exact h
  ·obtain⟨h1,h2⟩:=LS.Sim.R5 xs he;rw[lin345 hk]at h⊢;rw[←h1,←h2.Bz (useL_okA xs hs) (useL_okA xs hs')];exact h
  ·obtain⟨h1,h2⟩:=lin12 h;have he':({ s with tk:=delA s.tk b }:LS).Sim { s' with tk:=delA s'.tk b }:=⟨he.c,he.i,fun d=>by dsimp only;rw[lk_del,lk_del,he.t]⟩
   obtain⟨h3,h4⟩:=LS.Sim.R5 xs he';rw[Tm.lin,if_neg (by omega),if_neg (by omega),if_neg (by omega),if_pos rfl,if_neg (by rw[←he.t,h1];simp)];rw[←h3,←h4.Bz (useL_okA xs (LS.tk_ok hs (hs.kt.filter _))) (useL_okA xs (LS.tk_ok hs' (hs'.kt.filter _)))];exact h2
  ·obtain⟨x,y,rfl,h1,h2,h3⟩:=lin6 h;simp only[Tm.szs]at hN;have hxs:=x.Cj;have hys:=y.Cj;exact lin6_of (by rw[←he.c];exact h1) (ih x (by omega) _ _ (LS.fst_ok hs x) (LS.fst_ok hs' x) (he.fst x) h2) (ih y (by omega) _ _ (LS.put_ok (LS.rst_ok hs x) a (by omega)) (LS.put_ok (LS.rst_ok hs' x) a (by omega)) (he.rst x a) h3)
  ·obtain⟨x,rfl,hx,h1,h2⟩:=lin7 h;refine lin7_of hx (by rw[←he.cc];exact h1) fun c hc=>?_
   obtain⟨tg,ws,y⟩:=c;obtain⟨g1,g2⟩:=clin_inv (h2 _ hc);obtain⟨k1,k2⟩:=LS.Sim.D6 x.nm ws he;have hyN:y.sz≤N:=by
    have:(Cs.mk tg ws y).sz≤Cs.szs cs:=Cs.Zj hc;rw[Cs.sz]at this;omega
   rw[Cs.lin,if_neg (by rw[←k1];simpa using g1)];exact ih y hyN _ _ (LS.newL_ok _ ws hs g1).1 (LS.newL_ok _ ws hs' (by rw[←k1];exact g1)).1 k2 g2
  ·obtain⟨x,rfl,p8,p9,p13,p10,p11⟩:=linS hk h;have hxN:x.sz≤N:=by
    simp only[Tm.szs]at hN;omega
   rw[Tm.lin,if_neg (by omega),if_neg (by omega),if_neg (by omega),if_neg (by omega),if_neg (by omega),if_neg (by omega),if_pos hk,if_neg (by simp)];rcases hk with rfl|rfl|rfl|rfl|rfl
   ·obtain⟨g0,g⟩:=p8 rfl;rw[if_pos rfl,if_pos (by rw[←he.there];exact g0)];exact K9 (ih x hxN _ _ (LS.inc_ok hs a).1 (LS.inc_ok hs' a).1 (he.inc a) g)
   ·obtain⟨g0,g⟩:=p9 rfl;obtain⟨k1,k2⟩:=he.use a;rw[if_neg (by omega),if_pos rfl,if_neg (by rw[←k1];simpa using g0)];exact K9 (ih x hxN _ _ (N7 hs a) (N7 hs' a) k2 g)
   ·obtain⟨g0,g⟩:=p10 rfl;obtain⟨k1,k2⟩:=he.Uk a vs;rw[if_neg (by omega),if_neg (by omega),if_neg (by omega),if_neg (by rw[←k1];simpa using g0),if_neg (by omega)];exact K9 (ih x hxN _ _ (Rv hs a vs) (Rv hs' a vs) k2 g)
   ·obtain⟨g0,gn,gb,g⟩:=p11 rfl;obtain⟨k1,k2⟩:=he.Uk a vs;rw[if_neg (by omega),if_neg (by omega),if_neg (by omega),if_neg (by rw[←k1];simpa using g0),if_pos rfl,if_neg (by rw[←he.t,gn];simp[gb])];refine K9 (ih x hxN _ _ (LS.tk_ok (Rv hs a vs) ((Rv hs a vs).kt.put _ _)) (LS.tk_ok (Rv hs' a vs) ((Rv hs' a vs).kt.put _ _)) ⟨k2.c,k2.i,fun d=>?_⟩ g);dsimp only;rw[Kk,Kk,k2.t]
   ·obtain⟨g0,g⟩:=p13 rfl;rw[if_neg (by omega),if_neg (by omega),if_pos rfl,if_pos (by rw[←he.t];exact g0)];exact K9 (ih x hxN _ _ (LS.tk_ok hs (hs.kt.filter _)) (LS.tk_ok hs' (hs'.kt.filter _)) ⟨he.c,he.i,fun d=>(show lkA (delA s.tk b) d=lkA (delA s'.tk b) d by rw[lk_del,lk_del,he.t])⟩ g)
end Go.Proofs.YtlbcipohiepjmaaDoor
namespace Go.Proofs.YtlbcipohiepjmaaDoor
open Classical Go.RowKit
mutual
def Tm.S1:Tm→Prop
 | .mk k n a b vs xs cs=>(k=8∨k=9∨k=10→(∃x,xs=[x])∧cs=[])∧Tm.S1L xs∧Cs.S1L cs
def Tm.S1L:List Tm→Prop
 |[]=>True
 |x::r=>x.S1∧Tm.S1L r
def Cs.S1L:List Cs→Prop
 |[]=>True
 |c::r=>c.S1∧Cs.S1L r
def Cs.S1:Cs→Prop
 | .mk t ws y=>y.S1
end
theorem Qd:∀{l:List Tm},Tm.S1L l↔∀x∈l,x.S1
 |[]=>by simp[Tm.S1L]
 |x::r=>by simp[Tm.S1L,Qd (l:=r)]
theorem Dj:∀{l:List Cs},Cs.S1L l↔∀x∈l,x.S1
 |[]=>by simp[Cs.S1L]
 |x::r=>by simp[Cs.S1L,Dj (l:=r)]
theorem sr_all:∀(N:Nat) (t:Tm) (rest:List ByteArray),t.sz≤N→t.S1→∃used,(t.sr rest).2.S1∧(∀n∈used,n∈rest)∧(t.sr rest).1=woN rest used∧(rest.Nodup→used.Nodup)∧t.stN=used++(t.sr rest).2.stN∧t.Y7=(t.sr rest).2.Y7∧t.stT=(t.sr rest).2.stT∧
  ∀s:LS,s.Ok→t.lin s=0→∃s',s'.Ok∧(∀m,s'.c m=s.c m+occB used m)∧s'.tk=s.tk∧s'.inn=s.inn∧(∀m,(lkA s'.ct m).isSome=((lkA s.ct m).isSome||decide (m∈used)))∧(t.sr rest).2.lin s'=0:=by
 intro N;induction N with
 |zero=>intro t _ h;have:=t.Cj;omega
 |succ N ih=>
  intro t rest hN hS;obtain⟨k,n,a,b,vs,xs,cs⟩:=t;rw[Tm.sr];by_cases hc:k=8∧hasB rest a=true
  ·rw[if_pos hc];obtain⟨⟨x,rfl⟩,rfl⟩:=hS.1 (.inl hc.1);obtain⟨rfl,ha⟩:=hc;have ha:=X4.1 ha;rw[Tm.srL];have hxN:x.sz≤N:=by
    rw[Tm.sz]at hN;simp only[Tm.szs]at hN;omega
   obtain⟨used,u1,u2,u3,u4,u5,u6,u7,u8⟩:=ih x (woN rest [a]) hxN hS.2.1.1;have hau:a ∉ used:=fun h=>(X5.1 (u2 a h)).2 (by simp)
   refine⟨a::used,u1,fun m hm=>?_,?_,fun hn=>?_,?_,?_,?_,fun s hs h=>?_⟩
   ·rcases List.mem_cons.1 hm with rfl|hm
    ·exact ha
    ·exact(X5.1 (u2 m hm)).1
   ·rw[u3];unfold woN;rw[List.filter_filter];refine List.filter_congr fun m _=>?_
    rw[Bool.eq_iff_iff];simp[X4,Nv,and_comm,not_or]
   ·rw[List.nodup_cons];exact⟨hau,u4 (hn.sublist List.filter_sublist)⟩
   ·rw[Tm.stN,if_pos (by omega),Tm.J9,Tm.J9,Cs.J9,u5];simp
   ·rw[Tm.Y7,if_neg (by omega),if_neg (by omega),Tm.Jk,Tm.Jk,Cs.Jk,u6];simp
   ·rw[Tm.stT,if_neg (by omega),Tm.K8,Tm.K8,Cs.K8,u7];simp
   ·obtain⟨x',e,p8,-⟩:=linS (by omega) h;injection e with e _;subst e;obtain⟨-,g⟩:=p8 rfl;obtain⟨q1,q2⟩:=LS.inc_ok hs a;obtain⟨s',r1,r2,r3,r4,r5,r6⟩:=u8 _ q1 g;refine⟨s',r1,fun m=>?_,r3,r4,fun m=>?_,r6⟩
    ·rw[r2,q2,A7];split<;> omega
    ·rw[r5];unfold LS.inc;dsimp only;rw[Kk];by_cases e:a=m
     ·subst e;simp
     ·rw[if_neg e];have e':m≠a:=fun h=>e h.symm
      simp[e']
  ·rw[if_neg hc];refine⟨[],hS,by simp,?_,fun _=>List.nodup_nil,rfl,rfl,rfl,fun s hs h=>⟨s,hs,fun m=>by simp[occB],rfl,rfl,fun m=>by simp,h⟩⟩;unfold woN;exact(List.filter_eq_self.2 fun m _=>by simp[hasB]).symm
theorem newL_inv (nm:ByteArray):∀(ws:List ByteArray) {s:LS},(s.D6 nm ws).1=0→ws.Nodup∧∀v∈ws,lkA s.ct v=none
 |[],s,_=>⟨List.nodup_nil,by simp⟩
 |v::r,s,h=>by
  rw[LS.D6]at h;by_cases h1:(lkA s.ct v).isSome=true
  ·rw[if_pos h1]at h;simp at h
  ·rw[if_neg h1]at h;obtain⟨h2,h3⟩:=newL_inv nm r h;have h4:lkA s.ct v=none:=by simpa using h1
   refine⟨List.nodup_cons.2 ⟨fun hm=>?_,h2⟩,fun u hu=>?_⟩
   ·have:=h3 v hm;dsimp only at this;rw[Kk,if_pos rfl]at this;simp at this
   ·rcases List.mem_cons.1 hu with rfl|hu
    ·exact h4
    ·have:=h3 u hu;dsimp only at this;rw[Kk]at this;split at this
     ·simp at this
     ·exact this
theorem openL_of (nm:ByteArray):∀(vs:List ByteArray) {s:LS},(∀v∈vs,lkA s.inn v=some nm)→(s.U0 nm vs).1=0∧∀m,(lkA (s.U0 nm vs).2.ct m).isSome=((lkA s.ct m).isSome||decide (m∈vs))
 |[],s,_=>⟨rfl,fun m=>by simp[LS.U0]⟩
 |v::r,s,h=>by
  obtain⟨h1,h2⟩:=openL_of nm r (s:=s.inc v) fun u hu=>h u (by simp[hu])
  rw[LS.U0,if_neg (by rw[h v (by simp)];simp)];refine⟨h1,fun m=>?_⟩;rw[h2];unfold LS.inc;dsimp only;rw[Kk];by_cases e:v=m
  ·subst e;simp
  ·rw[if_neg e];have e':m≠v:=fun h=>e h.symm
   simp[e']
theorem lin10_of {n:Int} {a b:ByteArray} {vs:List ByteArray} {x:Tm} {cs:List Cs} {s:LS} (h:(s.Uk a vs).1=0) (h2:x.lin (s.Uk a vs).2=0):(Tm.mk 10 n a b vs [x] cs).lin s=0:=by
 rw[Tm.lin,if_neg (by omega),if_neg (by omega),if_neg (by omega),if_neg (by omega),if_neg (by omega),if_neg (by omega),if_pos (by omega),if_neg (by simp),if_neg (by omega),if_neg (by omega),if_neg (by omega),if_neg (by simpa using h),if_neg (by omega)];exact K9 h2
theorem sim_of {s s':LS} (hc:∀n,s.c n=s'.c n) (hk:∀n,(lkA s.ct n).isSome=(lkA s'.ct n).isSome) (hi:s.inn=s'.inn) (ht:s.tk=s'.tk):s.Sim s':=by
 refine⟨fun n=>?_,fun n=>by rw[hi],fun b=>by rw[ht]⟩;have h1:=hc n;have h2:=hk n;unfold LS.c at h1;cases h3:lkA s.ct n with
 |none=>
  cases h4:lkA s'.ct n with
  |none=>rfl
  |some k=>rw[h3,h4]at h2;simp at h2
 |some j=>
  cases h4:lkA s'.ct n with
  |none=>rw[h3,h4]at h2;simp at h2
  |some k=>rw[h3,h4]at h1;simp at h1;rw[h1]
theorem fuOne_lin {nm:ByteArray} {ws:List ByteArray} {y:Tm} (hS:y.S1) {s:LS} (hs:s.Ok) (hw:ws.Nodup) (hi:∀v∈ws,lkA s.inn v=some nm) (hc:∀v∈ws,s.c v=0) (hkn:∀v∈ws,(lkA s.ct v).isSome=true) (hn:nm ∉ ws) (h:y.lin s=0):(Wv 7 1 nm ws y).lin s=0:=by
 unfold Wv;split
 ·rename_i hcond;obtain⟨-,-,-,h9,hnm⟩:=hcond;obtain⟨used,u1,u2,u3,u4,-,-,-,u8⟩:=sr_all y.sz y ws (Nat.le_refl _) hS;obtain⟨s1,o1,c1,t1,i1,k1,l1⟩:=u8 s hs h;generalize(y.sr ws).2=z at *;rw[u3];obtain⟨k,n,a,b,vs,xs,cs⟩:=z;rw[Tm.tk]at h9;rw[Tm.nm]at hnm;subst h9 hnm;obtain⟨⟨x,rfl⟩,rfl⟩:=u1.1 (.inr (.inl rfl));have ha0:(Tm.mk 9 n a b vs [x] []).a0=x:=rfl;rw[ha0];obtain⟨x',e,-,p9,-⟩:=linS (by omega) l1;injection e with e _;subst e;obtain⟨g0,g⟩:=p9 rfl;obtain⟨q1,q2,q3,q4,q5,q6⟩:=LS.I7 o1 g0;have hau:a ∉ used:=fun hm=>hn (u2 a hm)
  have hun:=u4 hw;have hca:1≤s.c a:=by
   have:=c1 a;rw[Gv hun,if_neg hau]at this;omega
  obtain⟨r1,r2⟩:=openL_of a ws (s:=s) hi;obtain⟨v1,v2,v3,v4⟩:=LS.openL_ok a ws hs r1;have hu:((s.U0 a ws).2.Ww a).1=0:=use_of (by rw[v2,Gv hw,if_neg hn];omega);obtain⟨w1,w2,w3,w4,w5,-⟩:=LS.I7 v1 hu;have he:s.Uk a ws=(s.U0 a ws).2.Ww a:=by unfold LS.Uk;rw[if_neg (by simpa using r1)]
  refine lin10_of (by rw[he];exact hu) ?_;rw[he];obtain⟨s2,o2,c2,t2,i2,k2,step⟩:=cnt9_lin (woN ws used) x w1 (hw.sublist List.filter_sublist) fun m hm=>by
   have hmw:=(X5.1 hm).1;rw[w2,v2,Gv hw,if_pos hmw,hc m hmw,if_neg (fun e=>hn (by rw[e];exact hmw))];omega
  refine step (lin_sim x.sz x (Nat.le_refl _) _ _ q1 o2 (sim_of (fun m=>?_) (fun m=>?_) ?_ ?_) g)
  ·rw[q2,c1,c2,w2,v2,Gv hun,Gv hw];by_cases e:a=m
   ·subst e;rw[if_pos rfl,if_neg hau,if_neg (fun hh=>hn (X5.1 hh).1),if_pos rfl,if_neg hn]
   ·rw[if_neg e,if_neg e];by_cases h1:m∈ws
    ·by_cases h2:m∈used
     ·rw[if_pos h2,if_neg (fun hh=>(X5.1 hh).2 h2),if_pos h1]
     ·rw[if_neg h2,if_pos (X5.2 ⟨h1,h2⟩),if_pos h1];omega
    ·rw[if_neg (fun hh=>h1 (u2 m hh)),if_neg (fun hh=>h1 (X5.1 hh).1),if_neg h1]
  ·rw[q5,k1,k2,w5,r2];by_cases h1:m∈ws
   ·rw[hkn m h1];rfl
   ·have h2:m ∉ used:=fun hh=>h1 (u2 m hh)
    simp[h1,h2]
  ·rw[q4,i1,i2,w4,v4]
  ·rw[q3,t1,t2,w3,v3]
 ·exact h
theorem Tm.fu_tk (t:Tm):t.fu.tk=t.tk:=by
 obtain⟨k,n,a,b,vs,xs,cs⟩:=t;rw[Tm.fu];rfl
theorem useL_fu:∀(xs:List Tm) (s:LS),s.R5 (Tm.fuL xs)=s.R5 xs
 |[],s=>rfl
 |x::r,s=>by
  rw[Tm.fuL,LS.R5,LS.R5,Tm.fu_tk,Tm.fu_nm,useL_fu r]
theorem fuL_length:∀xs:List Tm,(Tm.fuL xs).length=xs.length
 |[]=>rfl
 |x::r=>by rw[Tm.fuL,List.length_cons,List.length_cons,fuL_length r]
theorem cnt_S1 {k:Int}:∀(l:List ByteArray) {t:Tm},t.S1→(cnt k l t).S1
 |[],_,h=>h
 |s::r,t,h=>⟨fun _=>⟨⟨_,rfl⟩,rfl⟩,⟨cnt_S1 r h,trivial⟩,trivial⟩
theorem fuOne_st {k:Int} {na:Nat} {nm:ByteArray} {ws:List ByteArray} {y:Tm} (hS:y.S1):(Wv k na nm ws y).S1∧(∀n,n∈(Wv k na nm ws y).stN→n∈y.stN∨n∈ws)∧(∀n,n∈y.stN→n∈(Wv k na nm ws y).stN∨n∈ws)∧(Wv k na nm ws y).Y7=y.Y7∧(Wv k na nm ws y).stT=y.stT:=by
 unfold Wv;split
 ·rename_i hcond;obtain⟨-,-,-,h9,hnm⟩:=hcond;obtain⟨used,u1,u2,u3,u4,u5,u6,u7,-⟩:=sr_all y.sz y ws (Nat.le_refl _) hS;generalize(y.sr ws).2=z at *;rw[u3,u5,u6,u7];obtain⟨k,n,a,b,vs,xs,cs⟩:=z;rw[Tm.tk]at h9;rw[Tm.nm]at hnm;subst h9 hnm;obtain⟨⟨x,rfl⟩,rfl⟩:=u1.1 (.inr (.inl rfl));have ha0:(Tm.mk 9 n a b vs [x] []).a0=x:=rfl;rw[ha0];have e1:(Tm.mk 10 0 a .empty ws [cnt 9 (woN ws used) x] []).stN=a::(woN ws used++x.stN):=by
   rw[Tm.stN,if_pos (by omega),Tm.J9,Tm.J9,Cs.J9,Fv (.inr rfl)];simp
  have e2:(Tm.mk 9 n a b vs [x] []).stN=a::x.stN:=by
   rw[Tm.stN,if_pos (by omega),Tm.J9,Tm.J9,Cs.J9];simp
  refine⟨⟨fun _=>⟨⟨_,rfl⟩,rfl⟩,⟨cnt_S1 _ u1.2.1.1,trivial⟩,trivial⟩,fun m hm=>?_,fun m hm=>?_,?_,?_⟩
  ·rw[e1]at hm;rw[e2];simp only[List.mem_cons,List.mem_append]at hm⊢;rcases hm with h|h|h
   ·exact .inl (.inr (.inl h))
   ·exact .inr (X5.1 h).1
   ·exact .inl (.inr (.inr h))
  ·rw[e2]at hm;rw[e1];simp only[List.mem_cons,List.mem_append]at hm⊢;rcases hm with h|h|h
   ·exact .inr (u2 m h)
   ·exact .inl (.inl h)
   ·exact .inl (.inr (.inr h))
  ·rw[Tm.Y7,Tm.Y7,if_neg (by omega),if_neg (by omega),if_neg (by omega),if_neg (by omega),Tm.Jk,Tm.Jk,Tm.Jk,Tm.Jk,Gq (.inr rfl)]
  ·rw[Tm.stT,Tm.stT,if_neg (by omega),if_neg (by omega),Tm.K8,Tm.K8,Tm.K8,Tm.K8,Fj (.inr rfl)]
 ·exact⟨hS,fun n h=>.inl h,fun n h=>.inl h,rfl,rfl⟩
theorem fu_st:∀(N:Nat) (t:Tm),t.sz≤N→t.S1→t.fu.S1∧(∀n,n∈t.fu.stN→n∈t.stN∨n∈t.Y7)∧(∀n,n∈t.stN→n∈t.fu.stN∨n∈t.Y7)∧t.fu.Y7=t.Y7∧t.fu.stT=t.stT:=by
 intro N;induction N with
 |zero=>intro t h;have:=t.Cj;omega
 |succ N ih=>
  intro t hN hS;obtain⟨k,n,a,b,vs,xs,cs⟩:=t;obtain⟨h1,h2,h3⟩:=hS;rw[Tm.sz]at hN;have hX:∀l:List Tm,(∀x∈l,x∈xs)→Tm.S1L (Tm.fuL l)∧(∀n,n∈Tm.J9 (Tm.fuL l)→n∈Tm.J9 l∨n∈Tm.Jk l)∧(∀n,n∈Tm.J9 l→n∈Tm.J9 (Tm.fuL l)∨n∈Tm.Jk l)∧Tm.Jk (Tm.fuL l)=Tm.Jk l∧Tm.K8 (Tm.fuL l)=Tm.K8 l:=by
   intro l;induction l with
   |nil=>intro _;exact⟨trivial,by simp[Tm.fuL,Tm.J9],by simp[Tm.J9],rfl,rfl⟩
   |cons x r ih2=>
    intro hm;have hx:=hm x (by simp);obtain⟨a1,a2,a3,a4,a5⟩:=ih x (by have:=Tm.Zj hx;omega) (Qd.1 h2 x hx);obtain⟨b1,b2,b3,b4,b5⟩:=ih2 fun z hz=>hm z (by simp[hz])
    refine⟨⟨a1,b1⟩,fun m h=>?_,fun m h=>?_,by rw[Tm.fuL,Tm.Jk,Tm.Jk,a4,b4],by rw[Tm.fuL,Tm.K8,Tm.K8,a5,b5]⟩
    ·rw[Tm.fuL,Tm.J9,List.mem_append]at h;rw[Tm.J9,Tm.Jk,List.mem_append,List.mem_append];rcases h with h|h
     ·exact(a2 m h).elim (fun h=>.inl (.inl h)) fun h=>.inr (.inl h)
     ·exact(b2 m h).elim (fun h=>.inl (.inr h)) fun h=>.inr (.inr h)
    ·rw[Tm.J9,List.mem_append]at h;rw[Tm.fuL,Tm.J9,Tm.Jk,List.mem_append,List.mem_append];rcases h with h|h
     ·exact(a3 m h).elim (fun h=>.inl (.inl h)) fun h=>.inr (.inl h)
     ·exact(b3 m h).elim (fun h=>.inl (.inr h)) fun h=>.inr (.inr h)
  have hC:∀l:List Cs,(∀x∈l,x∈cs)→Cs.S1L (Cs.fuL k xs.length (nmH xs) l)∧(∀n,n∈Cs.J9 (Cs.fuL k xs.length (nmH xs) l)→n∈Cs.J9 l∨n∈Cs.Jk l)∧(∀n,n∈Cs.J9 l→n∈Cs.J9 (Cs.fuL k xs.length (nmH xs) l)∨n∈Cs.Jk l)∧Cs.Jk (Cs.fuL k xs.length (nmH xs) l)=Cs.Jk l∧Cs.K8 (Cs.fuL k xs.length (nmH xs) l)=Cs.K8 l:=by
   intro l;induction l with
   |nil=>intro _;exact⟨trivial,by simp[Cs.fuL,Cs.J9],by simp[Cs.J9],rfl,rfl⟩
   |cons c r ih2=>
    intro hm;have hc:=hm c (by simp);obtain⟨b1,b2,b3,b4,b5⟩:=ih2 fun z hz=>hm z (by simp[hz])
    obtain⟨t,ws,y⟩:=c;have hsz:(Cs.mk t ws y).sz≤Cs.szs cs:=Cs.Zj hc;rw[Cs.sz]at hsz;obtain⟨a1,a2,a3,a4,a5⟩:=ih y (by omega) (Dj.1 h3 _ hc);obtain⟨c1,c2,c3,c4,c5⟩:=fuOne_st (k:=k) (na:=xs.length) (nm:=nmH xs) (ws:=ws) a1;have e:(Cs.mk t ws y).fu k xs.length (nmH xs)= .mk t ws (Wv k xs.length (nmH xs) ws y.fu):=by rw[Cs.fu]
    refine⟨⟨by rw[e];exact c1,b1⟩,fun m h=>?_,fun m h=>?_,by rw[Cs.fuL,Cs.Jk,Cs.Jk,e,b4,Cs.Y7,Cs.Y7,c4,a4],by rw[Cs.fuL,Cs.K8,Cs.K8,e,b5,Cs.stT,Cs.stT,c5,a5]⟩
    ·rw[Cs.fuL,Cs.J9,List.mem_append,e,Cs.stN]at h;rw[Cs.J9,Cs.Jk,List.mem_append,List.mem_append,Cs.stN,Cs.Y7,List.mem_append];rcases h with h|h
     ·rcases c2 m h with h|h
      ·exact(a2 m h).elim (fun h=>.inl (.inl h)) fun h=>.inr (.inl (.inr h))
      ·exact .inr (.inl (.inl h))
     ·exact(b2 m h).elim (fun h=>.inl (.inr h)) fun h=>.inr (.inr h)
    ·rw[Cs.J9,List.mem_append,Cs.stN]at h;rw[Cs.fuL,Cs.J9,Cs.Jk,List.mem_append,List.mem_append,e,Cs.stN,Cs.Y7,List.mem_append];rcases h with h|h
     ·rcases a3 m h with h|h
      ·rcases c3 m h with h|h
       ·exact .inl (.inl h)
       ·exact .inr (.inl (.inl h))
      ·exact .inr (.inl (.inr h))
     ·exact(b3 m h).elim (fun h=>.inl (.inr h)) fun h=>.inr (.inr h)
  obtain⟨x1,x2,x3,x4,x5⟩:=hX xs fun _ h=>h
  obtain⟨c1,c2,c3,c4,c5⟩:=hC cs fun _ h=>h
  rw[Tm.fu];refine⟨⟨fun hk=>?_,x1,c1⟩,fun m h=>?_,fun m h=>?_,by rw[Tm.Y7,Tm.Y7,x4,c4],by rw[Tm.stT,Tm.stT,x5,c5]⟩
  ·obtain⟨⟨x,rfl⟩,rfl⟩:=h1 hk;exact⟨⟨_,rfl⟩,rfl⟩
  ·rw[Tm.stN,List.mem_append,List.mem_append]at h;rw[Tm.stN,Tm.Y7,List.mem_append,List.mem_append,List.mem_append,List.mem_append,List.mem_append];rcases h with h|h|h
   ·exact .inl (.inl h)
   ·exact(x2 m h).elim (fun h=>.inl (.inr (.inl h))) fun h=>.inr (.inr (.inr (.inl h)))
   ·exact(c2 m h).elim (fun h=>.inl (.inr (.inr h))) fun h=>.inr (.inr (.inr (.inr h)))
  ·rw[Tm.stN,List.mem_append,List.mem_append]at h;rw[Tm.stN,Tm.Y7,List.mem_append,List.mem_append,List.mem_append,List.mem_append,List.mem_append];rcases h with h|h|h
   ·exact .inl (.inl h)
   ·exact(x3 m h).elim (fun h=>.inl (.inr (.inl h))) fun h=>.inr (.inr (.inr (.inl h)))
   ·exact(c3 m h).elim (fun h=>.inl (.inr (.inr h))) fun h=>.inr (.inr (.inr (.inr h)))
theorem fu_ask {t:Tm} (hS:t.S1):t.fu.askN=t.askN∧t.fu.askT=t.askT:=by
 obtain⟨-,h2,h3,h4,h5⟩:=fu_st t.sz t (Nat.le_refl _) hS;refine⟨funext fun n=>?_,funext fun b=>?_⟩
 ·unfold Tm.askN;rw[h4,Bool.eq_iff_iff,Bool.and_eq_true,Bool.and_eq_true,X4,X4];constructor
  ·rintro⟨h,hn⟩;refine⟨(h2 n h).resolve_right fun hh=>?_,hn⟩;rw[X4.2 hh]at hn;simp at hn
  ·rintro⟨h,hn⟩;refine⟨(h3 n h).resolve_right fun hh=>?_,hn⟩;rw[X4.2 hh]at hn;simp at hn
 ·unfold Tm.askT;rw[h4,h5]
theorem fu_lin:∀(N:Nat) (t:Tm),t.sz≤N→t.S1→∀s:LS,s.Ok→t.lin s=0→t.fu.lin s=0:=by
 intro N;induction N with
 |zero=>intro t h;have:=t.Cj;omega
 |succ N ih=>
  intro t hN hS s hs h;obtain⟨k,n,a,b,vs,xs,cs⟩:=t;obtain⟨s1,s2,s3⟩:=hS;rw[Tm.sz]at hN;rw[Tm.fu];rcases lin_kind h with rfl|rfl|hk|rfl|rfl|rfl|hk
  ·rw[lin1]at h⊢;exact h
  ·rw[lin2]at h⊢;exact h
  ·rw[lin345 hk]at h⊢;rw[useL_fu];exact h
  ·obtain⟨h1,h2⟩:=lin12 h;rw[Tm.lin,if_neg (by omega),if_neg (by omega),if_neg (by omega),if_pos rfl,fuL_length,if_neg (by rw[h1];simp),useL_fu];exact h2
  ·obtain⟨x,y,rfl,h1,h2,h3⟩:=lin6 h;simp only[Tm.szs]at hN;have hxs:=x.Cj;have hys:=y.Cj;obtain⟨e1,e2⟩:=fu_ask s2.1;have e3:∀s:LS,s.fst x.fu=s.fst x:=fun s=>by unfold LS.fst;rw[e1,e2]
   have e4:∀s:LS,s.rst x.fu=s.rst x:=fun s=>by unfold LS.rst;rw[e1,e2]
   refine lin6_of h1 ?_ ?_
   ·rw[e3];exact ih x (by omega) s2.1 _ (LS.fst_ok hs x) h2
   ·rw[e4];exact ih y (by omega) s2.2.1 _ (LS.put_ok (LS.rst_ok hs x) a (by omega)) h3
  ·obtain⟨x,rfl,hx,h1,h2⟩:=lin7 h;have e:nmH [x]=x.nm:=rfl;rw[Cs.Bq,e];refine lin7_of (by rw[Tm.fu_tk];exact hx) (by rw[Tm.fu_nm];exact h1) fun c hc=>?_
   obtain⟨c0,hc0,rfl⟩:=List.mem_map.1 hc;obtain⟨tg,ws,y⟩:=c0;obtain⟨g1,g2⟩:=clin_inv (h2 _ hc0);obtain⟨n1,n2⟩:=newL_inv x.nm ws g1;obtain⟨-,m2,m3⟩:=newL_of x.nm ws (s:=s) n1 n2;obtain⟨q1,q2,q3⟩:=LS.newL_ok _ ws hs g1;have hyN:y.sz≤N:=by
    have:(Cs.mk tg ws y).sz≤Cs.szs cs:=Cs.Zj hc0;rw[Cs.sz]at this;omega
   have hyS:y.S1:=Dj.1 s3 _ hc0;have hfl:=ih y hyN hyS _ q1 g2;rw[Cs.fu,Cs.lin,Tm.fu_nm,if_neg (by simpa using g1)];have hnw:x.nm ∉ ws:=fun hm=>by
    have:=n2 _ hm;unfold LS.c at h1;rw[this]at h1;simp at h1
   refine fuOne_lin (fu_st y.sz y (Nat.le_refl _) hyS).1 q1 n1 (fun v hv=>by rw[m3,if_pos hv]) (fun v hv=>?_) (fun v hv=>by rw[m2];simp[hv]) hnw hfl;rw[q2];unfold LS.c;rw[n2 v hv];rfl
  ·obtain⟨x,rfl,p8,p9,p13,p10,p11⟩:=linS hk h;have hxN:x.sz≤N:=by
    simp only[Tm.szs]at hN;omega
   have hxS:=s2.1;rw[Tm.fuL,Tm.fuL,Tm.lin,if_neg (by omega),if_neg (by omega),if_neg (by omega),if_neg (by omega),if_neg (by omega),if_neg (by omega),if_pos hk,if_neg (by simp)];rcases hk with rfl|rfl|rfl|rfl|rfl
   ·obtain⟨g0,g⟩:=p8 rfl;rw[if_pos rfl,if_pos g0];exact K9 (ih x hxN hxS _ (LS.inc_ok hs a).1 g)
   ·obtain⟨g0,g⟩:=p9 rfl;rw[if_neg (by omega),if_pos rfl,if_neg (by simpa using g0)];exact K9 (ih x hxN hxS _ (N7 hs a) g)
   ·obtain⟨g0,g⟩:=p10 rfl;rw[if_neg (by omega),if_neg (by omega),if_neg (by omega),if_neg (by simpa using g0),if_neg (by omega)];exact K9 (ih x hxN hxS _ (Rv hs a vs) g)
   ·obtain⟨g0,gn,gb,g⟩:=p11 rfl;rw[if_neg (by omega),if_neg (by omega),if_neg (by omega),if_neg (by simpa using g0),if_pos rfl,if_neg (by rw[gn];simp[gb])];exact K9 (ih x hxN hxS _ (LS.tk_ok (Rv hs a vs) ((Rv hs a vs).kt.put _ _)) g)
   ·obtain⟨g0,g⟩:=p13 rfl;rw[if_neg (by omega),if_neg (by omega),if_pos rfl,if_pos g0];exact K9 (ih x hxN hxS _ (LS.tk_ok hs (hs.kt.filter _)) g)
def kNm (c:Int):ByteArray:=⟨#[107]⟩++Hz c
mutual
def Tm.fits (m:Nat):Tm→Bool
 | .mk k n a b vs xs cs=>if k=3 then decide (xs.length=m)else if k=6 then Tm.fitL m xs else if k=7 then Cs.fitA m cs else if 8≤k∧k≠12 then Tm.fitH m xs else false
def Tm.fitL (m:Nat):List Tm→Bool
 |[]=>false
 |x::r=>(decide (x.tk=3) && decide (x.xs.length=m))||Tm.fitH m r
def Tm.fitH (m:Nat):List Tm→Bool
 |[]=>false
 |x::_=>x.fits m
def Cs.fitA (m:Nat):List Cs→Bool
 |[]=>false
 |c::r=>c.fits m||Cs.fitA m r
def Cs.fits (m:Nat):Cs→Bool
 | .mk t ws y=>y.fits m
end
mutual
def Tm.put (tok:ByteArray) (m:Nat):Tm→Tm
 | .mk k n a b vs xs cs=>
  if (Tm.mk k n a b vs xs cs).fits m=false then .mk 13 0 .empty tok [] [.mk k n a b vs xs cs] []
  else if k=3 then .mk 12 n a tok vs xs cs
  else if k=6 then .mk k n a b vs (Tm.Cv tok m xs) cs
  else if k=7 then .mk k n a b vs xs (Cs.U1 tok m cs)
  else .mk k n a b vs (Tm.Rk tok m xs) cs
def Tm.Cv (tok:ByteArray) (m:Nat):List Tm→List Tm
 |[]=>[]
 |x::r=>if x.tk=3∧x.xs.length=m then x.put tok m::r else x::Tm.Rk tok m r
def Tm.Rk (tok:ByteArray) (m:Nat):List Tm→List Tm
 |[]=>[]
 |x::r=>x.put tok m::r
def Cs.U1 (tok:ByteArray) (m:Nat):List Cs→List Cs
 |[]=>[]
 |c::r=>c.put tok m::Cs.U1 tok m r
def Cs.put (tok:ByteArray) (m:Nat):Cs→Cs
 | .mk t ws y=>.mk t ws (y.put tok m)
end
theorem P8 (tok:ByteArray) (m:Nat):∀l:List Cs,Cs.U1 tok m l=l.map (Cs.put tok m)
 |[]=>rfl
 |c::r=>by rw[Cs.U1,P8 tok m r];rfl
mutual
def Tm.NH:Tm→Prop
 | .mk k n a b vs xs cs=>k≠11∧Tm.NHL xs∧Cs.NHL cs
def Tm.NHL:List Tm→Prop
 |[]=>True
 |x::r=>x.NH∧Tm.NHL r
def Cs.NHL:List Cs→Prop
 |[]=>True
 |c::r=>c.NH∧Cs.NHL r
def Cs.NH:Cs→Prop
 | .mk t ws y=>y.NH
end
theorem NHL_iff:∀{l:List Tm},Tm.NHL l↔∀x∈l,x.NH
 |[]=>by simp[Tm.NHL]
 |x::r=>by simp[Tm.NHL,NHL_iff (l:=r)]
theorem I5:∀{l:List Cs},Cs.NHL l↔∀x∈l,x.NH
 |[]=>by simp[Cs.NHL]
 |x::r=>by simp[Cs.NHL,I5 (l:=r)]
theorem stTL_mem {n:ByteArray}:∀{l:List Tm},n∈Tm.K8 l↔∃x∈l,n∈x.stT
 |[]=>by simp[Tm.K8]
 |x::r=>by simp[Tm.K8,stTL_mem (l:=r)]
theorem cstTL_mem {n:ByteArray}:∀{l:List Cs},n∈Cs.K8 l↔∃x∈l,n∈x.stT
 |[]=>by simp[Cs.K8]
 |x::r=>by simp[Cs.K8,cstTL_mem (l:=r)]
abbrev LS.tok (s:LS) (b:ByteArray) (m:Nat):LS:={ s with tk:=U1 s.tk b (m:Int) }
end Go.Proofs.YtlbcipohiepjmaaDoor
