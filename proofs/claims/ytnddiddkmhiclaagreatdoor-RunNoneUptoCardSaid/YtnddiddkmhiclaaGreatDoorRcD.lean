import Derived.Test.YtnddiddkmhiclaaGreatDoorReuQ
import Derived.Shelf.SlMaps.Clone
import Derived.Shelf.Sort.Plain
import Derived.Sort.OwnSorted
import Derived.Shelf.Slices.CompactS
import Derived.Lib.RowBridge
set_option maxRecDepth 20000
set_option maxHeartbeats 16000000
set_option linter.unusedVariables false
set_option linter.unusedSimpArgs false
namespace Go.Proofs.YtnddiddkmhiclaaGreatDoor
section
open Classical Go.RowKit
theorem Xx7(b:ByteArray)(m:Nat):∀(N:Nat) (t:Tm),t.sz<=N->∀d∈t.Uk,d∈(t.put b m).Uk:=by
 intro N;induction N with
 |zero=>intro t h;have:=t.P8;omega
 |succ N g=>
  intro t C d f;obtain⟨k,n,a,U,vs,xs,cs⟩:=t;rw[Tm.sz]at C;rw[Tm.put];split
  ·rw[Tm.Uk,Tm.Yq];simp only[List.mem_append];exact .inr (.inl (.inl f))
  split
  ·rename_i I;subst I;rw[Tm.Uk,if_neg oM,List.nil_append]at f;rw[Tm.Uk];simp only[List.mem_append]at f⊢;exact .inr f
  have i:∀x∈xs,x.sz<=N:=λx J=>by have:=Tm.Z4 J;omega
  have j:∀l:List Tm,(∀x∈l,x.sz<=N)->∀d∈Tm.Yq l,d∈Tm.Yq (Tm.H8 b m l):=λl P d f=>by
   cases l with
   |nil=>exact f
   |cons x r=>
    rw[Tm.H8,Tm.Yq,List.mem_append];rw[Tm.Yq,List.mem_append]at f;exact f.elim (λh=>.inl (g x (P x (by simp)) d h)) .inr
  rw[Tm.Uk]at f;simp only[List.mem_append]at f;split
  ·rw[Tm.Uk];simp only[List.mem_append];rcases f with f|f|f
   ·exact .inl f
   ·refine .inr (.inl ?_);cases xs with
    |nil=>exact f
    |cons x r=>
     rw[Tm.Qd];rw[Tm.Yq,List.mem_append]at f;split
     ·rw[Tm.Yq,List.mem_append];exact f.elim (λh=>.inl (g x (i x (by simp)) d h)) .inr
     ·rw[Tm.Yq,List.mem_append];exact f.elim .inl λh=>.inr (j r (λz T=>i z (by simp[T])) d h)
   ·exact .inr (.inr f)
  split
  ·rw[Tm.Uk];simp only[List.mem_append];rcases f with f|f|f
   ·exact .inl f
   ·exact .inr (.inl f)
   ·refine .inr (.inr ?_);rw[Xb];obtain⟨c,o,h⟩:=QW.1 f;refine QW.2 ⟨_,List.mem_map.2 ⟨c,o,rfl⟩,?_⟩;obtain⟨t,ws,y⟩:=c;have:=Cs.Z4 o;rw[Cs.sz]at this;rw[Cs.put,Cs.Uk];rw[Cs.Uk]at h;exact g y oM d h
  ·rw[Tm.Uk];simp only[List.mem_append];rcases f with f|f|f
   ·exact .inl f
   ·exact .inr (.inl (j xs i d f))
   ·exact .inr (.inr f)
structure Ar (c:Int) (S O T:List ByteArray) (nt:Nat) (S' O' T':List ByteArray) (c':Int):Prop where
 lo:c<=c'
 hi:c'<=c+nt
 sn:∀n,n∈S'<->n∈S
 ow:∀n,n∈O'<->n∈O\/∃i,c<i/\i<=c'/\n=excl (JK i)
 st:∀d,d∈T'->d∈T\/∃i,c<i/\i<=c'/\d=JK i
 sb:∀d,d∈T->d∈T'
theorem Ar.refl(c:Int)(f ow st:List ByteArray)(nt:Nat):Ar c f ow st nt f ow st c:=
 ⟨Int.le_refl _,oM,λn=>Iff.rfl,λn=>⟨.inl,λh=>h.elim id λ⟨i,g,j,_⟩=>oM⟩,λd h=>.inl h,λd h=>h⟩
theorem Ar.append{c J P:Int}{T U t1 s2 o2 t2 l o r t C I:List ByteArray}{n1 n2:Nat}(g:Ar c T U t1 n1 l o r J)(j:Ar J s2 o2 t2 n2 t C I P):Ar c (T++s2) (U++o2) (t1++t2) (n1+n2) (l++t) (o++C) (r++I) P:=by
 have l1:=g.lo;have l2:=j.lo;have g1:=g.hi;have g2:=j.hi;refine⟨oM,by push_cast;omega,λn=>?_,λn=>?_,λd f=>?_,λd f=>?_⟩
 ·rw[List.mem_append,List.mem_append,g.sn,j.sn]
 ·rw[List.mem_append,List.mem_append,g.ow,j.ow];constructor
  ·rintro((h|⟨i,a,b,e⟩)|(h|⟨i,a,b,e⟩))
   ·exact .inl (.inl h)
   ·exact .inr ⟨i,a,oM,e⟩
   ·exact .inl (.inr h)
   ·exact .inr ⟨i,oM,b,e⟩
  ·rintro((h|h)|⟨i,a,b,e⟩)
   ·exact .inl (.inl h)
   ·exact .inr (.inl h)
   ·by_cases hi:i<=J
    ·exact .inl (.inr ⟨i,a,hi,e⟩)
    ·exact .inr (.inr ⟨i,oM,b,e⟩)
 ·rcases List.mem_append.1 f with f|f
  ·rcases g.st d f with h|⟨i,a,b,e⟩
   ·exact .inl (List.mem_append.2 (.inl h))
   ·exact .inr ⟨i,a,oM,e⟩
  ·rcases j.st d f with h|⟨i,a,b,e⟩
   ·exact .inl (List.mem_append.2 (.inr h))
   ·exact .inr ⟨i,oM,b,e⟩
 ·rcases List.mem_append.1 f with f|f
  ·exact List.mem_append.2 (.inl (g.sb d f))
  ·exact List.mem_append.2 (.inr (j.sb d f))
theorem Jz7:∀(N:Nat) (t:Tm) (c:Int),t.NH->t.Sh->0<=c->c+t.nt<9223372036854775807->Ar c t.Ux t.J9 t.Uk t.nt (t.ru N c).1.Ux (t.ru N c).1.J9 (t.ru N c).1.Uk (t.ru N c).2:=by
 intro N;induction N with
 |zero=>intro t c _ _ _ _;rw[Tm.ru];exact Ar.refl _ _ _ _ _
 |succ N ih=>
  intro t c hH U h0 I;obtain⟨k,n,a,b,vs,xs,cs⟩:=t;have hL:∀(l:List Tm) (c:Int),Tm.FZ l->Tm.RL l->0<=c->c+Tm.H9 l<9223372036854775807->Ar c (Tm.Y6 l) (Tm.Y7 l) (Tm.Yq l) (Tm.H9 l) (Tm.Y6 (Cw (Tm.ru N) l c).1) (Tm.Y7 (Cw (Tm.ru N) l c).1) (Tm.Yq (Cw (Tm.ru N) l c).1) (Cw (Tm.ru N) l c).2:=by
   intro l;induction l with
   |nil=>intro c _ _ _ _;exact Ar.refl _ _ _ _ _
   |cons x r C=>
    intro c h1 h2 h3 h4;rw[Tm.H9]at h4
    push_cast at h4
    have j:=ih x c h1.1 h2.1 h3 oM;have J:=j.lo;have P:=j.hi;have o:=C (x.ru N c).2 h1.2 h2.2 oM oM;rw[Cw];exact j.append o
  have hC:∀(l:List Cs) (c:Int),Cs.FZ l->Cs.RL l->0<=c->c+Cs.H9 l<9223372036854775807->Ar c (Cs.Y6 l) (Cs.Y7 l) (Cs.Yq l) (Cs.H9 l) (Cs.Y6 (QQ (Tm.ru N) l c).1) (Cs.Y7 (QQ (Tm.ru N) l c).1) (Cs.Yq (QQ (Tm.ru N) l c).1) (QQ (Tm.ru N) l c).2:=by
   intro l;induction l with
   |nil=>intro c _ _ _ _;exact Ar.refl _ _ _ _ _
   |cons x r C=>
    intro c h1 h2 h3 h4;obtain⟨t,ws,y⟩:=x;rw[Cs.H9,Cs.nt]at h4
    push_cast at h4
    have j:=ih y c h1.1 h2.1 h3 oM;have J:=j.lo;have P:=j.hi;have o:=C (y.ru N c).2 h1.2 h2.2 oM oM;rw[QQ];have g0:Ar c (Cs.mk t ws y).Ux (Cs.mk t ws y).J9 (Cs.mk t ws y).Uk (Cs.mk t ws y).nt (Cs.mk t ws (y.ru N c).1).Ux (Cs.mk t ws (y.ru N c).1).J9 (Cs.mk t ws (y.ru N c).1).Uk (y.ru N c).2:=by
     rw[Cs.Ux,Cs.Ux,Cs.J9,Cs.J9,Cs.Uk,Cs.Uk,Cs.nt];refine⟨j.lo,j.hi,j.sn,λn=>?_,j.st,j.sb⟩;rw[List.mem_append,List.mem_append,j.ow,or_assoc]
    exact g0.append o
  rw[Tm.nt]at I
  push_cast at I
  rw[Tm.ru];split
  ·rename_i hc;obtain⟨rfl,a1⟩:=hc;have a3:=U.2.1 oM;subst a3;have a4:c+1+(Tm.H9 xs:Int)<9223372036854775807:=by
    rw[if_pos rfl]at I;simp only[Cs.H9]at I;omega
   have hw:wr (c+1)=c+1:=VJ oM oM;rw[hw];cases xs with
   |nil=>simp[Tm.PZ]at a1
   |cons x r=>
    have hp:=SC (JK (c+1)) vs.length x.sz x (Nat.le_refl _);have a5:=Xx7 (JK (c+1)) vs.length x.sz x (Nat.le_refl _);rw[Tm.H8];have a2:Tm.H9 (x.put (JK (c+1)) vs.length::r)=Tm.H9 (x::r):=by rw[Tm.H9,Tm.H9,hp.nt]
    have g:=hL (x.put (JK (c+1)) vs.length::r) (c+1) ⟨hp.nh hH.2.1.1,hH.2.1.2⟩ ⟨hp.sh U.2.2.2.1.1,U.2.2.2.1.2⟩ oM (by rw[a2];exact a4);generalize Cw (Tm.ru N) (x.put (JK (c+1)) vs.length::r) (c+1)=X at g⊢;obtain⟨us,c'⟩:=X;rw[a2]at g;have J:=g.lo;have P:=g.hi;dsimp only at J P g⊢;refine⟨oM,?_,λm=>?_,λm=>?_,λd f=>?_,λd f=>?_⟩
    ·rw[Tm.nt,if_pos rfl];push_cast;omega
    ·rw[Tm.Ux,Tm.Ux,if_pos oM,if_pos oM];simp only[List.mem_append,g.sn,Cs.Y6];rw[Tm.Y6,Tm.Y6,List.mem_append,List.mem_append,hp.sn]
    ·rw[Tm.J9,Tm.J9,if_neg oM,if_pos rfl,if_neg oM,if_neg oM];simp only[List.mem_append,g.ow,Cs.Y7,List.mem_singleton,List.nil_append];rw[Tm.Y7,Tm.Y7,List.mem_append,List.mem_append,hp.ow];constructor
     ·rintro(h|(h|⟨i,e1,e2,T⟩)|h)
      ·exact .inr ⟨c+1,oM,oM,h⟩
      ·exact .inl (.inl h)
      ·exact .inr ⟨i,oM,e2,T⟩
      ·exact .inl (.inr h)
     ·rintro((h|h)|⟨i,e1,e2,T⟩)
      ·exact .inr (.inl (.inl h))
      ·exact .inr (.inr h)
      ·by_cases e:i=c+1
       ·exact .inl (by rw[T,e])
       ·exact .inr (.inl (.inr ⟨i,oM,e2,T⟩))
    ·rw[Tm.Uk,if_neg oM]at f;rw[Tm.Uk,if_neg oM];simp only[Cs.Yq,List.nil_append,List.append_nil]at f⊢;rcases g.st d f with h|⟨i,e1,e2,T⟩
     ·rw[Tm.Yq,List.mem_append]at h;rcases h with h|h
      ·rcases hp.st d h with h|h
       ·exact .inl (by rw[Tm.Yq,List.mem_append];exact .inl h)
       ·exact .inr ⟨c+1,oM,oM,h⟩
      ·exact .inl (by rw[Tm.Yq,List.mem_append];exact .inr h)
     ·exact .inr ⟨i,oM,e2,T⟩
    ·rw[Tm.Uk,if_neg oM]at f;rw[Tm.Uk,if_neg oM];simp only[Cs.Yq,List.nil_append,List.append_nil]at f⊢;refine g.sb d ?_;rw[Tm.Yq,List.mem_append]at f⊢;exact f.elim (λh=>.inl (a5 d h)) .inr
  ·have hx:(0:Int)<=(if k=10 then 1 else 0:Int):=by split<;> omega
   have a6:c+((Tm.H9 xs:Int)+(Cs.H9 cs:Int))<9223372036854775807:=by
    split at I<;> simp at I<;> omega
   have j:=hL xs c hH.2.1 U.2.2.2.1 h0 oM;have J:=j.lo;have P:=j.hi;have o:=hC cs (Cw (Tm.ru N) xs c).2 hH.2.2 U.2.2.2.2 oM oM;have g:=j.append o;generalize Cw (Tm.ru N) xs c=X at j o g J P⊢;obtain⟨us,c1⟩:=X;dsimp only at j o g J P⊢;generalize QQ (Tm.ru N) cs c1=Y at o g⊢;obtain⟨ds,c2⟩:=Y;dsimp only at o g⊢;have m1:=g.lo;have m2:=g.hi;refine⟨m1,?_,λm=>?_,λm=>?_,λd f=>?_,λd f=>?_⟩
   ·rw[Tm.nt];push_cast at m2⊢;split<;> omega
   ·have:=g.sn m;rw[Tm.Ux,Tm.Ux];simp only[List.mem_append]at this⊢;rw[this]
   ·have:=g.ow m;rw[Tm.J9,Tm.J9];simp only[List.mem_append]at this⊢;rw[this];simp only[or_assoc]
   ·rw[Tm.Uk,List.mem_append]at f;rw[Tm.Uk,List.mem_append];rcases f with f|f
    ·exact .inl (.inl f)
    ·exact(g.st d f).elim (λh=>.inl (.inr h)) .inr
   ·rw[Tm.Uk,List.mem_append]at f⊢;rcases f with f|f
    ·exact .inl f
    ·exact .inr (g.sb d f)
theorem Xx1{N:Nat}{x:Tm}(h:x.tk=1)(f:x.Sh)(c:Int):x.ru N c=(x,c):=by
 cases N with
 |zero=>rfl
 |succ N=>
  obtain⟨k,n,a,b,vs,xs,cs⟩:=x;rw[Tm.tk]at h;subst h;rw[Tm.ru,if_neg oM,f.1 (.inl rfl),f.2.1 oM];rfl
theorem VU{N:Nat}:∀{xs:List Tm},(∀x∈xs,x.tk=1)->Tm.RL xs->∀c,Cw (Tm.ru N) xs c=(xs,c)
 |[],_,_,c=>rfl
 |x::r,h,f,c=>by
  rw[Cw,Xx1 (h x (by simp)) f.1,VU (λy g=>h y (by simp[g])) f.2]
theorem Qw3{n:Int}{a b:ByteArray}{vs:List ByteArray}{x:Tm}{cs:List Cs}{s:LS}(h:(s.Xq a vs).1=0)(f:J3 s.tk b=none)(g:b≠.empty)(i:x.Y0 ((s.Xq a vs).2.tok b vs.length)=0):(Tm.mk 11 n a b vs [x] cs).Y0 s=0:=by
 rw[Tm.Y0,if_neg oM,if_neg oM,if_neg oM,if_neg oM,if_neg oM,if_neg oM,if_pos oM,if_neg (by simp),if_neg oM,if_neg oM,if_neg oM,if_neg (by simpa using h),if_pos rfl,if_neg (by rw[f];simp[g])];exact V3 i
theorem Hr(nm:ByteArray):∀(vs:List ByteArray) {s:LS},(∀d,J3 s.ct (excl d)=none)->(∀v∈vs,∀d,v≠excl d)->∀d,J3 (s.K8 nm vs).2.ct (excl d)=none
 |[],s,h,_,d=>h d
 |v::r,s,h,f,d=>by
  rw[LS.K8];split
  ·exact h d
  ·refine Hr nm r (s:=s.inc v) (λd=>?_) (λu g=>f u (by simp[g])) d;unfold LS.inc;dsimp only;rw[Xj,if_neg (f v (by simp) d)];exact h d
theorem Qx0{x f:Tm}{c J:Int}(hc:0<=c)(g:Ar c x.Ux x.J9 x.Uk x.nt f.Ux f.J9 f.Uk J){s:LS}(l:∀i,c<i->J3 s.tk (JK i)=none)(P:∀d,J3 s.ct (excl d)=none):(s.fst x).ZP (s.fst f)/\∀a,({ s.Nz x with ct:=Jz (s.Nz x).ct a 1 }:LS).ZP { s.Nz f with ct:=Jz (s.Nz f).ct a 1 }:=by
 have C:∀n,J3 s.ct n≠none->f.P5 n=x.P5 n:=λn l=>by
  have j:∀d,n≠excl d:=λd e=>l (by rw[e];exact P d)
  unfold Tm.P5;have o:hasB f.Ux n=hasB x.Ux n:=by rw[Bool.eq_iff_iff,X9,X9,g.sn]
  have r:hasB f.J9 n=hasB x.J9 n:=by
   rw[Bool.eq_iff_iff,X9,X9,g.ow];exact⟨λh=>h.elim id λ⟨i,_,_,e⟩=>absurd e (j _),.inl⟩
  rw[o,r]
 have I:∀d,J3 s.tk d≠none->f.Tz d=x.Tz d:=λd T=>by
  have j:∀i,c<i->d≠JK i:=λi U e=>T (by rw[e];exact l i U)
  unfold Tm.Tz;have o:hasB f.Uk d=hasB x.Uk d:=by
   rw[Bool.eq_iff_iff,X9,X9];exact⟨λh=>(g.st d h).elim id λ⟨i,t,_,e⟩=>absurd e (j i t),g.sb d⟩
  have r:hasB f.J9 (excl d)=hasB x.J9 (excl d):=by
   rw[Bool.eq_iff_iff,X9,X9,g.ow];exact⟨λh=>h.elim id λ⟨i,t,_,e⟩=>absurd (EJ e) (j i t),.inl⟩
  rw[o,r]
 refine⟨⟨λn=>?_,λ_=>rfl,λd=>?_⟩,λa=>⟨λn=>?_,λ_=>rfl,λd=>?_⟩⟩
 ·unfold LS.fst;dsimp only;rw[Fv (λ_ k=>Mk k),Fv (λ_ k=>Mk k),Zq,Zq];by_cases h:J3 s.ct n=none
  ·rw[h];split<;> split<;> rfl
  ·rw[C n h]
 ·unfold LS.fst;dsimp only;rw[Zq,Zq];by_cases h:J3 s.tk d=none
  ·rw[h];split<;> split<;> rfl
  ·rw[I d h]
 ·unfold LS.Nz;dsimp only;rw[Xj,Xj,Fv (λk v=>if x.P5 k then v-Mk v else v),Fv (λk v=>if f.P5 k then v-Mk v else v)];by_cases h:J3 s.ct n=none
  ·rw[h];rfl
  ·rw[C n h]
 ·unfold LS.Nz;dsimp only;rw[Zq (λk=>!x.Tz k),Zq (λk=>!f.Tz k)];by_cases h:J3 s.tk d=none
  ·rw[h];split<;> split<;> rfl
  ·rw[I d h]
theorem Xx2:∀(N:Nat) (t:Tm) (c:Int) (s:LS),t.dp<=N->t.NH->t.Sh->t.Nx->0<=c->c+t.nt<9223372036854775807->(∀i,c<i->JK i ∉ t.Uk)->s.Ok->(∀i,c<i->J3 s.tk (JK i)=none)->(∀d,J3 s.ct (excl d)=none)->t.Y0 s=0->(t.ru N c).1.Y0 s=0:=by
 intro N;induction N with
 |zero=>intro t c s _ _ _ _ _ _ _ _ _ _ h;rw[Tm.ru];exact h
 |succ N ih=>
  intro t c s hd hH o hX h0 hb hf C U hn h;obtain⟨k,n,a,b,vs,xs,cs⟩:=t;rw[Tm.dp]at hd;rw[Tm.nt]at hb
  push_cast at hb
  obtain⟨n1,n2,n3,n4⟩:=hX;have a4:∀x∈xs,∀i,c<i->JK i ∉ x.Uk:=λx hx i j hm=>hf i j (by rw[Tm.Uk];simp only[List.mem_append,Xu];exact .inr (.inl ⟨x,hx,hm⟩))
  have b2:∀t ws y,Cs.mk t ws y∈cs->∀i,c<i->JK i ∉ y.Uk:=λt ws y hx i j hm=>hf i j (by rw[Tm.Uk];simp only[List.mem_append,QW];exact .inr (.inr ⟨_,hx,by rw[Cs.Uk];exact hm⟩))
  have a5:∀x∈xs,x.dp<=N:=λx hx=>by have:=UF hx;split at hd<;> omega
  rcases XG h with rfl|rfl|h3|rfl|rfl|rfl|h8
  ·rw[Tm.ru,if_neg oM,o.1 (.inl rfl),o.2.1 oM];rw[Qw4]at h⊢;exact h
  ·rw[Tm.ru,if_neg oM,o.1 (.inr rfl),o.2.1 oM];rw[Qw2]at h⊢;exact h
  ·rw[ZA h3]at h;rw[Tm.ru,if_neg oM,VU (Oz (LS.R4 h).1) o.2.2.2.1,ZA h3];exact h
  ·have b3:=Em h;rw[Tm.ru,if_neg oM,VU (Oz (LS.R4 b3.2).1) o.2.2.2.1,o.2.1 oM];dsimp only[QQ];rw[o.2.1 oM]at h;exact h
  ·obtain⟨x,y,rfl,h1,h2,h3⟩:=IA h;rw[o.2.1 oM]at hb⊢;rw[if_neg oM]at hb;simp only[Tm.H9,Cs.H9]at hb;have g1:=Jz7 N x c hH.2.1.1 o.2.2.2.1.1 h0 oM;have l1:=g1.lo;have l2:=g1.hi;obtain⟨sF,sR⟩:=Qx0 h0 g1 U hn;rw[Tm.ru,if_neg oM];dsimp only[Cw,QQ];have oR:=LS.O3 (LS.Zi C x) a (show(0:Int)<=1 by omega);have a6:=LS.O3 (LS.Zi C (x.ru N c).1) a (show(0:Int)<=1 by omega);refine YV h1 ?_ ?_
   ·refine ih x c _ (a5 x (by simp)) hH.2.1.1 o.2.2.2.1.1 n3.1 h0 oM (a4 x (by simp)) (LS.Qr C _) (λi j=>?_) (λd=>?_) (QJ _ _ (Nat.le_refl _) _ _ (LS.Qr C x) (LS.Qr C _) sF h2)
    ·unfold LS.fst;dsimp only;rw[Zq,U i j];split<;> rfl
    ·unfold LS.fst;dsimp only;rw[Fv (λ_ k=>Mk k),Zq,hn d];split<;> rfl
   ·refine ih y (x.ru N c).2 _ (a5 y (by simp)) hH.2.1.2.1 o.2.2.2.1.2.1 n3.2.1 oM oM (λi j=>a4 y (by simp) i oM) a6 (λi j=>?_) (λd=>?_) (QJ _ _ (Nat.le_refl _) _ _ oR a6 (sR a) h3)
    ·unfold LS.Nz;dsimp only;rw[Zq (λk=>!(x.ru N c).1.Tz k),U i oM];split<;> rfl
    ·unfold LS.Nz;dsimp only;rw[Xj,if_neg (n1 oM d),Fv (λk v=>if (x.ru N c).1.P5 k then v-Mk v else v),hn d];rfl
  ·obtain⟨x,rfl,hx,h1,h2⟩:=Iu h;rw[Tm.ru,if_neg oM,VU (λy hy=>by simp only[List.mem_singleton]at hy;subst hy;exact hx) o.2.2.2.1];dsimp only;refine Uo hx h1 ?_;have b4:∀t ws y,Cs.mk t ws y∈cs->y.dp<=N:=λt ws y hm=>by
    have:=UN hm;rw[Cs.dp]at this;rw[if_neg oM]at hd;omega
   rw[if_neg oM]at hb;have:∀(l:List Cs) (c':Int),(∀z∈l,z∈cs)->c<=c'->c'+Cs.H9 l<9223372036854775807->∀z∈(QQ (Tm.ru N) l c').1,z.Y0 s x.nm=0:=by
    intro l;induction l with
    |nil=>intro c' _ _ _ z hz;simp[QQ]at hz
    |cons z r b5=>
     intro c' hm c2 a7 w hw;obtain⟨tg,ws,y⟩:=z;have I:=hm _ (List.mem_cons_self ..);rw[Cs.H9,Cs.nt]at a7
     push_cast at a7
     have a8:y.NH:=I7.1 hH.2.2 _ I;have a9:y.Sh:=P6.1 o.2.2.2.2 _ I;have b0:=S9.1 n4 _ I;have g1:=Jz7 N y c' a8 a9 oM oM;have l1:=g1.lo;have l2:=g1.hi;rw[QQ]at hw;rcases List.mem_cons.1 hw with rfl|hw
     ·obtain⟨e1,e2⟩:=XR (h2 _ I);obtain⟨p1,p2⟩:=Ui x.nm ws e1;obtain⟨-,m2,-⟩:=Uh x.nm ws (s:=s) p1 p2;obtain⟨q1,q2,q3⟩:=LS.Xe _ ws C e1;rw[Cs.Y0,if_neg (by simpa using e1)];refine ih y c' _ (b4 _ _ _ I) a8 a9 b0.2 oM oM (λi j=>b2 _ _ _ I i oM) q1 (λi j=>by rw[q3];exact U i oM) (λd=>?_) e2;have:=m2 (excl d);rw[hn d]at this;have b6:excl d ∉ ws:=λhw=>b0.1 _ hw d rfl
      simpa[b6]using this
     ·exact b5 (y.ru N c').2 (λz hz=>hm z (List.mem_cons_of_mem _ hz)) oM oM w hw
   refine this cs c (λ_ h=>h) (Int.le_refl _) ?_;simp only[Tm.H9]at hb;omega
  ·obtain⟨x,rfl,p8,p9,b7,b1,c3⟩:=Ei h8 h;have b8:=o.2.1 (show k≠7 by omega);subst b8;have a2:=a5 x (by simp);have J:=hH.2.1.1;have P:=o.2.2.2.1.1;have a1:=n3.1;have T:=a4 x (by simp);simp only[Tm.H9,Cs.H9]at hb;have a3:c+(x.nt:Int)<9223372036854775807:=by split at hb<;> omega
   rw[Tm.ru];split
   ·rename_i hc;obtain⟨rfl,c1⟩:=hc;obtain⟨f,g⟩:=b1 rfl;obtain⟨q1,q2,q3⟩:=LS.Ud C f;rw[if_pos rfl]at hb hd;have hw:wr (c+1)=c+1:=VJ oM oM;rw[hw,Tm.H8];dsimp only[Cw];have hp:=SC (JK (c+1)) vs.length x.sz x (Nat.le_refl _);have b9:J3 (s.Xq a vs).2.tk (JK (c+1))=none:=by rw[q3];exact U _ oM
    have c0:=Zk8 (JK (c+1)) vs.length x.sz x (Nat.le_refl _) J P (T _ oM) _ q1 b9 g;refine Qw3 f (U _ oM) (Xw3 _) ?_;refine ih _ (c+1) _ ?_ (hp.nh J) (hp.sh P) (hp.nx a1) oM ?_ (λi j hm=>?_) (LS.Gy q1 _ _) (λi j=>?_) (λd=>?_) c0
    ·have h1:=hp.dp;rw[Tm.UG,Tm.UG,Cs.UG]at hd;omega
    ·rw[hp.nt];omega
    ·rcases hp.st _ hm with h|h
     ·exact T i oM h
     ·have:=BU oM oM h;omega
    ·dsimp only;rw[Xj,if_neg (λe=>by have:=BU oM oM e;omega),q3];exact U i oM
    ·show J3 (s.Xq a vs).2.ct (excl d)=none;have ho:=Hr a vs hn (n2 rfl) d;unfold LS.Xq at f⊢;split
     ·exact ho
     ·rename_i h1;rw[if_neg h1]at f;have:=(LS.D5 (XC a vs C) f).2.2.2.2.1 (excl d);rw[ho]at this;simpa using this
   ·dsimp only[Cw,QQ];rcases h8 with rfl|rfl|rfl|rfl|rfl
    ·obtain⟨f,g⟩:=p8 rfl;refine PK f (ih x c _ a2 J P a1 h0 a3 T (LS.Qp C a).1 U (λd=>?_) g);unfold LS.inc;dsimp only;rw[Xj,if_neg (n1 oM d)];exact hn d
    ·obtain⟨f,g⟩:=p9 rfl;obtain⟨q1,-,q3,-,q5,-⟩:=LS.D5 C f;refine PI f (ih x c _ a2 J P a1 h0 a3 T q1 (λi j=>by rw[q3];exact U i j) (λd=>?_) g);have:=q5 (excl d);rw[hn d]at this;simpa using this
    ·obtain⟨f,g⟩:=b1 rfl;obtain⟨q1,-,q3⟩:=LS.Ud C f;refine Dp f (ih x c _ a2 J P a1 h0 a3 T q1 (λi j=>by rw[q3];exact U i j) (λd=>?_) g);have ho:=Hr a vs hn (n2 rfl) d;unfold LS.Xq at f⊢;split
     ·exact ho
     ·rename_i h1;rw[if_neg h1]at f;have:=(LS.D5 (XC a vs C) f).2.2.2.2.1 (excl d);rw[ho]at this;simpa using this
    ·exact absurd rfl hH.1
    ·obtain⟨f,g⟩:=b7 rfl;refine Dn f (ih x c _ a2 J P a1 h0 a3 T (LS.I8 C (C.kt.filter _)) (λi j=>?_) hn g);show J3 (Pk s.tk b) (JK i)=none;rw[Zy,U i j];split<;> rfl
def RX(n:ByteArray):Prop:=∀d,n≠excl d
theorem YP{n:ByteArray}(h:F9 n=true):RX n:=λd e=>by
 have g:n[0]? =some 33:=by
  rw[e];unfold excl;have i:0<(⟨#[33]⟩++d:ByteArray).size:=by
   rw[ByteArray.size_append];have:(⟨#[33]⟩:ByteArray).size=1:=rfl;omega
  rw[getElem?_pos _ 0 i];congr 1
 unfold F9 at h;simp only[Bool.and_eq_true,List.all_eq_true,decide_eq_true_eq]at h;have f:=h.1 0 (List.mem_range.2 oM);rw[g]at f;exact absurd f (by decide)
structure FX (t:Tm):Prop where
 sh:t.Sh
 s1:t.S1
 nh:t.NH
 nx:t.Nx
theorem Jt{k:Int}(i:k=8\/k=9):∀(l:List ByteArray) {t:Tm},(∀n∈l,RX n)->FX t->FX (cnt k l t)
 |[],_,_,h=>h
 |a::r,t,f,h=>by
  have g:=Jt i r (λn j=>f n (by simp[j])) h;exact⟨⟨oM,λ_=>rfl,oM,⟨g.sh,trivial⟩,trivial⟩,⟨λ_=>⟨⟨_,rfl⟩,rfl⟩,⟨g.s1,trivial⟩,trivial⟩,⟨oM,⟨g.nh,trivial⟩,trivial⟩,⟨λ_=>f a (by simp),oM,⟨g.nx,trivial⟩,trivial⟩⟩
theorem Tg{ws:List ByteArray}(h:YC ws=false):∀w∈ws,F9 w=true:=λw f=>by
 unfold YC at h;rw[List.any_eq_false]at h;have:=h w f;simpa using this
theorem Nb(f:X6):∀(N:Nat) (t:Tm) (names:List ByteArray) (g:Int),t.sz<N->t.wrong f names g=0->(∀n∈names,RX n)->FX t/\t.Uk=[]:=by
 intro N;induction N with
 |zero=>intro t _ _ h;omega
 |succ N ih=>
  intro t names g hN h U;obtain⟨k,m,a,b,vs,xs,cs⟩:=t;obtain⟨h1,J,h3,P,I,h6,h7⟩:=K3 h;rw[Tm.sz]at hN;have ha:k=1\/k=6->RX a:=λl=>by
   unfold Y2 at I;rcases l with rfl|rfl
   ·rw[if_pos rfl]at I;split at I
    ·rename_i hh;exact U a (X9.1 hh)
    ·cases I
   ·rw[if_neg oM,if_neg oM,if_neg oM,if_neg oM,if_pos rfl]at I;split at I
    ·rename_i hh;exact YP hh
    ·cases I
  have C:∀x∈xs,FX x/\x.Uk=[]:=λx C=>by
   obtain⟨j,hj⟩:=List.mem_iff_getElem?.1 C;have hs:x.sz<=Tm.Xv xs:=Tm.Z4 C;refine ih x _ (g+1) oM (G6 h6 j x hj) λn i=>?_
   split at i
   ·rename_i hc;rcases List.mem_append.1 i with i|i
    ·exact U n i
    ·simp only[List.mem_singleton]at i;subst i;exact ha (.inr hc.1)
   ·exact U n i
  have T:k≠7->cs=[]:=λl=>by
   unfold Xx at P;simp[l]at P;exact P.2
  have o:Tm.RL xs/\Tm.FD xs/\Tm.FZ xs/\Tm.Tp xs/\Tm.Yq xs=[]:=by
   refine⟨QN.2 λx h=>(C x h).1.sh,Ow.2 λx h=>(C x h).1.s1,Kg.2 λx h=>(C x h).1.nh,Ke.2 λx h=>(C x h).1.nx,?_⟩;exact List.eq_nil_iff_forall_not_mem.2 λd hd=>by
    obtain⟨x,h1,J⟩:=Xu.1 hd;rw[(C x h1).2]at J;cases J
  have r:Cs.RL cs/\Cs.FD cs/\Cs.FZ cs/\Cs.Tp cs/\Cs.Yq cs=[]:=by
   by_cases l:k=7
   ·have key:∀t ws y,Cs.mk t ws y∈cs->(FX y/\y.Uk=[])/\∀w∈ws,RX w:=λt ws y i=>by
     obtain⟨-,-,-,q4,-,q6⟩:=Nq (h7 l).2.2 i;have hw:∀w∈ws,RX w:=λw hw=>YP (Tg q4 w hw)
     have hs:(Cs.mk t ws y).sz<=Cs.Xv cs:=Cs.Z4 i;rw[Cs.sz]at hs;exact⟨ih y _ (g+1) oM q6 λn i=>(List.mem_append.1 i).elim (U n) (hw n),hw⟩
    refine⟨P6.2 λc h=>?_,F5.2 λc h=>?_,I7.2 λc h=>?_,S9.2 λc h=>?_,?_⟩
    ·obtain⟨t,ws,y⟩:=c;exact(key t ws y h).1.1.sh
    ·obtain⟨t,ws,y⟩:=c;exact(key t ws y h).1.1.s1
    ·obtain⟨t,ws,y⟩:=c;exact(key t ws y h).1.1.nh
    ·obtain⟨t,ws,y⟩:=c;exact⟨(key t ws y h).2,(key t ws y h).1.1.nx⟩
    ·exact List.eq_nil_iff_forall_not_mem.2 λd hd=>by
      obtain⟨c,h1,J⟩:=QW.1 hd;obtain⟨t,ws,y⟩:=c;rw[Cs.Uk,(key t ws y h1).1.2]at J;cases J
   ·rw[T l];exact⟨trivial,trivial,trivial,trivial,rfl⟩
  refine⟨⟨⟨λl=>?_,T,λl e=>(h7 l).1 (by rw[e];rfl),o.1,r.1⟩,⟨oM,o.2.1,r.2.1⟩,⟨oM,o.2.2.1,r.2.2.1⟩,⟨λl=>ha oM,oM,o.2.2.2.1,r.2.2.2.1⟩⟩,?_⟩
  ·unfold Xx at P;rcases l with rfl|rfl<;> simp at P<;> exact P.1
  ·rw[Tm.Uk,if_neg oM,o.2.2.2.2,r.2.2.2.2];rfl
theorem Bp{x:Tm}(h:FX x)(f:x.tk=1):RX x.nm:=by
 obtain⟨k,n,a,b,vs,xs,cs⟩:=x;exact h.nx.1 (.inl f)
theorem Xj5:∀(d:Nat) (t:Tm) (has:List ByteArray),t.Rt d->t.Gp=true->FX t->(∀n∈has,RX n)->FX (t.ow has):=by
 intro d;induction d with
 |zero=>intro t _ h;exact h.elim
 |succ d ih=>
  intro t has hR hP i hh;obtain⟨k,n0,a,b,vs,xs,cs⟩:=t;have C:=hR;obtain⟨hk,-,-,hx,hc⟩:=hR;rw[Tm.Gp,Bool.and_eq_true]at hP;obtain⟨l,a1⟩:=hP;have o:∀x∈xs,FX x:=λx g=>⟨QN.1 i.sh.2.2.2.1 x g,Ow.1 i.s1.2.1 x g,Kg.1 i.nh.2.1 x g,Ke.1 i.nx.2.2.1 x g⟩
  have a2:∀t ws y,Cs.mk t ws y∈cs->FX y/\∀w∈ws,RX w:=λt ws y g=>⟨⟨P6.1 i.sh.2.2.2.2 _ g,F5.1 i.s1.2.2 _ g,I7.1 i.nh.2.2 _ g,(S9.1 i.nx.2.2.2 _ g).2⟩,(S9.1 i.nx.2.2.2 _ g).1⟩
  rw[Tm.ow];generalize hF:(Tm.mk k n0 a b vs xs cs).free=F;have r:∀n∈Uq has F,RX n:=λn f=>hh n (U3.1 f).1
  refine Jt (.inr rfl) _ (λn f=>hh n (J8.1 f).1) ?_;split
  ·rename_i h3;have j:=Uu oM l;refine Jt (.inl rfl) _ (λn f=>?_) i;obtain⟨x,I,rfl⟩:=Zp xs [] n f;exact Bp (o x I) (j x I)
  split
  ·rename_i h6;subst h6;obtain⟨x,y,rfl,rfl,a3,a4⟩:=WF C;have a5:=Jm l x (by simp);have a6:=Jm l y (by simp);generalize Uq has F=O at r;rw[PM,Dr,Tm.VH,Tm.VH,Tm.VH];simp only[List.headD_cons,List.tail_cons];have ha:RX a:=i.nx.1 oM;have U:=ih x (Uq O x.free) a3 a5 (o x (by simp)) λn f=>r n (U3.1 f).1
   have gy:=ih y (Uq O (Rv y.free [a])++[a]) a4 a6 (o y (by simp)) λn f=>by
    rcases List.mem_append.1 f with f|f
    ·exact r n (U3.1 f).1
    ·simp only[List.mem_singleton]at f;subst f;exact ha
   refine Jt (.inl rfl) _ (λn f=>r n (U3.1 (U3.1 f).1).1) ?_;exact⟨⟨oM,λ_=>rfl,oM,⟨U.sh,gy.sh,trivial⟩,trivial⟩,⟨oM,⟨U.s1,gy.s1,trivial⟩,trivial⟩,⟨oM,⟨U.nh,gy.nh,trivial⟩,trivial⟩,⟨λ_=>ha,oM,⟨U.nx,gy.nx,trivial⟩,trivial⟩⟩
  split
  ·rename_i h7;subst h7;have j:=Uu oM l;obtain⟨J,rfl,b2⟩:=LJ C;have a7:Xn [J]=J.nm:=rfl;have P:=o J (by simp);have a8:=Bp P (j J (by simp));generalize Uq has F=O at r;rw[Hg,a7];have key:∀c∈cs,∃t ws y',c.ow O J.nm= .mk t ws y'/\FX y'/\∀w∈ws,RX w:=λc g=>by
    obtain⟨t,ws,y⟩:=c;obtain⟨a9,T⟩:=a2 t ws y g;refine⟨t,ws,_,by rw[Cs.ow],?_,T⟩;refine Jt (.inl rfl) _ (λn f=>T n (U3.1 f).1) (Jt (.inr rfl) _ (λn f=>?_) (ih y _ (hc _ g).2 (UL a1 t ws y g) a9 λn f=>?_))
    ·split at f
     ·cases f
     ·simp only[List.mem_singleton]at f;subst f;exact a8
    ·have:n∈O++Uq ws y.free:=by
      split at f
      ·exact f
      ·exact(J8.1 f).1
     rcases List.mem_append.1 this with h|h
     ·exact r n h
     ·exact T n (U3.1 h).1
   have b0:cs≠[]:=i.sh.2.2.1 rfl;refine⟨⟨oM,oM,λ_ e=>b0 (by simpa using e),⟨P.sh,trivial⟩,P6.2 λc h=>?_⟩,⟨oM,⟨P.s1,trivial⟩,F5.2 λc h=>?_⟩,⟨oM,⟨P.nh,trivial⟩,I7.2 λc h=>?_⟩,⟨oM,oM,⟨P.nx,trivial⟩,S9.2 λc h=>?_⟩⟩;all_goals
    obtain⟨c0,b1,rfl⟩:=List.mem_map.1 h;obtain⟨t,ws,y',e,hy,T⟩:=key c0 b1;rw[e]
   ·exact hy.sh
   ·exact hy.s1
   ·exact hy.nh
   ·exact⟨T,hy.nx⟩
  ·exact i
theorem Xz4:∀(N:Nat) (t:Tm) (f:List ByteArray),t.sz<=N->FX t->FX (t.sr f).2/\∀n∈(t.sr f).1,n∈f:=by
 intro N;induction N with
 |zero=>intro t _ h;have:=t.P8;omega
 |succ N o=>
  intro t f l g;obtain⟨k,n,a,b,vs,xs,cs⟩:=t;rw[Tm.sr];by_cases i:k=8/\hasB f a=true
  ·rw[if_pos i];obtain⟨⟨x,rfl⟩,rfl⟩:=g.s1.1 (.inl i.1);rw[Tm.Bl];have j:x.sz<=N:=by
    rw[Tm.sz]at l;simp only[Tm.Xv]at l;omega
   obtain⟨r,C⟩:=o x (Rv f [a]) j ⟨g.sh.2.2.2.1.1,g.s1.2.1.1,g.nh.2.1.1,g.nx.2.2.1.1⟩;exact⟨r,λn I=>(J8.1 (C n I)).1⟩
  ·rw[if_neg i];exact⟨g,λn h=>h⟩
theorem IP{k:Int}{na:Nat}{nm:ByteArray}{ws:List ByteArray}{y:Tm}(o:FX y)(r:∀w∈ws,RX w):FX (Rq k na nm ws y):=by
 unfold Rq;split
 ·rename_i f;obtain⟨-,-,-,C,I⟩:=f;obtain⟨i,J⟩:=Xz4 y.sz y ws (Nat.le_refl _) o;generalize y.sr ws=Z at *;obtain⟨j,z⟩:=Z;dsimp only at *;obtain⟨k,n,a,b,vs,xs,cs⟩:=z;rw[Tm.tk]at C;subst C;obtain⟨⟨x,rfl⟩,rfl⟩:=i.s1.1 (.inr (.inl rfl));have l:(Tm.mk 9 n a b vs [x] []).a0=x:=rfl;rw[l];have g:=Jt (k:=9) (.inr rfl) j (t:=x) (λn P=>r n (J n P)) ⟨i.sh.2.2.2.1.1,i.s1.2.1.1,i.nh.2.1.1,i.nx.2.2.1.1⟩;exact⟨⟨oM,λ_=>rfl,oM,⟨g.sh,trivial⟩,trivial⟩,⟨λ_=>⟨⟨_,rfl⟩,rfl⟩,⟨g.s1,trivial⟩,trivial⟩,⟨oM,⟨g.nh,trivial⟩,trivial⟩,⟨oM,λ_=>r,⟨g.nx,trivial⟩,trivial⟩⟩
 ·exact o
theorem Xg3:∀(N:Nat) (t:Tm),t.sz<=N->FX t->FX t.fu:=by
 intro N;induction N with
 |zero=>intro t h;have:=t.P8;omega
 |succ N T=>
  intro t U f;obtain⟨k,n,a,b,vs,xs,cs⟩:=t;rw[Tm.sz]at U;have hx:∀x∈xs,FX x.fu:=λx i=>T x (by have:=Tm.Z4 i;omega) ⟨QN.1 f.sh.2.2.2.1 x i,Ow.1 f.s1.2.1 x i,Kg.1 f.nh.2.1 x i,Ke.1 f.nx.2.2.1 x i⟩
  have J:∀c∈cs,∃t ws I,c.fu k xs.length (Xn xs)= .mk t ws I/\FX I/\∀w∈ws,RX w:=λc i=>by
   obtain⟨t,ws,y⟩:=c;have o:=(S9.1 f.nx.2.2.2 _ i).1;have hs:(Cs.mk t ws y).sz<=Cs.Xv cs:=Cs.Z4 i;rw[Cs.sz]at hs;exact⟨t,ws,_,by rw[Cs.fu],IP (T y oM ⟨P6.1 f.sh.2.2.2.2 _ i,F5.1 f.s1.2.2 _ i,I7.1 f.nh.2.2 _ i,(S9.1 f.nx.2.2.2 _ i).2⟩) o,o⟩
  rw[Tm.fu,Tm.Aw,Cs.Aw];have j:∀u∈xs.map Tm.fu,FX u:=λu l=>by obtain⟨x,P,rfl⟩:=List.mem_map.1 l;exact hx x P
  refine⟨⟨λh=>by rw[f.sh.1 h];rfl,λh=>by rw[f.sh.2.1 h];rfl,λh e=>f.sh.2.2.1 h (by simpa using e),QN.2 λu l=>(j u l).sh,P6.2 λc h=>?_⟩,⟨λh=>?_,Ow.2 λu l=>(j u l).s1,F5.2 λc h=>?_⟩,⟨f.nh.1,Kg.2 λu l=>(j u l).nh,I7.2 λc h=>?_⟩,⟨f.nx.1,f.nx.2.1,Ke.2 λu l=>(j u l).nx,S9.2 λc h=>?_⟩⟩
  ·obtain⟨r,g,rfl⟩:=List.mem_map.1 h;obtain⟨t,ws,I,e,C,o⟩:=J r g;rw[e];exact C.sh
  ·obtain⟨⟨x,rfl⟩,rfl⟩:=f.s1.1 h;exact⟨⟨_,rfl⟩,rfl⟩
  ·obtain⟨r,g,rfl⟩:=List.mem_map.1 h;obtain⟨t,ws,I,e,C,o⟩:=J r g;rw[e];exact C.s1
  ·obtain⟨r,g,rfl⟩:=List.mem_map.1 h;obtain⟨t,ws,I,e,C,o⟩:=J r g;rw[e];exact C.nh
  ·obtain⟨r,g,rfl⟩:=List.mem_map.1 h;obtain⟨t,ws,I,e,C,o⟩:=J r g;rw[e];exact⟨o,C.nx⟩
end
section
open Go.RowKit
attribute [local simp] Jb WL WQ WA VO QA Zo Pv Uw Wv Vk Vj Y4 V8 Xo V5 Gj O1 Value.oneCell' X4 Q4 Z6 Yn Nv Z5 AS.after Zz Uj K7 AV.ids ZB Q9.ids UC Qy E5 Nw Lx Kk V9 Gz D8 D6 U4 KI ZQ setAt Fz Je O4 XT L8 XU WY AV.cells Yv K9 L6 M6 AV.kill Q9.kill AV.has AV.Uv Op.operands Call.operands Qf QB X3 Km Zw Jv ZV NE Qt Mj Vv AV.ren ZU Q9.ren Q9.like kept X7 Zr AV.F7 ZC Jp JD Qo Hw AS.F7 Xf T9 Q9.F7 Sz FV Nat.ble_eq Ez E9 U6 D.U7 Xa Ij Rw H6 Ki XM O5 Bw Fx R8 Low ZX
theorem Cu{k:Int}{na:Nat}{nm:ByteArray}{f g:List ByteArray}{y z:Tm}(i:y.sr f=(g,z))(j:f.length≠0)(l:na=1)(o:k=7)(r:z.tk=9)(t:z.nm=nm):Rq k na nm f y= .mk 10 0 nm .empty f [cnt 9 g z.a0] []:=by
 unfold Rq;rw[i];exact if_pos ⟨j,l,o,r,t⟩
theorem F3{k:Int}{na:Nat}{nm:ByteArray}{f g:List ByteArray}{y z:Tm}(i:y.sr f=(g,z))(h:f.length≠0->na=1->k=7->z.tk=9->z.nm=nm->False):Rq k na nm f y=y:=by
 unfold Rq;rw[i];exact if_neg λ⟨j,l,o,r,t⟩=>h j l o r t
def FdN(N:Nat):Prop:=∀t:Tm,t.sz<=N->t.Ok->t.Du->Qv Tryz.prog 45 [Y3 t] (λ_=>Y3 t.fu) none
theorem Zg3(N:Nat)(ih:FdN N):FdN (N+1):=by
 intro t e0 hO hD;obtain⟨R,hR⟩:∃R,R=t.fu:=⟨_,rfl⟩
 rw[<-hR];obtain⟨rk,rn,ra,rb,g1,g2,g3⟩:=R;obtain⟨tk,tn,ta,tb,a3,f,g⟩:=t;rw[Tm.fu,Tm.Aw,Cs.Aw]at hR;obtain⟨o,b3⟩:∃x,x=Xn f:=⟨_,rfl⟩
 rw[<-b3]at hR;have e8:∀x∈f,x.Ok:=λx hx=>Tm.Xz.1 hO.2.2.1 x hx
 have e9:∀x∈g,x.Ok:=λx hx=>Cs.Xz.1 hO.2.2.2 x hx
 have f0:∀x∈f,x.Du:=λx hx=>Tm.QO.1 hD.2.1 x hx
 have f1:∀x∈g,x.Du:=λx hx=>Cs.QO.1 hD.2.2 x hx
 obtain⟨o1,o2,o3,o4,o5⟩:=hO.vars;simp only[Tm.sz]at e0;refine Qv.of Tryz.func45 rfl rfl rfl (Nat.le_of_ble_eq_true rfl) ?_;show X8 _ _ (Z7 _ Tryz.f45 _ _ _) (Z6 115 _);refine Wr ?_;refine Wr ?_;refine Wr ?_;refine Wr ?_;refine Wb ?_;refine X8.le (Le.low [400] [] (fr:=[(1,.ptr 1 0),(2,.ptr 2 0),(3,.ptr 3 0),(15,La (f.map Tm.row)),(16,Iv (f.length:Int)),(17,Iv (0:Int))]) (mem:=[(1,some (.blk 54 [Iv tk,Iv tn,Sv ta,Sv tb,.d (Q6 a3),La (f.map Tm.row),La (g.map Cs.row)])),(2,some (.blk 54 [Iv 0,Iv 0,Sv .empty,Sv .empty,.lit (.slice none 0 0),.lit (.slice none 0 0),.lit (.slice none 0 0)])),(3,some (.blk 54 [Iv tk,Iv tn,Sv ta,Sv tb,.d (Q6 a3),.arr 400 0 ([]:List Tm).length,.lit (.slice none 0 0)])),(400,some (.arr 54 7 (([]:List Tm).map Tm.row)))]) rfl (by simp) (by simp)) ?_;refine Wl (σ:=λu:{u:Nat×List Tm // u.1<=f.length/\u.2=(f.take u.1).map Tm.fu}=>⟨115,[(1,.ptr 1 0),(2,.ptr 2 0),(3,.ptr 3 0),(15,La (f.map Tm.row)),(16,Iv (f.length:Int)),(17,Iv (u.1.1:Int))],[(1,some (.blk 54 [Iv tk,Iv tn,Sv ta,Sv tb,.d (Q6 a3),La (f.map Tm.row),La (g.map Cs.row)])),(2,some (.blk 54 [Iv 0,Iv 0,Sv .empty,Sv .empty,.lit (.slice none 0 0),.lit (.slice none 0 0),.lit (.slice none 0 0)])),(3,some (.blk 54 [Iv tk,Iv tn,Sv ta,Sv tb,.d (Q6 a3),.arr 400 0 u.1.2.length,.lit (.slice none 0 0)])),(400,some (.arr 54 7 (u.1.2.map Tm.row)))]⟩)
  (μ:=λu=>f.length-u.1.1) ⟨(0,[]),⟨Nat.zero_le _,by simp⟩⟩ (Le.sub (by simp) (by simp)) (λ⟨(i,ys),⟨f2,hw⟩⟩=>?_)
 dsimp only at f2 hw⊢;refine Wr ?_;refine Wb ?_;refine Wc rfl (λhc=>?_) (λhc=>?_)
 ·have j:i<f.length:=by have:=of_decide_eq_true hc;omega
  clear hc;have b4:f[i]? =some f[i]:=List.getElem?_eq_getElem j;have b0:f[i]∈f:=List.getElem_mem j;have f3:f.drop i=f[i]::f.drop (i+1):=List.drop_eq_getElem_cons j;generalize f[i]=y at b4 b0 f3;have c6:ys.length=i:=by rw[hw,List.length_map,List.length_take];omega
  have hx:=ih y (by have:=Tm.Z4 b0;omega) (e8 y b0) (f0 y b0);have C:(f.take (i+1)).map Tm.fu=ys++[y.fu]:=by rw[List.take_add_one,b4,List.map_append,<-hw];rfl
  generalize y.fu=z at hx C;obtain⟨yk,yn,ya,yb,c7,c8,c9⟩:=y;obtain⟨zk,zn,U,zb,a5,a1,a6⟩:=z;refine Ws ?_;refine Wr ?_ (r:=by conv=>lhs;simp[Tm.row,Tm.Q3,Cs.Q3,b4]);refine Wz [] [.p (λ_=>.agg [Iv zk,Iv zn,Sv U,Sv zb,.d (Q6 a5),La (a1.map Tm.row),La (a6.map Cs.row)]) none] mixed ?_;refine Wr ?_;refine⟨⟨(i+1,ys++[.mk zk zn U zb a5 a1 a6]),j,C.symm⟩,by simp;omega,?_⟩;dsimp only;exact Le.sub (by simp) (by simp[Tm.row,Tm.Q3,Cs.Q3,c6])
 have j:i=f.length:=by have:=of_decide_eq_false hc;omega
 subst j;clear hc;rw[List.take_length]at hw;have c6:ys.length=f.length:=by rw[hw,List.length_map]
 rw[<-hw]at hR;clear hw;refine We ?_;refine Wr ?_;refine Wb ?_;refine X8.le (Le.low [401] [] (fr:=[(1,.ptr 1 0),(2,.ptr 2 0),(3,.ptr 3 0),(30,La (g.map Cs.row)),(31,Iv (g.length:Int)),(32,Iv (0:Int))]) (mem:=[(1,some (.blk 54 [Iv tk,Iv tn,Sv ta,Sv tb,.d (Q6 a3),La (f.map Tm.row),La (g.map Cs.row)])),(2,some (.blk 54 [Iv 0,Iv 0,Sv .empty,Sv .empty,.lit (.slice none 0 0),.lit (.slice none 0 0),.lit (.slice none 0 0)])),(3,some (.blk 54 [Iv tk,Iv tn,Sv ta,Sv tb,.d (Q6 a3),.arr 400 0 ys.length,.arr 401 0 ([]:List Cs).length])),(400,some (.arr 54 7 (ys.map Tm.row))),(401,some (.arr 87 9 (([]:List Cs).map Cs.row)))]) rfl (by simp) (by simp)) ?_;refine Wl (σ:=λu:{u:Nat×List Cs // u.1<=g.length/\u.2=(g.take u.1).map (Cs.fu tk f.length o)}=>⟨115,[(1,.ptr 1 0),(2,.ptr 2 0),(3,.ptr 3 0),(30,La (g.map Cs.row)),(31,Iv (g.length:Int)),(32,Iv (u.1.1:Int))],[(1,some (.blk 54 [Iv tk,Iv tn,Sv ta,Sv tb,.d (Q6 a3),La (f.map Tm.row),La (g.map Cs.row)])),(2,some (.blk 54 [Iv 0,Iv 0,Sv .empty,Sv .empty,.lit (.slice none 0 0),.lit (.slice none 0 0),.lit (.slice none 0 0)])),(3,some (.blk 54 [Iv tk,Iv tn,Sv ta,Sv tb,.d (Q6 a3),.arr 400 0 ys.length,.arr 401 0 u.1.2.length])),(400,some (.arr 54 7 (ys.map Tm.row))),(401,some (.arr 87 9 (u.1.2.map Cs.row)))]⟩)
  (μ:=λu=>g.length-u.1.1) ⟨(0,[]),⟨Nat.zero_le _,by simp⟩⟩ (Le.sub (by simp) (by simp)) (λ⟨(i,ds),⟨f4,a7⟩⟩=>?_)
 dsimp only at f4 a7⊢;refine Wr ?_;refine Wb ?_;refine Wc rfl (λhc=>?_) (λhc=>?_)
 ·have j:i<g.length:=by have:=of_decide_eq_true hc;omega
  clear hc;have b5:g[i]? =some g[i]:=List.getElem?_eq_getElem j;have b1:g[i]∈g:=List.getElem_mem j;have f5:g.drop i=g[i]::g.drop (i+1):=List.drop_eq_getElem_cons j;generalize g[i]=d at b5 b1 f5;have a2:ds.length=i:=by rw[a7,List.length_map,List.length_take];omega
  have b6:=e9 d b1;have b7:=f1 d b1;have d0:=Cs.Z4 b1;have C:(g.take (i+1)).map (Cs.fu tk f.length o)=ds++[d.fu tk f.length o]:=by rw[List.take_add_one,b5,List.map_append,<-a7];rfl
  obtain⟨dt,l,y⟩:=d;have hx:=ih y (by simp only[Cs.sz]at d0;omega) b6.2.2 b7.2;obtain⟨f6,d1⟩:=Tm.NQ y b6.2.2 b7.2;have d2:l.length<=6:=b7.1;have g4:∀s∈l,s.size<=140737488355328:=b6.1;rw[Cs.fu]at C;generalize y.fu=e at hx f6 d1 C;obtain⟨yk,yn,ya,yb,c7,c8,c9⟩:=y;obtain⟨ek,en,ea,eb,I,J,P⟩:=e;obtain⟨u,hu⟩:∃u,Rq tk f.length o l (.mk ek en ea eb I J P)=u:=⟨_,rfl⟩
  rw[hu]at C;obtain⟨uk,un,ua,ub,g5,g6,g7⟩:=u;refine Ws ?_;refine Wr ?_ (r:=by conv=>lhs;simp[Tm.row,Tm.Q3,Cs.Q3,b5,Cs.row]);refine Wg [] [.p (λ_=>.agg [Iv ek,Iv en,Sv ea,Sv eb,.d (Q6 I),La (J.map Tm.row),La (P.map Cs.row)]) none] ?_;refine Wr ?_;refine Wr ?_;refine Wb ?_;refine Wl (σ:=λu:{u:Int×Int×ByteArray×ByteArray×List ByteArray×List Tm×List Cs×List ByteArray // (Tm.sr (.mk ek en ea eb I J P) l=Tm.sr (.mk u.1 u.2.1 u.2.2.1 u.2.2.2.1 u.2.2.2.2.1 u.2.2.2.2.2.1 u.2.2.2.2.2.2.1) u.2.2.2.2.2.2.2/\Tm.Du (.mk u.1 u.2.1 u.2.2.1 u.2.2.2.1 u.2.2.2.2.1 u.2.2.2.2.2.1 u.2.2.2.2.2.2.1)/\u.2.2.2.2.2.2.2.length<=6)}=>⟨115,[(1,.ptr 1 0),(2,.ptr 2 0),(3,.ptr 3 0),(7,.ptr 7 0),(8,.ptr 8 0),(9,.d (Q6 u.1.2.2.2.2.2.2.2)),(10,.ptr 10 0),(30,La (g.map Cs.row)),(31,Iv (g.length:Int)),(32,Iv (i:Int))],[(1,some (.blk 54 [Iv tk,Iv tn,Sv ta,Sv tb,.d (Q6 a3),La (f.map Tm.row),La (g.map Cs.row)])),(2,some (.blk 54 [Iv 0,Iv 0,Sv .empty,Sv .empty,.lit (.slice none 0 0),.lit (.slice none 0 0),.lit (.slice none 0 0)])),(3,some (.blk 54 [Iv tk,Iv tn,Sv ta,Sv tb,.d (Q6 a3),.arr 400 0 ys.length,.arr 401 0 ds.length])),(7,some (.blk 87 [Iv dt,.d (Q6 l),Iv yk,Iv yn,Sv ya,Sv yb,.d (Q6 c7),La (c8.map Tm.row),La (c9.map Cs.row)])),(8,some (.blk 54 [Iv ek,Iv en,Sv ea,Sv eb,.d (Q6 I),La (J.map Tm.row),La (P.map Cs.row)])),(10,some (.blk 54 [Iv u.1.1,Iv u.1.2.1,Sv u.1.2.2.1,Sv u.1.2.2.2.1,.d (Q6 u.1.2.2.2.2.1),La (u.1.2.2.2.2.2.1.map Tm.row),La (u.1.2.2.2.2.2.2.1.map Cs.row)])),(400,some (.arr 54 7 (ys.map Tm.row))),(401,some (.arr 87 9 (ds.map Cs.row)))]⟩)
   (μ:=λu=>(Tm.mk u.1.1 u.1.2.1 u.1.2.2.1 u.1.2.2.2.1 u.1.2.2.2.2.1 u.1.2.2.2.2.2.1 u.1.2.2.2.2.2.2.1).sz) ⟨(ek,en,ea,eb,I,J,P,l),⟨rfl,d1,d2⟩⟩ (Le.sub (by simp) (by simp)) (λ⟨(zk,zn,U,zb,a5,a1,a6,us),d3⟩=>?_)
  dsimp only at d3⊢;obtain⟨T,b8,g8⟩:=d3;have hh:=JR us U oM;obtain⟨qa,b9⟩:∃q,hasB us U=q:=⟨_,rfl⟩
  rw[b9]at hh;by_cases q1:zk=8
  ·cases qa with
   |true=>
    refine Wg [] [.p (λ_=>Bv true) none] ?_ (hr:=by conv=>lhs;simp[q1]);refine Wy ?_;refine Ws ?_;have c0:a1≠[]:=b8.1 (.inl q1);obtain⟨x,r,rfl⟩:∃x r,a1=x::r:=by
     rcases a1 with _|⟨x,r⟩
     ·exact absurd rfl c0
     ·exact⟨x,r,rfl⟩
    have f7:Qv Tryz.prog 68 [Xw us,La [[.str U]],Bv false] (λ_=>Xw (Rv us [U])) none:=VP us [U] oM (by simp);have f8:=Sq us [U];have b2:Tm.sr (.mk ek en ea eb I J P) l=x.sr (Rv us [U]):=by rw[T];exact if_pos ⟨q1,b9⟩
    have f9:x.Du:=b8.2.1.1;generalize Rv us [U]=W at f7 f8 b2;obtain⟨xk,xn,xa,xb,c1,c2,c3⟩:=x;refine Wg [3] [.p (λ_=>.d (Q6 W)) none] ?_ (hr:=by conv=>lhs;simp[Tm.row,Tm.Q3,Cs.Q3]);refine Wr ?_;refine⟨⟨(xk,xn,xa,xb,c1,c2,c3,W),⟨b2,f9,by dsimp only;omega⟩⟩,by simp only[Tm.sz,Tm.Xv];omega,?_⟩;dsimp only;exact Le.sub (by simp) (by simp)
   |false=>
    refine Wg [] [.p (λ_=>Bv false) none] ?_ (hr:=by conv=>lhs;simp[q1]);refine Wn ?_;refine We ?_;have a8:Tm.sr (.mk zk zn U zb a5 a1 a6) us=(us,(.mk zk zn U zb a5 a1 a6)):=by
     refine if_neg λh=>?_
     have h2:=h.2;rw[b9]at h2;cases h2
    rw[a8]at T;obtain⟨A,hA⟩:∃A:Int,(l.length:Int)=A:=⟨_,rfl⟩
    obtain⟨B,hB⟩:∃B:Int,(f.length:Int)=B:=⟨_,rfl⟩
    by_cases a4:B=1
    ·obtain⟨x,a9⟩:∃x,f=[x]:=by
      rcases f with _|⟨x,_|⟨y,r⟩⟩
      ·simp at hB;omega
      ·exact⟨x,rfl⟩
      ·simp at hB;omega
     have c4:f[0]? =some x:=by rw[a9];rfl
     have c5:x.nm=o:=by rw[b3,a9];rfl
     obtain⟨xk,xn,xa,xb,c1,c2,c3⟩:=x;obtain rfl:o=xa:=c5.symm;by_cases q2:0<A
     ·by_cases q3:tk=7
      ·refine Wz [] [] mixed ?_ (hr:=by conv=>lhs;simp[hA,hB,a4,q2,q3]);refine Wn ?_;refine Ws ?_;rw[F3 T λh1 h2 h3 h4 h5=>by
        have h6:zk=9:=h4;have h7:U=o:=h5;first|omega|(exact absurd h7 (by assumption))]at hu
       injection hu with e1 e2 e3 e4 e5 e6 e7;subst e1 e2 e3 e4 e5 e6 e7;refine Wr ?_;refine Wr ?_;refine⟨⟨(i+1,ds++[.mk dt l (.mk ek en ea eb I J P)]),j,C.symm⟩,by simp;omega,?_⟩;dsimp only;exact Le.sub (by simp) (by simp[Cs.row,Tm.row,Tm.Q3,Cs.Q3,a2,q3])
      refine Wz [] [] mixed ?_ (hr:=by conv=>lhs;simp[hA,hB,a4,q2,q3]);refine Wn ?_;refine Ws ?_;rw[F3 T λh1 h2 h3 h4 h5=>by
       have h6:zk=9:=h4;have h7:U=o:=h5;first|omega|(exact absurd h7 (by assumption))]at hu
      injection hu with e1 e2 e3 e4 e5 e6 e7;subst e1 e2 e3 e4 e5 e6 e7;refine Wr ?_;refine Wr ?_;refine⟨⟨(i+1,ds++[.mk dt l (.mk ek en ea eb I J P)]),j,C.symm⟩,by simp;omega,?_⟩;dsimp only;exact Le.sub (by simp) (by simp[Cs.row,Tm.row,Tm.Q3,Cs.Q3,a2])
     refine Wz [] [] mixed ?_ (hr:=by conv=>lhs;simp[hA,q2]);refine Wn ?_;refine Ws ?_;rw[F3 T λh1 h2 h3 h4 h5=>by
      have h6:zk=9:=h4;have h7:U=o:=h5;first|omega|(exact absurd h7 (by assumption))]at hu
     injection hu with e1 e2 e3 e4 e5 e6 e7;subst e1 e2 e3 e4 e5 e6 e7;refine Wr ?_;refine Wr ?_;refine⟨⟨(i+1,ds++[.mk dt l (.mk ek en ea eb I J P)]),j,C.symm⟩,by simp;omega,?_⟩;dsimp only;exact Le.sub (by simp) (by simp[Cs.row,Tm.row,Tm.Q3,Cs.Q3,a2])
    by_cases q4:0<A
    ·refine Wz [] [] mixed ?_ (hr:=by conv=>lhs;simp[hA,hB,a4,q4]);refine Wn ?_;refine Ws ?_;rw[F3 T λh1 h2 h3 h4 h5=>by
      have h6:zk=9:=h4;have h7:U=o:=h5;first|omega|(exact absurd h7 (by assumption))]at hu
     injection hu with e1 e2 e3 e4 e5 e6 e7;subst e1 e2 e3 e4 e5 e6 e7;refine Wr ?_;refine Wr ?_;refine⟨⟨(i+1,ds++[.mk dt l (.mk ek en ea eb I J P)]),j,C.symm⟩,by simp;omega,?_⟩;dsimp only;exact Le.sub (by simp) (by simp[Cs.row,Tm.row,Tm.Q3,Cs.Q3,a2])
    refine Wz [] [] mixed ?_ (hr:=by conv=>lhs;simp[hA,q4]);refine Wn ?_;refine Ws ?_;rw[F3 T λh1 h2 h3 h4 h5=>by
     have h6:zk=9:=h4;have h7:U=o:=h5;first|omega|(exact absurd h7 (by assumption))]at hu
    injection hu with e1 e2 e3 e4 e5 e6 e7;subst e1 e2 e3 e4 e5 e6 e7;refine Wr ?_;refine Wr ?_;refine⟨⟨(i+1,ds++[.mk dt l (.mk ek en ea eb I J P)]),j,C.symm⟩,by simp;omega,?_⟩;dsimp only;exact Le.sub (by simp) (by simp[Cs.row,Tm.row,Tm.Q3,Cs.Q3,a2])
  refine Wr ?_ (r:=by conv=>lhs;simp[q1]);refine Wn ?_;refine We ?_;have a8:Tm.sr (.mk zk zn U zb a5 a1 a6) us=(us,(.mk zk zn U zb a5 a1 a6)):=by
   refine if_neg λh=>?_
   exact absurd h.1 q1
  rw[a8]at T;obtain⟨A,hA⟩:∃A:Int,(l.length:Int)=A:=⟨_,rfl⟩
  obtain⟨B,hB⟩:∃B:Int,(f.length:Int)=B:=⟨_,rfl⟩
  by_cases a4:B=1
  ·obtain⟨x,a9⟩:∃x,f=[x]:=by
    rcases f with _|⟨x,_|⟨y,r⟩⟩
    ·simp at hB;omega
    ·exact⟨x,rfl⟩
    ·simp at hB;omega
   have c4:f[0]? =some x:=by rw[a9];rfl
   have c5:x.nm=o:=by rw[b3,a9];rfl
   obtain⟨xk,xn,xa,xb,c1,c2,c3⟩:=x;obtain rfl:o=xa:=c5.symm;by_cases q5:0<A
   ·by_cases q6:tk=7
    ·by_cases q7:zk=9
     ·by_cases q8:U=o
      ·refine Wz [] [] mixed ?_ (hr:=by conv=>lhs;simp[Tm.row,Tm.Q3,Cs.Q3,hA,hB,c4,a4,q5,q6,q7,q8]);refine Wy ?_;have c0:a1≠[]:=b8.1 (.inr q7);obtain⟨x2,r,rfl⟩:∃x r,a1=x::r:=by
        rcases a1 with _|⟨x,r⟩
        ·exact absurd rfl c0
        ·exact⟨x,r,rfl⟩
       rw[Cu T oM oM q6 q7 q8]at hu;rw[show Tm.a0 (.mk zk zn U zb a5 (x2::r) a6)=x2 from rfl]at hu;obtain⟨vk,vn,va,vb,d4,d5,d6⟩:=x2;have g0:=G7 9 us vk vn va vb d4 d5 d6 oM;generalize cnt 9 us (.mk vk vn va vb d4 d5 d6)=c at g0 hu;obtain⟨ck,cn,ca,cb,d7,d8,d9⟩:=c;injection hu with e1 e2 e3 e4 e5 e6 e7;subst e1 e2 e3 e4 e5 e6 e7;refine Wz [10] [.p (λ_=>.agg [Iv ck,Iv cn,Sv ca,Sv cb,.d (Q6 d7),La (d8.map Tm.row),La (d9.map Cs.row)]) none] mixed ?_ (hr:=by conv=>lhs;simp[Tm.row,Tm.Q3,Cs.Q3]);refine Wr ?_;refine Wr ?_;refine⟨⟨(i+1,ds++[.mk dt l (.mk 10 0 o .empty l [.mk ck cn ca cb d7 d8 d9] [])]),j,C.symm⟩,by simp;omega,?_⟩;dsimp only;exact Le.sub (by simp) (by simp[Cs.row,Tm.row,Tm.Q3,Cs.Q3,a2,q6])
      refine Wz [] [] mixed ?_ (hr:=by conv=>lhs;simp[Tm.row,Tm.Q3,Cs.Q3,hA,hB,c4,a4,q5,q6,q7,q8]);refine Wn ?_;refine Ws ?_;rw[F3 T λh1 h2 h3 h4 h5=>by
       have h6:zk=9:=h4;have h7:U=o:=h5;first|omega|(exact absurd h7 (by assumption))]at hu
      injection hu with e1 e2 e3 e4 e5 e6 e7;subst e1 e2 e3 e4 e5 e6 e7;refine Wr ?_;refine Wr ?_;refine⟨⟨(i+1,ds++[.mk dt l (.mk ek en ea eb I J P)]),j,C.symm⟩,by simp;omega,?_⟩;dsimp only;exact Le.sub (by simp) (by simp[Cs.row,Tm.row,Tm.Q3,Cs.Q3,a2,q6])
     refine Wz [] [] mixed ?_ (hr:=by conv=>lhs;simp[hA,hB,a4,q5,q6,q7]);refine Wn ?_;refine Ws ?_;rw[F3 T λh1 h2 h3 h4 h5=>by
      have h6:zk=9:=h4;have h7:U=o:=h5;first|omega|(exact absurd h7 (by assumption))]at hu
     injection hu with e1 e2 e3 e4 e5 e6 e7;subst e1 e2 e3 e4 e5 e6 e7;refine Wr ?_;refine Wr ?_;refine⟨⟨(i+1,ds++[.mk dt l (.mk ek en ea eb I J P)]),j,C.symm⟩,by simp;omega,?_⟩;dsimp only;exact Le.sub (by simp) (by simp[Cs.row,Tm.row,Tm.Q3,Cs.Q3,a2,q6])
    refine Wz [] [] mixed ?_ (hr:=by conv=>lhs;simp[hA,hB,a4,q5,q6]);refine Wn ?_;refine Ws ?_;rw[F3 T λh1 h2 h3 h4 h5=>by
     have h6:zk=9:=h4;have h7:U=o:=h5;first|omega|(exact absurd h7 (by assumption))]at hu
    injection hu with e1 e2 e3 e4 e5 e6 e7;subst e1 e2 e3 e4 e5 e6 e7;refine Wr ?_;refine Wr ?_;refine⟨⟨(i+1,ds++[.mk dt l (.mk ek en ea eb I J P)]),j,C.symm⟩,by simp;omega,?_⟩;dsimp only;exact Le.sub (by simp) (by simp[Cs.row,Tm.row,Tm.Q3,Cs.Q3,a2])
   refine Wz [] [] mixed ?_ (hr:=by conv=>lhs;simp[hA,q5]);refine Wn ?_;refine Ws ?_;rw[F3 T λh1 h2 h3 h4 h5=>by
    have h6:zk=9:=h4;have h7:U=o:=h5;first|omega|(exact absurd h7 (by assumption))]at hu
   injection hu with e1 e2 e3 e4 e5 e6 e7;subst e1 e2 e3 e4 e5 e6 e7;refine Wr ?_;refine Wr ?_;refine⟨⟨(i+1,ds++[.mk dt l (.mk ek en ea eb I J P)]),j,C.symm⟩,by simp;omega,?_⟩;dsimp only;exact Le.sub (by simp) (by simp[Cs.row,Tm.row,Tm.Q3,Cs.Q3,a2])
  by_cases q9:0<A
  ·refine Wz [] [] mixed ?_ (hr:=by conv=>lhs;simp[hA,hB,a4,q9]);refine Wn ?_;refine Ws ?_;rw[F3 T λh1 h2 h3 h4 h5=>by
    have h6:zk=9:=h4;have h7:U=o:=h5;first|omega|(exact absurd h7 (by assumption))]at hu
   injection hu with e1 e2 e3 e4 e5 e6 e7;subst e1 e2 e3 e4 e5 e6 e7;refine Wr ?_;refine Wr ?_;refine⟨⟨(i+1,ds++[.mk dt l (.mk ek en ea eb I J P)]),j,C.symm⟩,by simp;omega,?_⟩;dsimp only;exact Le.sub (by simp) (by simp[Cs.row,Tm.row,Tm.Q3,Cs.Q3,a2])
  refine Wz [] [] mixed ?_ (hr:=by conv=>lhs;simp[hA,q9]);refine Wn ?_;refine Ws ?_;rw[F3 T λh1 h2 h3 h4 h5=>by
   have h6:zk=9:=h4;have h7:U=o:=h5;first|omega|(exact absurd h7 (by assumption))]at hu
  injection hu with e1 e2 e3 e4 e5 e6 e7;subst e1 e2 e3 e4 e5 e6 e7;refine Wr ?_;refine Wr ?_;refine⟨⟨(i+1,ds++[.mk dt l (.mk ek en ea eb I J P)]),j,C.symm⟩,by simp;omega,?_⟩;dsimp only;exact Le.sub (by simp) (by simp[Cs.row,Tm.row,Tm.Q3,Cs.Q3,a2])
 have j:i=g.length:=by have:=of_decide_eq_false hc;omega
 subst j;clear hc;rw[List.take_length]at a7;rw[<-a7]at hR;clear a7;replace hR:=hR.symm;injection hR with e1 e2 e3 e4 e5 e6 e7;subst e1 e2 e3 e4 e5 e6 e7;refine We ?_;refine Wr ?_;refine Wt ?_;try dsimp only[Q8,Q5]
 apply Z7.JW [400,401]
 ·rfl
 ·conv=>lhs;simp
 ·conv=>lhs;simp[Q7,Tryz.results45]
 first|rfl|simp[Zv,Y3,Tm.row,Tm.Q3,Cs.Q3]
theorem Qh5:∀N,FdN N
 |0=>λt h=>by obtain⟨tk,j,l,tb,f,g,i⟩:=t;simp only[Tm.sz]at h;omega
 |N+1=>Zg3 N (Qh5 N)
theorem Zj6(f:Fn)(h:f.body.Ok/\f.body.Du):Qv Tryz.prog 23 [XN f] (λ_=>XN f.fu) none:=by
 have l:=Qh5 f.body.sz f.body (Nat.le_refl _) h.1 h.2;unfold Fn.fu;generalize f.body.fu=z at l⊢;obtain⟨fg,o,⟨fk,fn,fa,fb,t,C,I⟩⟩:=f;obtain⟨J,P,T,U,g,i,j⟩:=z;dsimp only at l;refine Qv.of Tryz.func23 rfl rfl rfl (Nat.le_of_ble_eq_true rfl) ?_;show X8 _ _ (Z7 _ Tryz.f23 _ _ _) (Z6 11 _);refine Wr ?_ (r:=by conv=>lhs;simp[XN]);refine Wz [] [.p (λ_=>.agg [Iv J,Iv P,Sv T,Sv U,.d (Q6 g),La (i.map Tm.row),La (j.map Cs.row)]) none] mixed ?_;refine Wt ?_;try dsimp only[Q8,Q5]
 apply Z7.ret
 ·rfl
 ·conv=>lhs;simp[Q7,Tryz.results23]
 rfl
theorem VS(l:List Fn)(hl:l.length<=879609302220)(o:∀f∈l,f.body.Ok/\f.body.Du):Qv Tryz.prog 20 [F4 l,.d (.fn 23)] (λ_=>F4 (l.map Fn.fu)) none:=by
 obtain⟨G,hG⟩:∃G,G=l.map Fn.fu:=⟨_,rfl⟩
 rw[<-hG];refine Qv.of Tryz.func20 rfl rfl rfl (Nat.le_of_ble_eq_true rfl) ?_;show X8 _ _ (Z7 _ Tryz.f20 _ _ _) (Z6 22 _);refine Wr ?_;refine Wr ?_;refine Wr ?_;refine Wb ?_;refine X8.le (Le.low [400] [] (fr:=[(1,.d (.fn 23)),(5,.arr 400 0 ([]:List Fn).length),(8,La (l.map Fn.row)),(9,Iv (l.length:Int)),(10,Iv (0:Int))]) (mem:=[(400,some (.arr 56 9 (([]:List Fn).map Fn.row)))]) rfl (by simp) (by simp)) ?_;refine Wl (σ:=λu:{u:Nat×List Fn // u.1<=l.length/\u.2=(l.take u.1).map Fn.fu}=>⟨22,[(1,.d (.fn 23)),(5,.arr 400 0 u.1.2.length),(8,La (l.map Fn.row)),(9,Iv (l.length:Int)),(10,Iv (u.1.1:Int))],[(400,some (.arr 56 9 (u.1.2.map Fn.row)))]⟩)
  (μ:=λu=>l.length-u.1.1) ⟨(0,[]),⟨Nat.zero_le _,by simp⟩⟩ (Le.sub (by simp) (by simp)) (λ⟨(i,gs),⟨a1,t⟩⟩=>?_)
 dsimp only at a1 t⊢;refine Wr ?_;refine Wb ?_;refine Wc rfl (λC=>?_) (λC=>?_)
 ·have g:i<l.length:=by have:=of_decide_eq_true C;omega
  clear C;have j:l[i]? =some l[i]:=List.getElem?_eq_getElem g;have I:l[i]∈l:=List.getElem_mem g;have a2:l.drop i=l[i]::l.drop (i+1):=List.drop_eq_getElem_cons g;generalize l[i]=f at j I a2;have a3:gs.length=i:=by rw[t,List.length_map,List.length_take];omega
  have hx:=Zj6 f (o f I);generalize hz:Fn.fu f=z at hx;obtain⟨fg,a4,⟨fk,fn,fa,fb,a5,a6,a7⟩⟩:=f;obtain⟨zg,J,⟨zk,zn,za,zb,P,T,U⟩⟩:=z;dsimp only[XN]at hx;refine Ws ?_;refine Wr ?_ (r:=by conv=>lhs;simp[Fn.row,Tm.row,Tm.Q3,Cs.Q3,j]);refine Wg [] [.p (λ_=>.agg [Sv zg,.d (Q6 J),Iv zk,Iv zn,Sv za,Sv zb,.d (Q6 P),La (T.map Tm.row),La (U.map Cs.row)]) none] ?_;refine Wr ?_;refine⟨⟨(i+1,gs++[⟨zg,J,.mk zk zn za zb P T U⟩]),g,by rw[t,List.take_add_one,j,List.map_append,<-hz];rfl⟩,by simp;omega,?_⟩;dsimp only;exact Le.sub (by simp[a3]) (by simp[Fn.row,Tm.row,Tm.Q3,Cs.Q3])
 have g:i=l.length:=by have:=of_decide_eq_false C;omega
 subst g;clear C;rw[List.take_length]at t;obtain rfl:gs=G:=by rw[t,hG]
 refine We ?_;refine Wr ?_;refine Wt ?_;try dsimp only[Q8,Q5]
 apply Z7.JW [400]
 ·rfl
 ·conv=>lhs;simp
 ·conv=>lhs;simp[Q7,Tryz.results20]
 rfl
theorem QR{l:List Fn}(j:H5 l)(h:Jq l=0):∀f∈l.map Fn.pl,f.Pt:=λf o=>by
 obtain⟨g,i,rfl⟩:=List.mem_map.1 o;obtain⟨r,t,C⟩:=M3 j h g i;have:=((ZH h).2.2.2 g i).sz;exact Fn.Jx7 g r t C oM
theorem Fn.Zv2{f:Fn}(h:f.Pt):f.ow.body.Ok/\f.ow.body.Du/\f.ow.params.length<=6:=by
 obtain⟨g,i⟩:=Jj0 175 f.body f.params h.rt h.fit.ok h.pars;exact⟨g,i,h.par⟩
theorem SG{l:List Fn}(h:∀f∈l,f.Pt):∀f∈l.map Fn.ow,f.body.Ok/\f.body.Du/\f.params.length<=6:=λf i=>by
 obtain⟨g,j,rfl⟩:=List.mem_map.1 i;exact Fn.Zv2 (h g j)
theorem ED{l:List Fn}(h:∀f∈l,f.body.Ok/\f.body.Du/\f.params.length<=6):∀f∈l.map Fn.fu,f.body.Ok/\f.body.Du/\f.params.length<=6:=λf i=>by
 obtain⟨g,j,rfl⟩:=List.mem_map.1 i;obtain⟨o,r,t⟩:=h g j;obtain⟨C,I⟩:=Tm.NQ g.body o r;exact⟨C,I,t⟩
def Un(l:List Fn):List Fn:=(l.map Fn.pl).map Fn.ow
def Gm(l:List Fn):List Fn:=(Un l).map Fn.fu
theorem Zt{l:List Fn}(g:H5 l)(h:Jq l=0):∀f∈Un l,f.body.Ok/\f.body.Du/\f.params.length<=6:=SG (QR g h)
theorem Df{l:List Fn}(g:H5 l)(h:Jq l=0):∀f∈Gm l,f.body.Ok/\f.body.Du/\f.params.length<=6:=ED (Zt g h)
theorem TY(l:List Fn)(f:H5 l)(g:Jq l=0):Qv Tryz.prog 8 [F4 l,Iv 0] (λ_=>F4 (Un l)) none:=by
 have j:=f.len;have o:=XY l f.len (M3 f g);have hp:=QR f g;have i:=XZ (l.map Fn.pl) (by rw[List.length_map];exact f.len) hp;unfold Un;generalize l.map Fn.pl=P at o i⊢;generalize P.map Fn.ow=O at i⊢;refine Qv.of Tryz.func8 rfl rfl rfl (Nat.le_of_ble_eq_true rfl) ?_;show X8 _ _ (Z7 _ Tryz.f8 _ _ _) (Z6 17 _);refine Wr ?_;refine Wg [] [.p (λ_=>La (P.map Fn.row)) none,.p (λ_=>La (O.map Fn.row)) none] ?_;refine Wr ?_;refine Wn ?_;refine Ws ?_;refine Wr ?_;refine Wn ?_;refine Ws ?_;refine Wr ?_;refine Wt ?_;try dsimp only[Q8,Q5]
 apply Z7.ret
 ·rfl
 ·conv=>lhs;simp[Q7,Tryz.results8]
 rfl
theorem Qz2(l:List Fn)(g:H5 l)(i:Jq l=0):Qv Tryz.prog 8 [F4 l,Iv 1] (λ_=>F4 (Gm l)) none:=by
 have t:=g.len;have C:=XY l g.len (M3 g i);have hp:=QR g i;have o:=XZ (l.map Fn.pl) (by rw[List.length_map];exact g.len) hp;have j:=VS ((l.map Fn.pl).map Fn.ow) (by rw[List.length_map,List.length_map];exact g.len) (λf r=>⟨(Zt g i f r).1,(Zt g i f r).2.1⟩);unfold Gm Un;generalize l.map Fn.pl=P at C o j⊢;generalize P.map Fn.ow=O at o j⊢;generalize O.map Fn.fu=U at j⊢;refine Qv.of Tryz.func8 rfl rfl rfl (Nat.le_of_ble_eq_true rfl) ?_;show X8 _ _ (Z7 _ Tryz.f8 _ _ _) (Z6 17 _);refine Wr ?_;refine Wg [] [.p (λ_=>La (P.map Fn.row)) none,.p (λ_=>La (O.map Fn.row)) none] ?_;refine Wr ?_;refine Wy ?_;refine Wg [] [.p (λ_=>La (U.map Fn.row)) none] ?_;refine Wr ?_;refine Wn ?_;refine Ws ?_;refine Wr ?_;refine Wt ?_;try dsimp only[Q8,Q5]
 apply Z7.ret
 ·rfl
 ·conv=>lhs;simp[Q7,Tryz.results8]
 rfl
def LS.Bd(s:LS)(N:Int):Prop:=∀n,0<=s.c n/\s.c n<=N
@[simp] theorem Zd8:18<=maxLen:=by decide
@[simp] theorem Zw3:30<=maxLen:=by decide
@[simp] theorem Zw2:37<=maxLen:=by decide
def Jz2:List ByteArray->List (D×List D)
 |[]=>[]
 |x::r=>D.Fu (.str x) [.bool true] (Jz2 r)
@[simp] theorem Jz1:Jz2 []=[]:=rfl
theorem EI(m:Nat):∀l:List Cs,Cs.Zg2 m l=l.any (Cs.fits m)
 |[]=>rfl
 |c::r=>by rw[Cs.Zg2,EI m r];rfl
mutual
def Tm.Fs:Tm->Prop
 | .mk k n a b vs xs cs=>(k=6->∃x y,xs=[x,y])/\(8<=k/\k≠12->∃x,xs=[x])/\Tm.Zz7 xs/\Cs.Zz7 cs
def Tm.Zz7:List Tm->Prop
 |[]=>True
 |x::r=>x.Fs/\Tm.Zz7 r
def Cs.Zz7:List Cs->Prop
 |[]=>True
 |c::r=>c.Fs/\Cs.Zz7 r
def Cs.Fs:Cs->Prop
 | .mk t ws y=>y.Fs
end
theorem Kh:∀{l:List Tm},Tm.Zz7 l<->∀x∈l,x.Fs
 |[]=>by simp[Tm.Zz7]
 |x::r=>by simp[Tm.Zz7,Kh (l:=r)]
theorem ZO:∀{l:List Cs},Cs.Zz7 l<->∀x∈l,x.Fs
 |[]=>by simp[Cs.Zz7]
 |x::r=>by simp[Cs.Zz7,ZO (l:=r)]
def Xd1(N:Nat):Prop:=∀(t:Tm) (m:Nat),t.sz<=N->t.Ok->t.Fs->Qv Tryz.prog 70 [Y3 t,Iv (m:Int)] (λ_=>Bv (t.fits m)) none
theorem Qh4(N:Nat)(ih:Xd1 N):Xd1 (N+1):=by
 intro t m b0 hO hS;obtain⟨R,hR⟩:∃R,R=t.fits m:=⟨_,rfl⟩
 rw[<-hR];obtain⟨M,hM⟩:∃M:Int,(m:Int)=M:=⟨_,rfl⟩
 rw[hM];obtain⟨tk,tn,ta,tb,c3,g,f⟩:=t;have a5:∀x∈g,x.Ok:=λx o=>Tm.Xz.1 hO.2.2.1 x o
 have b1:∀x∈f,x.Ok:=λx o=>Cs.Xz.1 hO.2.2.2 x o
 have a6:∀x∈g,x.Fs:=λx o=>Kh.1 hS.2.2.1 x o
 have b2:∀x∈f,x.Fs:=λx o=>ZO.1 hS.2.2.2 x o
 obtain⟨o1,o2,o3,o4,o5⟩:=hO.vars;simp only[Tm.sz]at b0;obtain⟨B,hB⟩:∃B:Int,(g.length:Int)=B:=⟨_,rfl⟩
 refine Qv.of Tryz.func70 rfl rfl rfl (Nat.le_of_ble_eq_true rfl) ?_;show X8 _ _ (Z7 _ Tryz.f70 _ _ _) (Z6 75 _);refine Wr ?_;by_cases q1:tk=3
 ·refine Wr ?_ (r:=by conv=>lhs;simp[q1]);refine Wy ?_;refine Wr ?_ (r:=by conv=>lhs;simp[hB]);refine Wt ?_;obtain rfl:R=decide (B=M):=by rw[hR,Tm.fits,if_pos q1,<-hB,<-hM];simp[Int.ofNat_inj]
  try dsimp only[Q8,Q5]
  apply Z7.ret
  ·rfl
  ·conv=>lhs;simp[Q7,Tryz.results70]
  rfl
 refine Wr ?_ (r:=by conv=>lhs;simp[q1]);refine Wn ?_;by_cases q2:tk=6
 ·refine Wr ?_ (r:=by conv=>lhs;simp[q2]);refine Wy ?_;obtain⟨x,y,j⟩:=hS.1 q2;have J:g[0]? =some x:=by rw[j];rfl
  have a7:g[1]? =some y:=by rw[j];rfl
  have b3:g.length=2:=by rw[j];rfl
  have l:y∈g:=by rw[j];simp
  have o:=ih y m (by have:=Tm.Z4 l;omega) (a5 y l) (a6 y l);obtain⟨z,hz⟩:∃z,y.fits m=z:=⟨_,rfl⟩
  rw[hz,hM]at o;have a1:R=((decide (x.tk=3) && decide (x.xs.length=m))||z):=by rw[hR,Tm.fits,if_neg oM,if_pos q2,j,Tm.Jk1,Tm.PZ,hz]
  obtain⟨xk,xn,xa,xb,b4,U,b5⟩:=x;obtain⟨yk,yn,ya,yb,b6,b7,b8⟩:=y;obtain⟨C,hC⟩:∃C:Int,(U.length:Int)=C:=⟨_,rfl⟩
  by_cases q3:xk=3
  ·by_cases q4:C=M
   ·refine Wr ?_ (r:=by conv=>lhs;simp[Tm.row,Tm.Q3,Cs.Q3,J,hC,q3,q4]);refine Wt ?_;obtain rfl:R=true:=by
     have a2:U.length=m:=oM;rw[a1];simp[Tm.tk,Tm.xs,a2,q3]
    try dsimp only[Q8,Q5]
    apply Z7.ret
    ·rfl
    ·conv=>lhs;simp[Q7,Tryz.results70]
    rfl
   refine Wg [] [.p (λ_=>Bv z) none] ?_ (hr:=by conv=>lhs;simp[Tm.row,Tm.Q3,Cs.Q3,J,a7,hC,q3,q4]);refine Wt ?_;obtain rfl:R=z:=by
    have a2:U.length≠m:=oM;rw[a1];simp[Tm.tk,Tm.xs,a2,q3]
   try dsimp only[Q8,Q5]
   apply Z7.ret
   ·rfl
   ·conv=>lhs;simp[Q7,Tryz.results70]
   rfl
  refine Wg [] [.p (λ_=>Bv z) none] ?_ (hr:=by conv=>lhs;simp[Tm.row,Tm.Q3,Cs.Q3,J,a7,q3]);refine Wt ?_;obtain rfl:R=z:=by rw[a1];simp[Tm.tk,q3]
  try dsimp only[Q8,Q5]
  apply Z7.ret
  ·rfl
  ·conv=>lhs;simp[Q7,Tryz.results70]
  rfl
 refine Wr ?_ (r:=by conv=>lhs;simp[q2]);refine Wn ?_;by_cases q5:tk=7
 ·refine Wr ?_ (r:=by conv=>lhs;simp[q5]);refine Wy ?_;have a8:R=f.any (Cs.fits m):=by rw[hR,Tm.fits,if_neg oM,if_neg oM,if_pos q5,EI]
  refine Wr ?_;refine Wb ?_;refine Wl (σ:=λu:{u:Nat // u<=f.length/\(f.take u).any (Cs.fits m)=false}=>⟨75,[(1,Iv M),(49,La (f.map Cs.row)),(50,Iv (f.length:Int)),(51,Iv (u.1:Int))],[]⟩)
   (μ:=λu=>f.length-u.1) ⟨0,⟨Nat.zero_le _,rfl⟩⟩ (Le.sub (by simp) (by simp)) (λ⟨i,⟨c4,hw⟩⟩=>?_)
  dsimp only;refine Wr ?_;refine Wb ?_;refine Wc rfl (λhc=>?_) (λhc=>?_)
  ·have I:i<f.length:=by have:=of_decide_eq_true hc;omega
   clear hc;have a3:f[i]? =some f[i]:=List.getElem?_eq_getElem I;have P:f[i]∈f:=List.getElem_mem I;have b9:f.drop i=f[i]::f.drop (i+1):=List.drop_eq_getElem_cons I;generalize f[i]=d at a3 P b9;have c0:=b1 d P;have c1:=b2 d P;have a9:=Cs.Z4 P;have a4:(f.take (i+1)).any (Cs.fits m)=d.fits m:=by rw[List.take_add_one,a3,List.any_append,hw];simp
   have T:d.fits m=true->R=true:=λh=>by
    rw[a8];exact List.any_eq_true.2 ⟨d,P,h⟩
   obtain⟨dt,c5,y⟩:=d;have o:=ih y m (by simp only[Cs.sz]at a9;omega) c0.2.2 c1;rw[Cs.fits]at a4 T;generalize y.fits m=z at o a4 T;rw[hM]at o;obtain⟨yk,yn,ya,yb,b6,b7,b8⟩:=y;refine Ws ?_;refine Wr ?_ (r:=by conv=>lhs;simp[Tm.row,Tm.Q3,Cs.Q3,a3,Cs.row]);cases z with
   |true=>
    refine Wg [] [.p (λ_=>Bv true) none] ?_;refine Wy ?_;refine Wr ?_;refine Wt ?_;obtain rfl:R=true:=T rfl;try dsimp only[Q8,Q5]
    apply Z7.ret
    ·rfl
    ·conv=>lhs;simp[Q7,Tryz.results70]
    rfl
   |false=>
    refine Wg [] [.p (λ_=>Bv false) none] ?_;refine Wn ?_;refine Ws ?_;refine Wr ?_;refine⟨⟨i+1,I,a4⟩,by simp;omega,?_⟩;dsimp only;exact Le.sub (by simp) (by simp)
  have I:i=f.length:=by have:=of_decide_eq_false hc;omega
  subst I;clear hc;rw[List.take_length]at hw;refine We ?_;refine Wr ?_;refine Wt ?_;obtain rfl:R=false:=by rw[a8,hw]
  try dsimp only[Q8,Q5]
  apply Z7.ret
  ·rfl
  ·conv=>lhs;simp[Q7,Tryz.results70]
  rfl
 refine Wr ?_ (r:=by conv=>lhs;simp[q5]);refine Wn ?_;by_cases q6:8<=tk
 ·by_cases q7:tk=12
  ·refine Wr ?_ (r:=by conv=>lhs;simp[q7]);refine Wn ?_;refine Ws ?_;refine Wr ?_;refine Wt ?_;obtain rfl:R=false:=by rw[hR,Tm.fits,if_neg oM,if_neg oM,if_neg oM,if_neg oM]
   try dsimp only[Q8,Q5]
   apply Z7.ret
   ·rfl
   ·conv=>lhs;simp[Q7,Tryz.results70]
   rfl
  refine Wr ?_ (r:=by conv=>lhs;simp[q6,q7]);refine Wy ?_;obtain⟨x,j⟩:=hS.2.1 oM;have J:g[0]? =some x:=by rw[j];rfl
  have b3:g.length=1:=by rw[j];rfl
  have l:x∈g:=by rw[j];simp
  have o:=ih x m (by have:=Tm.Z4 l;omega) (a5 x l) (a6 x l);obtain⟨z,hz⟩:∃z,x.fits m=z:=⟨_,rfl⟩
  rw[hz,hM]at o;have c2:R=z:=by rw[hR,Tm.fits,if_neg oM,if_neg oM,if_neg oM,if_pos oM,j,Tm.PZ,hz]
  obtain⟨xk,xn,xa,xb,b4,U,b5⟩:=x;refine Wg [] [.p (λ_=>Bv z) none] ?_ (hr:=by conv=>lhs;simp[Tm.row,Tm.Q3,Cs.Q3,J]);refine Wt ?_;obtain rfl:R=z:=c2;try dsimp only[Q8,Q5]
  apply Z7.ret
  ·rfl
  ·conv=>lhs;simp[Q7,Tryz.results70]
  rfl
 refine Wr ?_ (r:=by conv=>lhs;simp[q6]);refine Wn ?_;refine Ws ?_;refine Wr ?_;refine Wt ?_;obtain rfl:R=false:=by rw[hR,Tm.fits,if_neg oM,if_neg oM,if_neg oM,if_neg oM]
 try dsimp only[Q8,Q5]
 apply Z7.ret
 ·rfl
 ·conv=>lhs;simp[Q7,Tryz.results70]
 rfl
theorem PY:∀N,Xd1 N
 |0=>λt m h=>by obtain⟨tk,j,l,tb,f,g,i⟩:=t;simp only[Tm.sz]at h;omega
 |N+1=>Qh4 N (PY N)
def Xh9(N:Nat):Prop:=∀(t:Tm) (tok:ByteArray) (m:Nat),t.sz<=N->t.Ok->t.Fs->tok.size<=140737488355328->Qv Tryz.prog 72 [Y3 t,Sv tok,Iv (m:Int)] (λ_=>Y3 (t.put tok m)) none
theorem Qj3(N:Nat)(ih:Xh9 N):Xh9 (N+1):=by
 intro t tok m c2 hO hS U;obtain⟨R,g⟩:∃R,R=t.put tok m:=⟨_,rfl⟩
 rw[<-g];have b6:=PY t.sz t m (Nat.le_refl _) hO hS;obtain⟨M,hM⟩:∃M:Int,(m:Int)=M:=⟨_,rfl⟩
 rw[hM]at b6⊢;obtain⟨rk,rn,ra,rb,d1,d2,d3⟩:=R;obtain⟨tk,tn,ta,tb,a4,j,f⟩:=t;rw[Tm.put]at g;obtain⟨q,hq⟩:∃q,Tm.fits m (.mk tk tn ta tb a4 j f)=q:=⟨_,rfl⟩
 rw[hq]at b6 g;have a5:∀x∈j,x.Ok:=λx hx=>Tm.Xz.1 hO.2.2.1 x hx
 have c3:∀x∈f,x.Ok:=λx hx=>Cs.Xz.1 hO.2.2.2 x hx
 have a6:∀x∈j,x.Fs:=λx hx=>Kh.1 hS.2.2.1 x hx
 have c4:∀x∈f,x.Fs:=λx hx=>ZO.1 hS.2.2.2 x hx
 obtain⟨o1,o2,o3,o4,o5⟩:=hO.vars;simp only[Tm.sz]at c2;refine Qv.of Tryz.func72 rfl rfl rfl (Nat.le_of_ble_eq_true rfl) ?_;show X8 _ _ (Z7 _ Tryz.f72 _ _ _) (Z6 116 _);refine Wr ?_;cases q with
 |true=>
  refine Wg [] [.p (λ_=>Bv true) none] ?_;refine Wn ?_;refine Ws ?_;refine Wr ?_;rw[if_neg (by simp)]at g;by_cases q1:tk=3
  ·refine Wr ?_ (r:=by conv=>lhs;simp[q1]);refine Wy ?_;rw[if_pos q1]at g;replace g:=g.symm;injection g with e1 e2 e3 e4 e5 e6 e7;subst e1 e2 e3 e4 e5 e6 e7;refine Wr ?_;refine Wr ?_;refine Wt ?_;try dsimp only[Q8,Q5]
   apply Z7.ret
   ·rfl
   ·conv=>lhs;simp[Q7,Tryz.results72]
   first|rfl|(simp[Zv,Y3,Tm.row,Tm.Q3,Cs.Q3,AV.Jk,K5,Q6];done)|(simp[Zv,Y3,Tm.row,Tm.Q3,Cs.Q3,AV.Jk,K5,Q6];omega)
  refine Wr ?_ (r:=by conv=>lhs;simp[q1]);refine Wn ?_;by_cases h6:tk=6
  ·obtain⟨x,y,l⟩:=hS.1 h6;have P:j[0]? =some x:=by rw[l];rfl
   have a7:j[1]? =some y:=by rw[l];rfl
   have c5:j.length=2:=by rw[l];rfl
   have T:x∈j:=by rw[l];simp
   have a8:y∈j:=by rw[l];simp
   have b7:=ih x tok m (by have:=Tm.Z4 T;omega) (a5 x T) (a6 x T) U;have a9:=ih y tok m (by have:=Tm.Z4 a8;omega) (a5 y a8) (a6 y a8) U;rw[hM]at b7 a9;rw[if_neg oM,if_pos h6,l,Tm.Qd,Tm.H8]at g;obtain⟨xk,xn,xa,xb,b8,a1,b9⟩:=x;obtain⟨C,hC⟩:∃C:Int,(a1.length:Int)=C:=⟨_,rfl⟩
   by_cases q2:xk=3
   ·by_cases q3:C=M
    ·refine Wr ?_ (r:=by conv=>lhs;simp[Tm.row,Tm.Q3,Cs.Q3,P,hC,h6,q2,q3]);refine Wy ?_;subst q2;have b0:a1.length=m:=oM;rw[if_pos ⟨rfl,b0⟩]at g;generalize Tm.put tok m (.mk 3 xn xa xb b8 a1 b9)=z at b7 g;obtain⟨yk,yn,ya,yb,b1,b2,b3⟩:=y;obtain⟨zk,zn,za,zb,o,I,J⟩:=z;replace g:=g.symm;injection g with e1 e2 e3 e4 e5 e6 e7;subst e1 e2 e3 e4 e5 e6 e7;refine Wz [11] [.p (λ_=>.agg [Iv zk,Iv zn,Sv za,Sv zb,.d (Q6 o),La (I.map Tm.row),La (J.map Cs.row)]) none] mixed ?_ (hr:=by conv=>lhs;simp[Tm.row,Tm.Q3,Cs.Q3,P,a7]);refine Wr ?_;refine Wt ?_;try dsimp only[Q8,Q5]
     apply Z7.ret
     ·rfl
     ·conv=>lhs;simp[Q7,Tryz.results72]
     first|rfl|(simp[Zv,Tm.row,Tm.Q3,Cs.Q3,AV.Jk,K5,Q6];done)|(simp[Zv,Tm.row,Tm.Q3,Cs.Q3,AV.Jk,K5,Q6];omega)
    refine Wr ?_ (r:=by conv=>lhs;simp[Tm.row,Tm.Q3,Cs.Q3,P,hC,h6,q2,q3]);refine Wn ?_;refine Wr ?_;refine Wy ?_;rw[if_neg (λh=>by have h3:xk=3:=h.1;have b0:a1.length=m:=h.2;first|omega|(exact absurd h3 (by assumption)))]at g;generalize Tm.put tok m y=z at a9 g;obtain⟨yk,yn,ya,yb,b1,b2,b3⟩:=y;obtain⟨zk,zn,za,zb,o,I,J⟩:=z;replace g:=g.symm;injection g with e1 e2 e3 e4 e5 e6 e7;subst e1 e2 e3 e4 e5 e6 e7;refine Wz [11] [.p (λ_=>.agg [Iv zk,Iv zn,Sv za,Sv zb,.d (Q6 o),La (I.map Tm.row),La (J.map Cs.row)]) none] mixed ?_ (hr:=by conv=>lhs;simp[Tm.row,Tm.Q3,Cs.Q3,P,a7,q2]);refine Wr ?_;refine Wt ?_;try dsimp only[Q8,Q5]
    apply Z7.ret
    ·rfl
    ·conv=>lhs;simp[Q7,Tryz.results72]
    first|rfl|(simp[Zv,Tm.row,Tm.Q3,Cs.Q3,AV.Jk,K5,Q6];done)|(simp[Zv,Tm.row,Tm.Q3,Cs.Q3,AV.Jk,K5,Q6];omega)
   refine Wr ?_ (r:=by conv=>lhs;simp[Tm.row,Tm.Q3,Cs.Q3,P,h6,q2]);refine Wn ?_;refine Wr ?_;refine Wy ?_;rw[if_neg (λh=>by have h3:xk=3:=h.1;have b0:a1.length=m:=h.2;first|omega|(exact absurd h3 (by assumption)))]at g;generalize Tm.put tok m y=z at a9 g;obtain⟨yk,yn,ya,yb,b1,b2,b3⟩:=y;obtain⟨zk,zn,za,zb,o,I,J⟩:=z;replace g:=g.symm;injection g with e1 e2 e3 e4 e5 e6 e7;subst e1 e2 e3 e4 e5 e6 e7;refine Wz [11] [.p (λ_=>.agg [Iv zk,Iv zn,Sv za,Sv zb,.d (Q6 o),La (I.map Tm.row),La (J.map Cs.row)]) none] mixed ?_ (hr:=by conv=>lhs;simp[Tm.row,Tm.Q3,Cs.Q3,P,a7]);refine Wr ?_;refine Wt ?_;try dsimp only[Q8,Q5]
   apply Z7.ret
   ·rfl
   ·conv=>lhs;simp[Q7,Tryz.results72]
   first|rfl|(simp[Zv,Tm.row,Tm.Q3,Cs.Q3,AV.Jk,K5,Q6];done)|(simp[Zv,Tm.row,Tm.Q3,Cs.Q3,AV.Jk,K5,Q6];omega)
  refine Wr ?_ (r:=by conv=>lhs;simp[h6]);refine Wn ?_;refine Wr ?_ (r:=by conv=>lhs;simp[h6]);refine Wn ?_;by_cases q4:tk=7
  ·refine Wr ?_ (r:=by conv=>lhs;simp[q4]);refine Wy ?_;subst q4;rw[if_neg oM,if_neg oM,if_pos rfl,Xb]at g;refine Wr ?_;refine Wr ?_;refine Wb ?_;refine X8.le (Le.low [401] [] (fr:=[(1,Sv tok),(2,Iv M),(6,.ptr 6 0),(7,.ptr 7 0),(93,La (f.map Cs.row)),(94,Iv (f.length:Int)),(95,Iv (0:Int))]) (mem:=[(6,some (.blk 54 [Iv 0,Iv 0,Sv .empty,Sv .empty,.lit (.slice none 0 0),.lit (.slice none 0 0),.lit (.slice none 0 0)])),(7,some (.blk 54 [Iv 7,Iv tn,Sv ta,Sv tb,.d (Q6 a4),La (j.map Tm.row),.arr 401 0 ([]:List Cs).length])),(401,some (.arr 87 9 (([]:List Cs).map Cs.row)))]) rfl (by simp) (by simp)) ?_;refine Wl (σ:=λu:{u:Nat×List Cs // u.1<=f.length/\u.2=(f.take u.1).map (Cs.put tok m)}=>⟨116,[(1,Sv tok),(2,Iv M),(6,.ptr 6 0),(7,.ptr 7 0),(93,La (f.map Cs.row)),(94,Iv (f.length:Int)),(95,Iv (u.1.1:Int))],[(6,some (.blk 54 [Iv 0,Iv 0,Sv .empty,Sv .empty,.lit (.slice none 0 0),.lit (.slice none 0 0),.lit (.slice none 0 0)])),(7,some (.blk 54 [Iv 7,Iv tn,Sv ta,Sv tb,.d (Q6 a4),La (j.map Tm.row),.arr 401 0 u.1.2.length])),(401,some (.arr 87 9 (u.1.2.map Cs.row)))]⟩)
    (μ:=λu=>f.length-u.1.1) ⟨(0,[]),⟨Nat.zero_le _,by simp⟩⟩ (Le.sub (by simp) (by simp)) (λ⟨(i,ds),⟨c0,hw⟩⟩=>?_)
   dsimp only at c0 hw⊢;refine Wr ?_;refine Wb ?_;refine Wc rfl (λhc=>?_) (λhc=>?_)
   ·have a2:i<f.length:=by have:=of_decide_eq_true hc;omega
    clear hc;have b4:f[i]? =some f[i]:=List.getElem?_eq_getElem a2;have a3:f[i]∈f:=List.getElem_mem a2;have c6:f.drop i=f[i]::f.drop (i+1):=List.drop_eq_getElem_cons a2;generalize f[i]=d at b4 a3 c6;have c7:ds.length=i:=by rw[hw,List.length_map,List.length_take];omega
    have c8:=c3 d a3;have c9:=c4 d a3;have c1:=Cs.Z4 a3;have b5:(f.take (i+1)).map (Cs.put tok m)=ds++[d.put tok m]:=by rw[List.take_add_one,b4,List.map_append,<-hw];rfl
    obtain⟨dt,d0,y⟩:=d;have hx:=ih y tok m (by simp only[Cs.sz]at c1;omega) c8.2.2 c9 U;rw[hM]at hx;rw[Cs.put]at b5;generalize y.put tok m=z at hx b5;obtain⟨yk,yn,ya,yb,b1,b2,b3⟩:=y;obtain⟨zk,zn,za,zb,o,I,J⟩:=z;refine Ws ?_;refine Wr ?_ (r:=by conv=>lhs;simp[Tm.row,Tm.Q3,Cs.Q3,b4,Cs.row]);refine Wz [] [.p (λ_=>.agg [Iv zk,Iv zn,Sv za,Sv zb,.d (Q6 o),La (I.map Tm.row),La (J.map Cs.row)]) none] mixed ?_;refine Wr ?_;refine⟨⟨(i+1,ds++[.mk dt d0 (.mk zk zn za zb o I J)]),a2,b5.symm⟩,by simp;omega,?_⟩;dsimp only;exact Le.sub (by simp) (by simp[Cs.row,Tm.row,Tm.Q3,Cs.Q3,c7])
   have a2:i=f.length:=by have:=of_decide_eq_false hc;omega
   subst a2;clear hc;rw[List.take_length]at hw;rw[<-hw]at g;clear hw;replace g:=g.symm;injection g with e1 e2 e3 e4 e5 e6 e7;subst e1 e2 e3 e4 e5 e6 e7;refine We ?_;refine Wr ?_;refine Wt ?_;try dsimp only[Q8,Q5]
   apply Z7.JW [401]
   ·rfl
   ·conv=>lhs;simp
   ·conv=>lhs;simp[Q7,Tryz.results72]
   first|rfl|(simp[Zv,Y3,Tm.row,Tm.Q3,Cs.Q3,AV.Jk,K5,Q6];done)|(simp[Zv,Y3,Tm.row,Tm.Q3,Cs.Q3,AV.Jk,K5,Q6];omega)
  refine Wr ?_ (r:=by conv=>lhs;simp[q4]);refine Wn ?_;rw[if_neg oM,if_neg oM,if_neg oM]at g;have h8:8<=tk/\tk≠12:=by
   rw[Tm.fits,if_neg oM,if_neg oM,if_neg oM]at hq;by_cases h8:8<=tk/\tk≠12
   ·exact h8
   ·rw[if_neg h8]at hq;simp at hq
  obtain⟨x,l⟩:=hS.2.1 h8;have P:j[0]? =some x:=by rw[l];rfl
  have c5:j.length=1:=by rw[l];rfl
  have T:x∈j:=by rw[l];simp
  have hx:=ih x tok m (by have:=Tm.Z4 T;omega) (a5 x T) (a6 x T) U;rw[hM]at hx;rw[l,Tm.H8]at g;generalize x.put tok m=z at hx g;obtain⟨xk,xn,xa,xb,b8,a1,b9⟩:=x;obtain⟨zk,zn,za,zb,o,I,J⟩:=z;replace g:=g.symm;injection g with e1 e2 e3 e4 e5 e6 e7;subst e1 e2 e3 e4 e5 e6 e7;refine Wg [7] [.p (λ_=>.agg [Iv zk,Iv zn,Sv za,Sv zb,.d (Q6 o),La (I.map Tm.row),La (J.map Cs.row)]) none] ?_ (hr:=by conv=>lhs;simp[Tm.row,Tm.Q3,Cs.Q3,P]);refine Wr ?_;refine Wt ?_;try dsimp only[Q8,Q5]
  apply Z7.ret
  ·rfl
  ·conv=>lhs;simp[Q7,Tryz.results72]
  first|rfl|(simp[Zv,Tm.row,Tm.Q3,Cs.Q3,AV.Jk,K5,Q6];done)|(simp[Zv,Y3,Tm.row,Tm.Q3,Cs.Q3,AV.Jk,K5,Q6];omega)
 |false=>
  refine Wg [] [.p (λ_=>Bv false) none] ?_;refine Wy ?_;rw[if_pos rfl]at g;replace g:=g.symm;injection g with e1 e2 e3 e4 e5 e6 e7;subst e1 e2 e3 e4 e5 e6 e7;refine Wg [2] [] ?_;refine Wt ?_;try dsimp only[Q8,Q5]
  apply Z7.ret
  ·rfl
  ·conv=>lhs;simp[Q7,Tryz.results72]
  first|rfl|(simp[Zv,Tm.row,Tm.Q3,Cs.Q3,AV.Jk,K5,Q6];done)|(simp[Zv,Y3,Tm.row,Tm.Q3,Cs.Q3,AV.Jk,K5,Q6];omega)
theorem BL:∀N,Xh9 N
 |0=>λt tok m h=>by obtain⟨tk,j,l,tb,f,g,i⟩:=t;simp only[Tm.sz]at h;omega
 |N+1=>Qj3 N (BL N)
end
section
open Go.RowKit
def FuId(t:Tm):Prop:=t.fu=t
theorem Xx8(b:ByteArray)(m:Nat):∀(N:Nat) (t:Tm),t.sz<=N->t.Fs->(t.put b m).Fs:=by
 intro N;induction N with
 |zero=>intro t h;have:=t.P8;omega
 |succ N i=>
  intro t I f;obtain⟨k,n,a,U,vs,xs,cs⟩:=t;rw[Tm.sz]at I;have l:∀x∈xs,x.sz<=N:=λx J=>by have:=Tm.Z4 J;omega
  rw[Tm.put];split
  ·exact⟨oM,λ_=>⟨_,rfl⟩,⟨f,trivial⟩,trivial⟩
  split
  ·exact⟨oM,oM,f.2.2⟩
  split
  ·rename_i P;obtain⟨x,y,rfl⟩:=f.1 P;rw[Tm.Qd,Tm.H8];obtain⟨j,o,-⟩:=f.2.2.1;split
   ·exact⟨λ_=>⟨_,_,rfl⟩,oM,⟨i x (l x (by simp)) j,o,trivial⟩,f.2.2.2⟩
   ·exact⟨λ_=>⟨_,_,rfl⟩,oM,⟨j,i y (l y (by simp)) o,trivial⟩,f.2.2.2⟩
  split
  ·refine⟨oM,oM,f.2.2.1,?_⟩;rw[Xb];refine ZO.2 λc h=>?_
   obtain⟨C,g,rfl⟩:=List.mem_map.1 h;have j:=ZO.1 f.2.2.2 C g;have T:=Cs.Z4 g;obtain⟨t,ws,y⟩:=C;rw[Cs.sz]at T;rw[Cs.put];exact i y oM j
  ·refine⟨oM,λh=>?_,?_,f.2.2.2⟩
   ·obtain⟨x,rfl⟩:=f.2.1 h;exact⟨_,rfl⟩
   ·cases xs with
    |nil=>trivial
    |cons x r=>rw[Tm.H8];exact⟨i x (l x (by simp)) f.2.2.1.1,f.2.2.1.2⟩
theorem O3(b:ByteArray)(m:Nat)(hb:b.size<=140737488355328):∀(N:Nat) (t:Tm),t.sz<=N->t.Ok->(t.put b m).Ok:=by
 intro N;induction N with
 |zero=>intro t h;have:=t.P8;omega
 |succ N U=>
  intro t hN hO;obtain⟨k,n,a,b0,vs,xs,cs⟩:=t;rw[Tm.sz]at hN;have hX:∀x∈xs,x.sz<=N:=λx hx=>by have:=Tm.Z4 hx;omega
  obtain⟨⟨i,T,j⟩,⟨o,C,I⟩,g,J⟩:=id hO;have hH:∀l:List Tm,(∀x∈l,x.sz<=N)->Tm.VI l->Tm.VI (Tm.H8 b m l)/\(Tm.H8 b m l).length=l.length:=λl hl f=>by
   cases l with
   |nil=>exact⟨trivial,rfl⟩
   |cons x r=>rw[Tm.H8];exact⟨⟨U x (hl x (by simp)) f.1,f.2⟩,rfl⟩
  rw[Tm.put];split
  ·exact⟨⟨by simp,hb,by simp⟩,⟨by simp,by simp,by simp⟩,⟨hO,trivial⟩,trivial⟩
  split
  ·exact⟨⟨i,hb,j⟩,⟨o,C,I⟩,g,J⟩
  split
  ·cases xs with
   |nil=>exact hO
   |cons x r=>
    rw[Tm.Qd];split
    ·exact⟨⟨i,T,j⟩,⟨o,C,I⟩,⟨U x (hX x (by simp)) g.1,g.2⟩,J⟩
    ·have f:=hH r (λz hz=>hX z (by simp[hz])) g.2;exact⟨⟨i,T,j⟩,⟨o,by rw[List.length_cons,f.2];exact C,I⟩,⟨g.1,f.1⟩,J⟩
  split
  ·refine⟨⟨i,T,j⟩,⟨o,C,by rw[Xb,List.length_map];exact I⟩,g,?_⟩;rw[Xb];refine Cs.Xz.2 λc h=>?_
   obtain⟨c0,P,rfl⟩:=List.mem_map.1 h;have f:=Cs.Xz.1 J c0 P;have hs:=Cs.Z4 P;obtain⟨t,ws,y⟩:=c0;rw[Cs.sz]at hs;rw[Cs.put];exact⟨f.1,f.2.1,U y oM f.2.2⟩
  ·have f:=hH xs hX g;exact⟨⟨i,T,j⟩,⟨o,by rw[f.2];exact C,I⟩,f.1,J⟩
end
section
open Classical Go.RowKit
mutual
def Tm.nc:Tm->Nat
 | .mk k n a b vs xs cs=>Tm.Fj xs+Cs.Fj cs
def Tm.Fj:List Tm->Nat
 |[]=>0
 |x::r=>x.nc+Tm.Fj r
def Cs.Fj:List Cs->Nat
 |[]=>0
 |c::r=>c.nc+Cs.Fj r
def Cs.nc:Cs->Nat
 | .mk t ws y=>1+y.nc
end
mutual
theorem Tm.NB:∀t:Tm,t.nc+1<=t.sz
 | .mk k n a b vs xs cs=>by
  have f:=Tm.Da xs;have g:=Cs.Da cs;rw[Tm.nc,Tm.sz];omega
theorem Tm.Da:∀l:List Tm,Tm.Fj l<=Tm.Xv l
 |[]=>Nat.le_refl _
 |x::r=>by
  have f:=Tm.NB x;have g:=Tm.Da r;rw[Tm.Fj,Tm.Xv];omega
theorem Cs.Da:∀l:List Cs,Cs.Fj l<=Cs.Xv l
 |[]=>Nat.le_refl _
 |c::r=>by
  have f:=Cs.NB c;have g:=Cs.Da r;rw[Cs.Fj,Cs.Xv];omega
theorem Cs.NB:∀c:Cs,c.nc<=c.sz
 | .mk t ws y=>by
  have f:=Tm.NB y;rw[Cs.nc,Cs.sz];omega
end
theorem O9{k:Int}(f:k=8\/k=9):∀(l:List ByteArray) (t:Tm),(cnt k l t).nt=t.nt/\(cnt k l t).nc=t.nc
 |[],_=>⟨rfl,rfl⟩
 |s::r,t=>by
  obtain⟨g,i⟩:=O9 f r t;refine⟨?_,?_⟩
  ·rw[cnt,Tm.nt,if_neg oM,Tm.H9,Tm.H9,Cs.H9,g];omega
  ·rw[cnt,Tm.nc,Tm.Fj,Tm.Fj,Cs.Fj,i];omega
theorem BA:∀(d:Nat) (t:Tm) (has:List ByteArray),t.Rt d->t.nt=0/\(t.ow has).nt=0/\(t.ow has).nc=t.nc:=by
 intro d;induction d with
 |zero=>intro t _ h;exact h.elim
 |succ d o=>
  intro t has hR;obtain⟨k,I,a,b,vs,xs,cs⟩:=t;have J:=hR;obtain⟨hk,-,-,hx,hc⟩:=hR;have hX:∀l:List Tm,(∀x∈l,x∈xs)->Tm.H9 l=0:=by
   intro l;induction l with
   |nil=>intro _;rfl
   |cons x r g=>
    intro i;rw[Tm.H9,(o x [] (hx x (i x (by simp)))).1,g λz C=>i z (by simp[C])]
  have hC:∀l:List Cs,(∀x∈l,x∈cs)->Cs.H9 l=0:=by
   intro l;induction l with
   |nil=>intro _;rfl
   |cons c r g=>
    intro i;have j:=(hc c (i c (by simp))).2;obtain⟨t,ws,y⟩:=c;rw[Cs.H9,Cs.nt,(o y [] j).1,g λz C=>i z (by simp[C])]
  have f:(Tm.mk k I a b vs xs cs).nt=0:=by rw[Tm.nt,if_neg oM,hX xs λ_ h=>h,hC cs λ_ h=>h]
  refine⟨f,?_⟩;rw[Tm.ow,(O9 (.inr rfl) _ _).1,(O9 (.inr rfl) _ _).2];split
  ·rw[(O9 (.inl rfl) _ _).1,(O9 (.inl rfl) _ _).2];exact⟨f,rfl⟩
  split
  ·rename_i h6;subst h6;obtain⟨x,y,rfl,rfl,P,T⟩:=WF J;generalize Uq has (Tm.mk 6 I a b vs [x,y] []).free=O;rw[(O9 (.inl rfl) _ _).1,(O9 (.inl rfl) _ _).2,Dr,Tm.VH,Tm.VH,Tm.VH];simp only[List.headD_cons,List.tail_cons];obtain⟨-,x1,x2⟩:=o x (Uq O x.free) P;obtain⟨-,U,y2⟩:=o y (Uq O (Rv y.free [a])++[a]) T;refine⟨?_,?_⟩
   ·rw[Tm.nt,if_neg oM,Tm.H9,Tm.H9,Tm.H9,Cs.H9,x1,U]
   ·rw[Tm.nc,Tm.nc,Tm.Fj,Tm.Fj,Tm.Fj,Cs.Fj,Tm.Fj,Tm.Fj,Tm.Fj,x2,y2]
  split
  ·rename_i h7;subst h7;generalize Uq has (Tm.mk 7 I a b vs xs cs).free=O;have hD:∀l:List Cs,(∀x∈l,x∈cs)->Cs.H9 (Cs.RU l O (Xn xs))=0/\Cs.Fj (Cs.RU l O (Xn xs))=Cs.Fj l:=by
    intro l;induction l with
    |nil=>intro _;exact⟨rfl,rfl⟩
    |cons c r g=>
     intro i;have j:=(hc c (i c (by simp))).2;obtain⟨e1,e2⟩:=g λz C=>i z (by simp[C])
     obtain⟨t,ws,y⟩:=c;obtain⟨-,U,y2⟩:=o y (if hasB y.free (Xn xs)then O++Uq ws y.free else Rv (O++Uq ws y.free) [Xn xs]) j;rw[Cs.RU,Cs.ow,Cs.H9,Cs.nt,Cs.Fj,Cs.nc,Cs.Fj,Cs.nc,(O9 (.inl rfl) _ _).1,(O9 (.inl rfl) _ _).2,(O9 (.inr rfl) _ _).1,(O9 (.inr rfl) _ _).2,U,y2,e1,e2];exact⟨rfl,rfl⟩
   obtain⟨e1,e2⟩:=hD cs λ_ h=>h
   refine⟨?_,?_⟩
   ·rw[Tm.nt,if_neg oM,hX xs λ_ h=>h,e1]
   ·rw[Tm.nc,Tm.nc,e2]
  ·exact⟨f,rfl⟩
theorem Jq6:∀(N:Nat) (t:Tm) (f:List ByteArray),t.sz<=N->t.S1->(t.sr f).2.nt=t.nt:=by
 intro N;induction N with
 |zero=>intro t _ h;have:=t.P8;omega
 |succ N o=>
  intro t f j l;obtain⟨k,n,a,b,vs,xs,cs⟩:=t;rw[Tm.sr];by_cases g:k=8/\hasB f a=true
  ·rw[if_pos g];obtain⟨⟨x,rfl⟩,rfl⟩:=l.1 (.inl g.1);obtain⟨rfl,-⟩:=g;rw[Tm.Bl];have i:x.sz<=N:=by
    rw[Tm.sz]at j;simp only[Tm.Xv]at j;omega
   rw[o x _ i l.2.1.1,Tm.nt,if_neg oM,Tm.H9,Tm.H9,Cs.H9];omega
  ·rw[if_neg g]
theorem Qg7{k:Int}{na:Nat}{nm:ByteArray}{ws:List ByteArray}{y:Tm}(i:y.S1):(Rq k na nm ws y).nt<=y.nt+1:=by
 unfold Rq;split
 ·rename_i f;obtain⟨-,-,-,j,o⟩:=f;have r:=Jq6 y.sz y ws (Nat.le_refl _) i;obtain⟨used,t,-⟩:=WB y.sz y ws (Nat.le_refl _) i;generalize y.sr ws=Z at *;obtain⟨l,z⟩:=Z;dsimp only at *;obtain⟨k,n,a,b,vs,xs,cs⟩:=z;rw[Tm.tk]at j;subst j;obtain⟨⟨x,rfl⟩,rfl⟩:=t.1 (.inr (.inl rfl));have g:(Tm.mk 9 n a b vs [x] []).a0=x:=rfl;rw[g,<-r,Tm.nt,Tm.nt,if_pos rfl,if_neg oM,Tm.H9,Tm.H9,Tm.H9,Tm.H9,(O9 (.inr rfl) _ _).1];omega
 ·omega
theorem Xq2:∀(N:Nat) (t:Tm),t.sz<=N->t.S1->t.fu.nt<=t.nt+t.nc:=by
 intro N;induction N with
 |zero=>intro t h;have:=t.P8;omega
 |succ N j=>
  intro t U o;obtain⟨k,n,a,b,vs,xs,cs⟩:=t;rw[Tm.sz]at U;have hX:∀l:List Tm,(∀x∈l,x∈xs)->Tm.H9 (Tm.I9 l)<=Tm.H9 l+Tm.Fj l:=by
   intro l;induction l with
   |nil=>intro _;exact Nat.le_refl _
   |cons x r f=>
    intro g;have C:=g x (by simp);have I:=j x (by have:=Tm.Z4 C;omega) (Ow.1 o.2.1 x C);have J:=f λz i=>g z (by simp[i])
    rw[Tm.I9,Tm.H9,Tm.H9,Tm.Fj];omega
  have hC:∀l:List Cs,(∀x∈l,x∈cs)->Cs.H9 (Cs.I9 k xs.length (Xn xs) l)<=Cs.H9 l+Cs.Fj l:=by
   intro l;induction l with
   |nil=>intro _;exact Nat.le_refl _
   |cons c r f=>
    intro g;have P:=g c (by simp);have J:=f λz i=>g z (by simp[i])
    obtain⟨t,ws,y⟩:=c;have hs:(Cs.mk t ws y).sz<=Cs.Xv cs:=Cs.Z4 P;rw[Cs.sz]at hs;have T:=F5.1 o.2.2 _ P;have I:=j y oM T;have h3:=Qg7 (k:=k) (na:=xs.length) (nm:=Xn xs) (ws:=ws) (DL y.sz y (Nat.le_refl _) T).1;rw[Cs.I9,Cs.H9,Cs.H9,Cs.Fj,Cs.fu,Cs.nt,Cs.nt,Cs.nc];omega
  have I:=hX xs λ_ h=>h
  have J:=hC cs λ_ h=>h
  rw[Tm.fu,Tm.nt,Tm.nt,Tm.nc];omega
structure Lv (f:Fn):Prop where
 Y0:f.Y0=0
 shp:FX f.body
 st:f.body.Uk=[]
 nt:f.body.nt<=1048576
 nd:f.params.Nodup
 nx:∀p∈f.params,RX p
abbrev Vf(f:Fn):LS:=⟨f.params.map λp=>(p,1),[],[]⟩
theorem YW(l:List ByteArray)(n:ByteArray):J3 (l.map λp=>(p,(1:Int))) n=if n∈l then some 1 else none:=by
 induction l with
 |nil=>simp[J3]
 |cons p r f=>
  rw[List.map_cons,J3,f];by_cases e:p=n
  ·subst e;rw[if_pos rfl,if_pos (by simp)]
  ·rw[if_neg e];have g:n≠p:=λh=>e h.symm
   simp[g]
theorem Gn{f:Fn}(h:f.params.Nodup):(Vf f).Ok:=by
 refine⟨?_,KN.nil,λn=>?_⟩
 ·unfold KN;rw[List.map_map];have:((λx:ByteArray×Int=>x.1) ∘ λp:ByteArray=>(p,(1:Int)))=id:=rfl;rw[this,List.map_id];exact h
 ·unfold LS.c;dsimp only;rw[YW];split<;> simp
theorem Fn.Yf{f:Fn}(h:f.params.Nodup):f.Y0=f.body.Y0 (Vf f):=by
 unfold Fn.Y0;rw[if_pos h]
def Fn.ru(f:Fn):Fn:=⟨f.name,f.params,(f.body.ru f.body.dp 0).1⟩
def Lf(l:List Fn):List Fn:=(Gm l).map Fn.ru
theorem Zd5{l:List Fn}(T:H5 l)(J:Jq l=0):∀f∈Un l,Lv f/\f.body.nc<=1048576:=λf hf=>by
 unfold Un at hf;obtain⟨g,U,rfl⟩:=List.mem_map.1 hf;have a1:=QR T J g U;obtain⟨x,hx,rfl⟩:=List.mem_map.1 U;have hR:=(ZH J).2.2.2 x hx;have hr:=(M3 T J x hx).2.1;have o:=hR.BO hr;have r:=hR.Zv0 hr;obtain⟨-,j,i⟩:=Ua T J x.pl U;have t:=hR.rn hr;have hw:=Ha _ 25 x.rn.body x.rn.params x.rn.params 0 0 (-151) (x.Zl hr) t.wrong (λ_ h=>h) oM (by have:=t.sz;omega) oM;have C:∀p∈x.pl.params,RX p:=λp hp=>YP (Tg t.bad p hp)
 obtain⟨hS,hT⟩:=Nb _ _ x.pl.body x.pl.params (-151) (Nat.lt_succ_self _) hw C;unfold Fn.bd at o;rw[List.nodup_append]at o;obtain⟨P,n2,n3⟩:=o;have I:(x.pl.body.ow x.pl.params).Y0 (Vf x.pl.ow)=0:=by
  refine Xj6 175 x.pl.body x.pl.params _ j i n2 (λn hn=>?_) P r (Gn (f:=x.pl.ow) P) (λn=>?_) rfl
  ·show J3 (x.pl.params.map λp=>(p,(1:Int))) n=none;rw[YW,if_neg (λh=>n3 n h n hn rfl)]
  ·unfold LS.c;show(J3 (x.pl.params.map λp=>(p,(1:Int))) n).getD 0=_;rw[YW];split<;> rfl
 have a2:x.pl.body.sz<=1048576:=by
  have hF:=a1.fit;generalize x.pl.body=z at hF⊢;obtain⟨k,n,a,b,vs,xs,cs⟩:=z;have:=Qq3 hF;rw[Tm.sz];exact this
 obtain⟨-,e1,e2⟩:=BA 175 x.pl.body x.pl.params j;have a3:=x.pl.body.NB;refine⟨⟨?_,Xj5 175 _ _ j i hS C,(Qq6 175 x.pl.body x.pl.params j i).2.2.2.2.2.1,?_,P,C⟩,?_⟩
 ·rw[Fn.Yf (f:=x.pl.ow) P];exact I
 ·show(x.pl.body.ow x.pl.params).nt<=_;rw[e1];omega
 ·show(x.pl.body.ow x.pl.params).nc<=_;rw[e2];omega
theorem Xd6{l:List Fn}(t:H5 l)(C:Jq l=0):∀f∈Gm l,Lv f:=λf I=>by
 unfold Gm at I;obtain⟨g,j,rfl⟩:=List.mem_map.1 I;obtain⟨h,P⟩:=Zd5 t C g j;have o:=h.shp.s1;have T:=Xq2 g.body.sz g.body (Nat.le_refl _) o;have i:=h.Y0;rw[Fn.Yf h.nd]at i;obtain⟨-,-,-,-,U⟩:=DL g.body.sz g.body (Nat.le_refl _) o;refine⟨?_,Xg3 g.body.sz g.body (Nat.le_refl _) h.shp,?_,?_,h.nd,h.nx⟩
 ·rw[Fn.Yf (f:=g.fu) h.nd];exact Xg4 g.body.sz g.body (Nat.le_refl _) o _ (Gn h.nd) i
 ·show g.body.fu.Uk=[]
  rw[U];exact h.st
 ·show g.body.fu.nt<=_;have:=h.nt;have J:g.body.nt=0:=by
   unfold Un at j;obtain⟨z,J,rfl⟩:=List.mem_map.1 j;obtain⟨-,r,-⟩:=Ua t C z J;exact(BA 175 z.body z.params r).2.1
  omega
theorem lv2{l:List Fn}(r:H5 l)(t:Jq l=0):∀f∈Lf l,f.Y0=0/\f.params.Nodup:=λf o=>by
 unfold Lf at o;obtain⟨g,C,rfl⟩:=List.mem_map.1 o;have h:=Xd6 r t g C;have j:=h.Y0;rw[Fn.Yf h.nd]at j;refine⟨?_,h.nd⟩;rw[Fn.Yf (f:=g.ru) h.nd];refine Xx2 g.body.dp g.body 0 _ (Nat.le_refl _) h.shp.nh h.shp.sh h.shp.nx (Int.le_refl _) (by have:=h.nt;omega) (λi _=>by rw[h.st];simp) (Gn h.nd) (λi _=>rfl) (λd=>?_) j;show J3 (g.params.map λp=>(p,(1:Int))) (excl d)=none;rw[YW,if_neg (λI=>h.nx _ I d rfl)]
theorem CJ:∀l:List Tm,Tm.D9 l=l.map Tm.er
 |[]=>rfl
 |x::r=>by rw[Tm.D9,CJ r];rfl
theorem Td:∀l:List Cs,Cs.D9 l=l.map Cs.er
 |[]=>rfl
 |x::r=>by rw[Cs.D9,Td r];rfl
theorem QL{k n:Int}{a b:ByteArray}{vs:List ByteArray}{x:Tm}{cs:List Cs}(h:k=8\/k=9\/k=10\/k=11\/k=13):(Tm.mk k n a b vs [x] cs).er=x.er:=by
 rw[Tm.er,if_pos ⟨decide_eq_true h,rfl⟩,Tm.Xd8]
theorem Yp{k n:Int}{a b:ByteArray}{vs:List ByteArray}{xs f:List Tm}{cs i:List Cs}(j:f.length=xs.length)(g:Tm.D9 f=Tm.D9 xs)(l:Cs.D9 i=Cs.D9 cs):(Tm.mk k n a b vs f i).er=(Tm.mk k n a b vs xs cs).er:=by
 rw[Tm.er,Tm.er,j];by_cases h:Oa k=true/\xs.length=1
 ·rw[if_pos h,if_pos h];cases f with
  |nil=>rw[<-j]at h;simp at h
  |cons u r=>
   cases xs with
   |nil=>simp at h
   |cons x q=>
    rw[Tm.D9,Tm.D9]at g;rw[Tm.Xd8,Tm.Xd8];exact(List.cons.inj g).1
 ·rw[if_neg h,if_neg h,g,l]
theorem Jq7:∀(N:Nat) (t:Tm) (f:List ByteArray),t.sz<=N->t.S1->(t.sr f).2.er=t.er:=by
 intro N;induction N with
 |zero=>intro t _ h;have:=t.P8;omega
 |succ N o=>
  intro t f j l;obtain⟨k,n,a,b,vs,xs,cs⟩:=t;rw[Tm.sr];by_cases g:k=8/\hasB f a=true
  ·rw[if_pos g];obtain⟨⟨x,rfl⟩,rfl⟩:=l.1 (.inl g.1);obtain⟨rfl,-⟩:=g;rw[Tm.Bl];have i:x.sz<=N:=by
    rw[Tm.sz]at j;simp only[Tm.Xv]at j;omega
   rw[o x _ i l.2.1.1,QL oM]
  ·rw[if_neg g]
theorem Qg8{k:Int}{na:Nat}{nm:ByteArray}{ws:List ByteArray}{y:Tm}(i:y.S1):(Rq k na nm ws y).er=y.er:=by
 unfold Rq;split
 ·rename_i f;obtain⟨-,-,-,j,o⟩:=f;have r:=Jq7 y.sz y ws (Nat.le_refl _) i;obtain⟨used,t,-⟩:=WB y.sz y ws (Nat.le_refl _) i;generalize y.sr ws=Z at *;obtain⟨l,z⟩:=Z;dsimp only at *;obtain⟨k,n,a,b,vs,xs,cs⟩:=z;rw[Tm.tk]at j;subst j;obtain⟨⟨x,rfl⟩,rfl⟩:=t.1 (.inr (.inl rfl));have g:(Tm.mk 9 n a b vs [x] []).a0=x:=rfl;rw[g,<-r,QL oM,QL oM,Vp (.inr rfl)]
 ·rfl
theorem Jj8:∀(N:Nat) (t:Tm),t.sz<=N->t.S1->t.fu.er=t.er:=by
 intro N;induction N with
 |zero=>intro t h;have:=t.P8;omega
 |succ N f=>
  intro t o g;obtain⟨k,n,a,b,vs,xs,cs⟩:=t;rw[Tm.sz]at o;rw[Tm.fu];refine Yp (Vh xs) ?_ ?_
  ·rw[CJ,CJ,Tm.Aw,List.map_map];exact List.map_congr_left λx i=>f x (by have:=Tm.Z4 i;omega) (Ow.1 g.2.1 x i)
  ·rw[Td,Td,Cs.Aw,List.map_map];refine List.map_congr_left λc j=>?_
   have l:=F5.1 g.2.2 c j;have r:=Cs.Z4 j;obtain⟨t,ws,y⟩:=c;rw[Cs.sz]at r;show(Cs.fu k xs.length (Xn xs) (.mk t ws y)).er=(Cs.mk t ws y).er;rw[Cs.fu,Cs.er,Cs.er,Qg8 (DL y.sz y (Nat.le_refl _) l).1,f y oM l]
mutual
def Tm.C0:Tm->Prop
 | .mk k n a b vs xs cs=>(k=3->b=⟨#[]⟩)/\Tm.Na xs/\Cs.Na cs
def Tm.Na:List Tm->Prop
 |[]=>True
 |x::r=>x.C0/\Tm.Na r
def Cs.Na:List Cs->Prop
 |[]=>True
 |c::r=>c.C0/\Cs.Na r
def Cs.C0:Cs->Prop
 | .mk t ws y=>y.C0
end
theorem Tu:∀{l:List Tm},Tm.Na l<->∀x∈l,x.C0
 |[]=>by simp[Tm.Na]
 |x::r=>by simp[Tm.Na,Tu (l:=r)]
theorem XW:∀{l:List Cs},Cs.Na l<->∀x∈l,x.C0
 |[]=>by simp[Cs.Na]
 |x::r=>by simp[Cs.Na,XW (l:=r)]
theorem Xx9(b:ByteArray)(m:Nat):∀(N:Nat) (t:Tm),t.sz<=N->t.S1->t.C0->(t.put b m).er=t.er/\(t.put b m).S1/\(t.put b m).C0:=by
 intro N;induction N with
 |zero=>intro t h;have:=t.P8;omega
 |succ N U=>
  intro t hN o C;obtain⟨k,n,a,b0,vs,xs,cs⟩:=t;rw[Tm.sz]at hN;have J:∀l:List Tm,(∀x∈l,x.sz<=N)->Tm.FD l->Tm.Na l->Tm.D9 (Tm.H8 b m l)=Tm.D9 l/\(Tm.H8 b m l).length=l.length/\Tm.FD (Tm.H8 b m l)/\Tm.Na (Tm.H8 b m l):=λl T I j=>by
   cases l with
   |nil=>exact⟨rfl,rfl,trivial,trivial⟩
   |cons x r=>
    obtain⟨g,i,f⟩:=U x (T x (by simp)) I.1 j.1;rw[Tm.H8];exact⟨by rw[Tm.D9,Tm.D9,g],rfl,⟨i,I.2⟩,⟨f,j.2⟩⟩
  have hX:∀x∈xs,x.sz<=N:=λx hx=>by have:=Tm.Z4 hx;omega
  rw[Tm.put];split
  ·exact⟨QL oM,⟨oM,⟨o,trivial⟩,trivial⟩,⟨oM,⟨C,trivial⟩,trivial⟩⟩
  split
  ·rename_i h3;subst h3;refine⟨?_,⟨oM,o.2⟩,⟨oM,C.2⟩⟩;have a1:Oa 12=false:=by unfold Oa;decide
   have f3:Oa 3=false:=by unfold Oa;decide
   have a2:(Tm.mk 12 n a b vs xs cs).er= .mk 3 n a ⟨#[]⟩ vs (Tm.D9 xs) (Cs.D9 cs):=by rw[Tm.er,if_neg (by rw[a1];simp)];rfl
   have f:(Tm.mk 3 n a b0 vs xs cs).er= .mk 3 n a b0 vs (Tm.D9 xs) (Cs.D9 cs):=by rw[Tm.er,if_neg (by rw[f3];simp)];rfl
   rw[a2,f,C.1 rfl]
  split
  ·rename_i h6;have hL:∀l:List Tm,(∀x∈l,x.sz<=N)->Tm.FD l->Tm.Na l->Tm.D9 (Tm.Qd b m l)=Tm.D9 l/\(Tm.Qd b m l).length=l.length/\Tm.FD (Tm.Qd b m l)/\Tm.Na (Tm.Qd b m l):=λl T I j=>by
    cases l with
    |nil=>exact⟨rfl,rfl,trivial,trivial⟩
    |cons x r=>
     rw[Tm.Qd];split
     ·obtain⟨g,i,f⟩:=U x (T x (by simp)) I.1 j.1;exact⟨by rw[Tm.D9,Tm.D9,g],rfl,⟨i,I.2⟩,⟨f,j.2⟩⟩
     ·obtain⟨g,i,f,P⟩:=J r (λz hz=>T z (by simp[hz])) I.2 j.2;exact⟨by rw[Tm.D9,Tm.D9,g],by rw[List.length_cons,List.length_cons,i],⟨I.1,f⟩,⟨j.1,P⟩⟩
   obtain⟨g,i,f,P⟩:=hL xs hX o.2.1 C.2.1;exact⟨Yp i g rfl,⟨oM,f,o.2.2⟩,⟨oM,P,C.2.2⟩⟩
  split
  ·rename_i h7;have hL:∀l:List Cs,(∀x∈l,x∈cs)->Cs.D9 (Cs.Jz b m l)=Cs.D9 l/\Cs.FD (Cs.Jz b m l)/\Cs.Na (Cs.Jz b m l):=by
    intro l;induction l with
    |nil=>intro _;exact⟨rfl,trivial,trivial⟩
    |cons c r a3=>
     intro hm;have hc:=hm c (by simp);obtain⟨g,i,f⟩:=a3 λz hz=>hm z (by simp[hz])
     have hs:=Cs.Z4 hc;have I:=F5.1 o.2.2 c hc;have j:=XW.1 C.2.2 c hc;obtain⟨t,ws,y⟩:=c;rw[Cs.sz]at hs;obtain⟨f1,f2,f3⟩:=U y oM I j;rw[Cs.Jz,Cs.put];exact⟨by rw[Cs.D9,Cs.D9,g,Cs.er,Cs.er,f1],⟨f2,i⟩,⟨f3,f⟩⟩
   obtain⟨g,i,f⟩:=hL cs λ_ h=>h
   exact⟨Yp rfl rfl g,⟨oM,o.2.1,i⟩,⟨oM,C.2.1,f⟩⟩
  ·rename_i h3 h6 h7;obtain⟨g,i,f,P⟩:=J xs hX o.2.1 C.2.1;refine⟨Yp i g rfl,⟨λh=>?_,f,o.2.2⟩,⟨λh=>absurd h h3,P,C.2.2⟩⟩;obtain⟨⟨x,rfl⟩,j⟩:=o.1 h;exact⟨⟨_,rfl⟩,j⟩
theorem Jx0:∀(N:Nat) (t:Tm) (c:Int),t.S1->t.C0->(t.ru N c).1.er=t.er:=by
 intro N;induction N with
 |zero=>intro t c _ _;rw[Tm.ru]
 |succ N I=>
  intro t c C J;obtain⟨k,n,a,b,vs,xs,cs⟩:=t;have U:∀(l:List Tm) (c:Int),Tm.FD l->Tm.Na l->Tm.D9 (Cw (Tm.ru N) l c).1=Tm.D9 l/\(Cw (Tm.ru N) l c).1.length=l.length:=by
   intro l;induction l with
   |nil=>intro c _ _;exact⟨rfl,rfl⟩
   |cons x r f=>
    intro c g i;obtain⟨j,o⟩:=f (x.ru N c).2 g.2 i.2;rw[Cw];exact⟨by rw[Tm.D9,Tm.D9,I x c g.1 i.1,j],by rw[List.length_cons,List.length_cons,o]⟩
  have P:∀(l:List Cs) (c:Int),Cs.FD l->Cs.Na l->Cs.D9 (QQ (Tm.ru N) l c).1=Cs.D9 l:=by
   intro l;induction l with
   |nil=>intro c _ _;rfl
   |cons x r f=>
    intro c g i;obtain⟨t,ws,y⟩:=x;rw[QQ,Cs.D9,Cs.D9,Cs.er,Cs.er,I y c g.1 i.1,f (y.ru N c).2 g.2 i.2]
  rw[Tm.ru];split
  ·rename_i hc;obtain⟨rfl,T⟩:=hc;obtain⟨⟨x,rfl⟩,rfl⟩:=C.1 (.inr (.inr rfl));obtain⟨j,o,e3⟩:=Xx9 (JK (wr (c+1))) vs.length x.sz x (Nat.le_refl _) C.2.1.1 J.2.1.1;rw[Tm.H8];dsimp only[Cw];rw[QL oM,QL oM,I _ _ o e3,j]
  ·obtain⟨j,o⟩:=U xs c C.2.1 J.2.1;exact Yp o j (P cs _ C.2.2 J.2.2)
theorem Re:∀(bs:Bs) (t:Tm),(∀b∈bs,b.2.C0)->t.C0->(around bs t).C0
 |[],t,_,h=>h
 |b::r,t,f,h=>⟨oM,⟨f b (List.mem_cons_self ..),Re r t (λx g=>f x (List.mem_cons_of_mem _ g)) h,trivial⟩,trivial⟩
theorem Jx8:∀(d:Nat) (t:Tm) (c:Int),t.Rt d->(t.pl c).1.C0:=by
 intro d;induction d with
 |zero=>intro t _ h;exact h.elim
 |succ d J=>
 intro t c hR;obtain⟨k,n,a,b,vs,xs,cs⟩:=t;have T:=hR;obtain⟨hk,i,_,U,hc⟩:=T;have hA:∀(f:List Tm) (c:Int),(∀y∈f,y∈xs)->Tm.Na (Tm.ats f c).1/\∀b∈(Tm.ats f c).2.1,b.2.C0:=by
  intro f;induction f with
  |nil=>intro c _;exact⟨trivial,λb I=>by simp[Tm.ats]at I⟩
  |cons y r g=>
   intro c j;have P:=U y (j y (List.mem_cons_self ..));rw[Tm.ats];by_cases h:y.tk=1
   ·rw[if_pos h];obtain⟨l,o⟩:=g c λz C=>j z (List.mem_cons_of_mem _ C)
    refine⟨⟨?_,l⟩,o⟩;have:=J y 0 P;obtain⟨yk,yn,ya,yb,a1,a2,a3⟩:=y;rw[Tm.tk]at h;subst h;rw[Tm.pl,if_neg oM,if_neg oM,if_neg oM]at this;exact this
   ·rw[if_neg h];obtain⟨l,o⟩:=g (y.pl (wr (c+1))).2 λz C=>j z (List.mem_cons_of_mem _ C)
    refine⟨⟨⟨oM,trivial,trivial⟩,l⟩,λb I=>?_⟩;rcases List.mem_cons.1 I with rfl|I
    ·exact J y _ P
    ·exact o b I
 have hL:∀(f:List Tm) (c:Int),(∀y∈f,y∈xs)->Tm.Na (Tm.M5 f c).1:=by
  intro f;induction f with
  |nil=>intro c _;trivial
  |cons y r g=>
   intro c j;rw[Tm.M5];exact⟨J y _ (U y (j y (List.mem_cons_self ..))),g _ λz C=>j z (List.mem_cons_of_mem _ C)⟩
 have hC:∀(f:List Cs) (c:Int),(∀y∈f,y∈cs)->Cs.Na (Cs.M5 f c).1:=by
  intro f;induction f with
  |nil=>intro c _;trivial
  |cons y r g=>
   intro c j;have P:=hc y (j y (List.mem_cons_self ..));obtain⟨t,ws,y⟩:=y;rw[Cs.M5,Cs.pl];exact⟨J y _ P.2,g _ λz C=>j z (List.mem_cons_of_mem _ C)⟩
 rw[Tm.pl];split
 ·obtain⟨l,o⟩:=hA xs c λ_ h=>h
  exact Re _ _ o ⟨λ_=>rfl,l,trivial⟩
 split
 ·exact⟨oM,hL xs c λ_ h=>h,trivial⟩
 split
 ·obtain⟨l,o⟩:=hA xs c λ_ h=>h
  exact Re _ _ o ⟨oM,l,hC cs _ λ_ h=>h⟩
 ·have h1:k=1\/k=2:=oM;have h2:xs=[]/\cs=[]:=by
   unfold Xx at i;rcases h1 with rfl|rfl<;> simpa using i
  obtain⟨rfl,rfl⟩:=h2;exact⟨oM,trivial,trivial⟩
theorem Vs{k:Int}(f:k=8\/k=9):∀(l:List ByteArray) {t:Tm},t.C0->(cnt k l t).C0
 |[],_,h=>h
 |a::r,t,h=>⟨oM,⟨Vs f r h,trivial⟩,trivial⟩
theorem Jj1:∀(d:Nat) (t:Tm) (has:List ByteArray),t.Rt d->t.C0->(t.ow has).C0:=by
 intro d;induction d with
 |zero=>intro t _ h;exact h.elim
 |succ d i=>
  intro t has C f;obtain⟨k,U,a,b,vs,xs,cs⟩:=t;have j:=C;obtain⟨hk,-,-,hx,I⟩:=C;rw[Tm.ow];refine Vs (.inr rfl) _ ?_;split
  ·exact Vs (.inl rfl) _ f
  split
  ·rename_i J;subst J;obtain⟨x,y,rfl,rfl,l,o⟩:=WF j;rw[Dr,Tm.VH,Tm.VH,Tm.VH];simp only[List.headD_cons,List.tail_cons];exact Vs (.inl rfl) _ ⟨oM,⟨i x _ l f.2.1.1,i y _ o f.2.1.2.1,trivial⟩,trivial⟩
  split
  ·refine⟨oM,f.2.1,?_⟩;rw[Hg];refine XW.2 λc h=>?_
   obtain⟨r,g,rfl⟩:=List.mem_map.1 h;have P:=(I r g).2;have T:=XW.1 f.2.2 r g;obtain⟨t,ws,y⟩:=r;rw[Cs.ow];exact Vs (.inl rfl) _ (Vs (.inr rfl) _ (i y _ P T))
  ·exact f
theorem Jq8:∀(N:Nat) (t:Tm) (f:List ByteArray),t.sz<=N->t.S1->t.C0->(t.sr f).2.C0:=by
 intro N;induction N with
 |zero=>intro t _ h;have:=t.P8;omega
 |succ N r=>
  intro t f j l o;obtain⟨k,n,a,b,vs,xs,cs⟩:=t;rw[Tm.sr];by_cases g:k=8/\hasB f a=true
  ·rw[if_pos g];obtain⟨⟨x,rfl⟩,rfl⟩:=l.1 (.inl g.1);rw[Tm.Bl];have i:x.sz<=N:=by
    rw[Tm.sz]at j;simp only[Tm.Xv]at j;omega
   exact r x _ i l.2.1.1 o.2.1.1
  ·rw[if_neg g];exact o
theorem Qg9{k:Int}{na:Nat}{nm:ByteArray}{ws:List ByteArray}{y:Tm}(g:y.S1)(i:y.C0):(Rq k na nm ws y).C0:=by
 unfold Rq;split
 ·rename_i f;obtain⟨-,-,-,j,o⟩:=f;have r:=Jq8 y.sz y ws (Nat.le_refl _) g i;obtain⟨used,t,-⟩:=WB y.sz y ws (Nat.le_refl _) g;generalize y.sr ws=Z at *;obtain⟨l,z⟩:=Z;dsimp only at *;obtain⟨k,n,a,b,vs,xs,cs⟩:=z;rw[Tm.tk]at j;subst j;obtain⟨⟨x,rfl⟩,rfl⟩:=t.1 (.inr (.inl rfl));exact⟨oM,⟨Vs (.inr rfl) _ r.2.1.1,trivial⟩,trivial⟩
 ·exact i
theorem Jj9:∀(N:Nat) (t:Tm),t.sz<=N->t.S1->t.C0->t.fu.C0:=by
 intro N;induction N with
 |zero=>intro t h;have:=t.P8;omega
 |succ N o=>
  intro t I r f;obtain⟨k,n,a,b,vs,xs,cs⟩:=t;rw[Tm.sz]at I;rw[Tm.fu,Tm.Aw,Cs.Aw];refine⟨f.1,Tu.2 λu g=>?_,XW.2 λu g=>?_⟩
  ·obtain⟨x,i,rfl⟩:=List.mem_map.1 g;exact o x (by have:=Tm.Z4 i;omega) (Ow.1 r.2.1 x i) (Tu.1 f.2.1 x i)
  ·obtain⟨c,j,rfl⟩:=List.mem_map.1 g;have C:=F5.1 r.2.2 c j;have l:=XW.1 f.2.2 c j;have J:=Cs.Z4 j;obtain⟨t,ws,y⟩:=c;rw[Cs.sz]at J;rw[Cs.fu];exact Qg9 (DL y.sz y (Nat.le_refl _) C).1 (o y oM C l)
theorem Xk8{l:List Fn}(j:H5 l)(o:Jq l=0):∀f∈Un l,f.body.C0:=λf r=>by
 unfold Un at r;obtain⟨g,t,rfl⟩:=List.mem_map.1 r;obtain⟨-,i,-⟩:=Ua j o g t;obtain⟨x,C,rfl⟩:=List.mem_map.1 t;have hr:=(M3 j o x C).2.1;exact Jj1 175 x.pl.body x.pl.params i (Jx8 25 x.rn.body 0 (x.Zl hr))
theorem Xk7{l:List Fn}(g:H5 l)(i:Jq l=0):∀f∈Un l,f.fu.body.er=f.body.er:=λf j=>Jj8 f.body.sz f.body (Nat.le_refl _) (Zd5 g i f j).1.shp.s1
theorem Xk5{l:List Fn}(i:H5 l)(j:Jq l=0):∀f∈Gm l,f.ru.body.er=f.body.er:=λf o=>by
 have t:=(Xd6 i j f o).shp.s1;refine Jx0 _ _ _ t ?_;unfold Gm at o;obtain⟨g,r,rfl⟩:=List.mem_map.1 o;exact Jj9 g.body.sz g.body (Nat.le_refl _) (Zd5 i j g r).1.shp.s1 (Xk8 i j g r)
theorem Xx6(b:ByteArray)(m:Nat)(t:Tm)(h:t.Sh):(t.put b m).Sh:=(SC b m t.sz t (Nat.le_refl _)).sh h
theorem Jz6:∀(N:Nat) (t:Tm) (c:Int),t.Sh->(t.ru N c).1.Sh:=by
 intro N;induction N with
 |zero=>intro t c h;rw[Tm.ru];exact h
 |succ N C=>
  intro t c f;obtain⟨k,n,a,b,vs,xs,cs⟩:=t;have j:∀(l:List Tm) (c:Int),Tm.RL l->Tm.RL (Cw (Tm.ru N) l c).1/\((Cw (Tm.ru N) l c).1=[]<->l=[]):=by
   intro l;induction l with
   |nil=>intro c _;exact⟨trivial,Iff.rfl⟩
   |cons x r g=>
    intro c i;rw[Cw];exact⟨⟨C x c i.1,(g _ i.2).1⟩,by simp⟩
  have o:∀(l:List Cs) (c:Int),Cs.RL l->Cs.RL (QQ (Tm.ru N) l c).1/\((QQ (Tm.ru N) l c).1=[]<->l=[]):=by
   intro l;induction l with
   |nil=>intro c _;exact⟨trivial,Iff.rfl⟩
   |cons x r g=>
    intro c i;obtain⟨t,ws,y⟩:=x;rw[QQ];exact⟨⟨C y c i.1,(g _ i.2).1⟩,by simp⟩
  rw[Tm.ru];split
  ·refine⟨oM,λ_=>rfl,oM,(j _ _ ?_).1,trivial⟩;cases xs with
   |nil=>trivial
   |cons x r=>rw[Tm.H8];exact⟨Xx6 _ _ x f.2.2.2.1.1,f.2.2.2.1.2⟩
  ·exact⟨λh=>(j _ _ f.2.2.2.1).2.2 (f.1 h),λh=>(o _ _ f.2.2.2.2).2.2 (f.2.1 h),λh e=>f.2.2.1 h ((o _ _ f.2.2.2.2).2.1 e),(j _ _ f.2.2.2.1).1,(o _ _ f.2.2.2.2).1⟩
abbrev QZ:=List (ByteArray×List ByteArray)
mutual
def Tm.Tk:QZ->Tm->Prop
 |mt,.mk k n a b vs xs cs=>(k=10\/k=11->(a,vs)∈mt/\vs≠[])/\Tm.EX mt xs/\(k=7->Cs.EX mt (QK xs).nm cs)
def Tm.EX:QZ->List Tm->Prop
 |_,[]=>True
 |mt,x::r=>x.Tk mt/\Tm.EX mt r
def Cs.EX:QZ->ByteArray->List Cs->Prop
 |_,_,[]=>True
 |mt,nm,c::r=>c.Tk mt nm/\Cs.EX mt nm r
def Cs.Tk:QZ->ByteArray->Cs->Prop
 |mt,nm,.mk t ws y=>y.Tk ((nm,ws)::mt)
end
theorem Gt{mt:QZ}:∀{l:List Tm},Tm.EX mt l<->∀x∈l,x.Tk mt
 |[]=>by simp[Tm.EX]
 |x::r=>by simp[Tm.EX,Gt (l:=r)]
theorem Qi{mt:QZ}{nm:ByteArray}:∀{l:List Cs},Cs.EX mt nm l<->∀c∈l,c.Tk mt nm
 |[]=>by simp[Cs.EX]
 |x::r=>by simp[Cs.EX,Qi (l:=r)]
theorem Zj1:∀(N:Nat) (t:Tm) (mt:QZ),t.sz<=N->t.nt=0->t.NH->t.Tk mt:=by
 intro N;induction N with
 |zero=>intro t _ h;have:=t.P8;omega
 |succ N I=>
  intro t mt T J i;obtain⟨k,n,a,b,vs,xs,cs⟩:=t;rw[Tm.sz]at T;rw[Tm.nt]at J;have U:k≠10:=λe=>by rw[if_pos e]at J;omega
  have j:∀(l:List Tm),Tm.H9 l=0->∀x∈l,x.nt=0:=by
   intro l;induction l with
   |nil=>intro _ x f;cases f
   |cons y r g=>
    intro h x f;rw[Tm.H9]at h;rcases List.mem_cons.1 f with rfl|f
    ·omega
    ·exact g oM x f
  have o:∀(l:List Cs),Cs.H9 l=0->∀x∈l,x.nt=0:=by
   intro l;induction l with
   |nil=>intro _ x f;cases f
   |cons y r g=>
    intro h x f;rw[Cs.H9]at h;rcases List.mem_cons.1 f with rfl|f
    ·omega
    ·exact g oM x f
  refine⟨λh=>?_,Gt.2 λx f=>I x mt (by have:=Tm.Z4 f;omega) (j xs oM x f) (Kg.1 i.2.1 x f),λh7=>Qi.2 λc C=>?_⟩
  ·rcases h with h|h
   ·exact absurd h U
   ·exact absurd h i.1
  ·have P:=o cs oM c C;have h2:=I7.1 i.2.2 c C;obtain⟨t,ws,y⟩:=c;have hs:(Cs.mk t ws y).sz<=Cs.Xv cs:=Cs.Z4 C;rw[Cs.sz]at hs;rw[Cs.nt]at P;exact I y _ oM P h2
theorem Zq2{k:Int}(f:k=8\/k=9){mt:QZ}:∀(l:List ByteArray) {t:Tm},t.Tk mt->(cnt k l t).Tk mt
 |[],_,h=>h
 |a::r,t,h=>⟨oM,⟨Zq2 f r h,trivial⟩,λg=>oM⟩
theorem Jq5{mt:QZ}:∀(N:Nat) (t:Tm) (f:List ByteArray),t.sz<=N->t.S1->t.Tk mt->(t.sr f).2.Tk mt:=by
 intro N;induction N with
 |zero=>intro t _ h;have:=t.P8;omega
 |succ N o=>
  intro t f i j l;obtain⟨k,n,a,b,vs,xs,cs⟩:=t;rw[Tm.sr];by_cases g:k=8/\hasB f a=true
  ·rw[if_pos g];obtain⟨⟨x,rfl⟩,rfl⟩:=j.1 (.inl g.1);rw[Tm.Bl];rw[Tm.sz]at i;simp only[Tm.Xv]at i;exact o x (Rv f [a]) oM j.2.1.1 l.2.1.1
  ·rw[if_neg g];exact l
theorem Qg4{k:Int}{na:Nat}{nm:ByteArray}{ws:List ByteArray}{y:Tm}{mt:QZ}(o:y.S1)(I:ws≠[]->k=7->(nm,ws)∈mt)(r:y.Tk mt):(Rq k na nm ws y).Tk mt:=by
 unfold Rq;split
 ·rename_i f;obtain⟨J,-,t,C,P⟩:=f;have g:ws≠[]:=λe=>J (by rw[e];rfl)
  have T:=Jq5 y.sz y ws (Nat.le_refl _) o r;obtain⟨j,-⟩:(y.sr ws).2.S1/\True:=⟨(WB y.sz y ws (Nat.le_refl _) o).choose_spec.1,trivial⟩
  generalize y.sr ws=Z at *;obtain⟨i,z⟩:=Z;dsimp only at *;obtain⟨U,n,a,b,vs,xs,cs⟩:=z;rw[Tm.tk]at C;subst C;obtain⟨⟨x,rfl⟩,rfl⟩:=j.1 (.inr (.inl rfl));have l:(Tm.mk 9 n a b vs [x] []).a0=x:=rfl;rw[l];exact⟨λ_=>⟨I g t,g⟩,⟨Zq2 (.inr rfl) i T.2.1.1,trivial⟩,λt=>oM⟩
 ·exact r
theorem BZ:∀(N:Nat) (t:Tm) {mt:QZ},t.sz<=N->t.S1->t.Tk mt->t.fu.Tk mt:=by
 intro N;induction N with
 |zero=>intro t _ h;have:=t.P8;omega
 |succ N o=>
  intro t mt J C g;obtain⟨k,n,a,b,vs,xs,cs⟩:=t;rw[Tm.sz]at J;have i:(QK (xs.map Tm.fu)).nm=(QK xs).nm:=by
   cases xs with
   |nil=>rfl
   |cons x r=>exact x.Aa
  rw[Tm.fu,Tm.Aw,Cs.Aw];refine⟨g.1,Gt.2 λu P=>?_,λT=>Qi.2 λc U=>?_⟩
  ·obtain⟨x,j,rfl⟩:=List.mem_map.1 P;exact o x (by have:=Tm.Z4 j;omega) (Ow.1 C.2.1 x j) (Gt.1 g.2.1 x j)
  ·obtain⟨l,f,rfl⟩:=List.mem_map.1 U;have h1:=Qi.1 (g.2.2 T) l f;have I:=F5.1 C.2.2 l f;obtain⟨t,ws,y⟩:=l;have hs:(Cs.mk t ws y).sz<=Cs.Xv cs:=Cs.Z4 f;rw[Cs.sz]at hs;rw[Cs.fu,i];refine Qg4 (DL y.sz y (Nat.le_refl _) I).1 (λ_ _=>?_) (o y oM I h1);have e:Xn xs=(QK xs).nm:=by
    cases xs<;> rfl
   rw[e];exact List.mem_cons_self ..
theorem Xx5(b:ByteArray)(m:Nat):∀(N:Nat) (t:Tm) {mt:QZ},t.sz<=N->t.Tk mt->(t.put b m).Tk mt:=by
 intro N;induction N with
 |zero=>intro t _ h;have:=t.P8;omega
 |succ N o=>
  intro t mt U f;obtain⟨k,n,a,b',vs,xs,cs⟩:=t;rw[Tm.sz]at U;have g:∀x∈xs,x.sz<=N:=λx hx=>by have:=Tm.Z4 hx;omega
  have key:∀(l:List Tm),(∀x∈l,x.sz<=N)->Tm.EX mt l->Tm.EX mt (Tm.H8 b m l):=λl hl h=>by
   cases l with
   |nil=>trivial
   |cons x r=>exact⟨o x (hl x (by simp)) h.1,h.2⟩
  rw[Tm.put];split
  ·exact⟨oM,⟨f,trivial⟩,λi=>oM⟩
  split
  ·exact⟨oM,f.2.1,λi=>oM⟩
  split
  ·rename_i C I J;refine⟨λh=>oM,?_,λi=>oM⟩;cases xs with
   |nil=>trivial
   |cons x r=>
    rw[Tm.Qd];split
    ·exact⟨o x (g x (by simp)) f.2.1.1,f.2.1.2⟩
    ·exact⟨f.2.1.1,key r (λy hy=>g y (by simp[hy])) f.2.1.2⟩
  split
  ·rename_i C I J i;refine⟨λh=>oM,f.2.1,λ_=>Qi.2 λc P=>?_⟩;rw[Xb]at P;obtain⟨T,j,rfl⟩:=List.mem_map.1 P;have hq:=Qi.1 (f.2.2 i) T j;obtain⟨t,ws,y⟩:=T;have hs:(Cs.mk t ws y).sz<=Cs.Xv cs:=Cs.Z4 j;rw[Cs.sz]at hs;rw[Cs.put];exact o y oM hq
  ·rename_i C I J i;exact⟨f.1,key xs g f.2.1,λh=>absurd h i⟩
theorem Jz9(N:Nat)(t:Tm)(c:Int):(t.ru N c).1.nm=t.nm:=by
 cases N with
 |zero=>rw[Tm.ru]
 |succ N=>
  obtain⟨k,n,a,b,vs,xs,cs⟩:=t;rw[Tm.ru];split<;> rfl
theorem Jz5:∀(N:Nat) (t:Tm) (c:Int) {mt:QZ},t.Tk mt->(t.ru N c).1.Tk mt:=by
 intro N;induction N with
 |zero=>intro t c mt h;rw[Tm.ru];exact h
 |succ N i=>
  intro t c mt g;obtain⟨k,n,a,b,vs,xs,cs⟩:=t;have j:∀(l:List Tm) (c:Int),Tm.EX mt l->Tm.EX mt (Cw (Tm.ru N) l c).1:=by
   intro l;induction l with
   |nil=>intro c _;trivial
   |cons x r f=>intro c h;rw[Cw];exact⟨i x c h.1,f _ h.2⟩
  have o:∀(nm:ByteArray) (l:List Cs) (c:Int),Cs.EX mt nm l->Cs.EX mt nm (QQ (Tm.ru N) l c).1:=by
   intro nm l;induction l with
   |nil=>intro c _;trivial
   |cons x r f=>
    intro c h;obtain⟨t,ws,y⟩:=x;rw[QQ];exact⟨i y c h.1,f _ h.2⟩
  rw[Tm.ru];split
  ·rename_i C;refine⟨λ_=>g.1 (.inl C.1),j _ _ ?_,λh=>oM⟩;cases xs with
   |nil=>trivial
   |cons x r=>rw[Tm.H8];exact⟨Xx5 _ _ x.sz x (Nat.le_refl _) g.2.1.1,g.2.1.2⟩
  ·refine⟨g.1,j _ _ g.2.1,λI=>?_⟩;have e:(QK (Cw (Tm.ru N) xs c).1).nm=(QK xs).nm:=by
    cases xs with
    |nil=>rfl
    |cons x r=>rw[Cw];exact Jz9 N x c
   rw[e];exact o _ _ _ (g.2.2 I)
theorem Jj3{l:List Fn}(o:H5 l)(r:Jq l=0):(∀f∈Un l,f.body.Tk [])/\(∀f∈Gm l,f.body.Tk [])/\∀f∈Lf l,f.body.Tk []:=by
 have C:∀f∈Un l,f.body.Tk []:=λf i=>by
  have J:=(Zd5 o r f i).1.shp;have P:f.body.nt=0:=by
   unfold Un at i;obtain⟨g,j,rfl⟩:=List.mem_map.1 i;obtain⟨x,T,rfl⟩:=List.mem_map.1 j;obtain⟨-,t,-⟩:=Ua o r x.pl j;exact(BA 175 x.pl.body x.pl.params t).2.1
  exact Zj1 f.body.sz f.body [] (Nat.le_refl _) P J.nh
 have I:∀f∈Gm l,f.body.Tk []:=λf i=>by
  unfold Gm at i;obtain⟨g,j,rfl⟩:=List.mem_map.1 i;exact BZ g.body.sz g.body (Nat.le_refl _) (Zd5 o r g j).1.shp.s1 (C g j)
 refine⟨C,I,λf i=>?_⟩;unfold Lf at i;obtain⟨g,j,rfl⟩:=List.mem_map.1 i;exact Jz5 _ _ _ (I g j)
mutual
def Tm.wg:Tm->Nat
 | .mk k n a b vs xs cs=>1+(if k=10\/k=11 then vs.length else 0)+Tm.M0 xs+Cs.M0 cs
def Tm.M0:List Tm->Nat
 |[]=>0
 |x::r=>x.wg+Tm.M0 r
def Cs.M0:List Cs->Nat
 |[]=>0
 |c::r=>c.wg+Cs.M0 r
def Cs.wg:Cs->Nat
 | .mk t ws y=>y.wg
end
theorem Cs.RZ{x:Cs}:∀{l:List Cs},x∈l->x.wg<=Cs.M0 l
 |y::r,h=>by
  rw[Cs.M0];rcases List.mem_cons.1 h with rfl|h
  ·omega
  ·have:=Cs.RZ h;omega
structure LS.Wd (s:LS) (W:Nat):Prop where
 bd:s.Bd (4611686018427387904-W)
 tl:(s.tk.length:Int)+W<=4611686018427387904
 k1:KN s.ct
 k2:KN s.inn
 k3:KN s.tk
structure RY (s:LS) (mt:QZ) (env:J6):Prop where
 ct:∀n,(J3 s.ct n).isSome=true->M9 env n=true
 inn:∀n,(J3 s.inn n).isSome=true->M9 env n=true
 mt:∀p∈mt,∀v∈p.2,M9 env v=true
 tk:∀b,(J3 s.tk b).isSome=true->M9 env (excl b)=true
structure RI (A:X6) (t:Tm) (s:LS) (mt:QZ) (env:J6):Prop where
 Y0:t.Y0 s=0
 tk:t.Tk mt
 wr:∃names deep,t.er.wrong A names deep=0
 cov:RY s mt env
theorem Xr{s:LS}{n:ByteArray}(h:(s.Vz n).1=0):(J3 s.ct n).isSome=true:=by
 unfold LS.Vz at h;cases hk:J3 s.ct n with
 |none=>rw[hk]at h;simp at h
 |some k=>rfl
theorem MI{s:LS}{n:ByteArray}(m:ByteArray)(h:(J3 (s.Vz n).2.ct m).isSome=true):(J3 s.ct m).isSome=true:=by
 unfold LS.Vz at h;cases hk:J3 s.ct n with
 |none=>rw[hk]at h;exact h
 |some k=>
  rw[hk]at h;dsimp only at h;split at h
  ·exact h
  ·dsimp only at h;rw[Xj]at h;by_cases e:n=m
   ·subst e;rw[hk];rfl
   ·rw[if_neg e]at h;exact h
theorem Ng(s:LS)(n:ByteArray):(s.Vz n).2.inn=s.inn/\(s.Vz n).2.tk=s.tk:=by
 unfold LS.Vz;split
 ·exact⟨rfl,rfl⟩
 ·split<;> exact⟨rfl,rfl⟩
theorem Wi:∀(xs:List Tm) {s:LS},(s.F6 xs).1=0->∀x∈xs,x.tk=1/\(J3 s.ct x.nm).isSome=true
 |[],_,_,x,f=>by cases f
 |y::r,s,h,x,f=>by
  rw[LS.F6]at h;by_cases i:y.tk≠1
  ·rw[if_pos i]at h;simp at h
  ·rw[if_neg i]at h;by_cases g:(s.Vz y.nm).1≠0
   ·rw[if_pos g]at h;exact absurd h g
   ·rw[if_neg g]at h;rcases List.mem_cons.1 f with rfl|f
    ·exact⟨Decidable.not_not.1 i,Xr (Decidable.not_not.1 g)⟩
    ·obtain⟨j,l⟩:=Wi r h x f;exact⟨j,MI _ l⟩
theorem Zm(nm:ByteArray):∀(vs:List ByteArray) {s:LS} (m:ByteArray),(J3 (s.K8 nm vs).2.ct m).isSome=true->(J3 s.ct m).isSome=true\/m∈vs
 |[],s,m,h=>.inl h
 |v::r,s,m,h=>by
  rw[LS.K8]at h;split at h
  ·exact .inl h
  ·rcases Zm nm r m h with h|h
   ·unfold LS.inc at h;dsimp only at h;rw[Xj]at h;by_cases e:v=m
    ·exact .inr (by rw[e];simp)
    ·rw[if_neg e]at h;exact .inl h
   ·exact .inr (by simp[h])
theorem KX(nm:ByteArray):∀(vs:List ByteArray) (s:LS),(s.K8 nm vs).2.inn=s.inn/\(s.K8 nm vs).2.tk=s.tk
 |[],s=>⟨rfl,rfl⟩
 |v::r,s=>by
  rw[LS.K8];split
  ·exact⟨rfl,rfl⟩
  ·exact KX nm r (s.inc v)
theorem Ht{s:LS}{nm:ByteArray}{vs:List ByteArray}(m:ByteArray)(h:(J3 (s.Xq nm vs).2.ct m).isSome=true):(J3 s.ct m).isSome=true\/m∈vs:=by
 unfold LS.Xq at h;split at h
 ·exact Zm nm vs m h
 ·exact Zm nm vs m (MI m h)
theorem KY(s:LS)(nm:ByteArray)(vs:List ByteArray):(s.Xq nm vs).2.inn=s.inn/\(s.Xq nm vs).2.tk=s.tk:=by
 unfold LS.Xq;split
 ·exact KX nm vs s
 ·obtain⟨f,g⟩:=Ng (s.K8 nm vs).2 nm;obtain⟨i,j⟩:=KX nm vs s;exact⟨f.trans i,g.trans j⟩
theorem WJ(nm:ByteArray):∀(ws:List ByteArray) {s:LS},(∀m,(J3 (s.U1 nm ws).2.ct m).isSome=true->(J3 s.ct m).isSome=true\/m∈ws)/\(∀m,(J3 (s.U1 nm ws).2.inn m).isSome=true->(J3 s.inn m).isSome=true\/m∈ws)/\(s.U1 nm ws).2.tk=s.tk
 |[],s=>⟨λ_ h=>.inl h,λ_ h=>.inl h,rfl⟩
 |v::r,s=>by
  rw[LS.U1];split
  ·exact⟨λ_ h=>.inl h,λ_ h=>.inl h,rfl⟩
  ·obtain⟨f,g,i⟩:=WJ nm r (s:={ s with ct:=Jz s.ct v 0,inn:=Jz s.inn v nm });refine⟨λm h=>?_,λm h=>?_,i⟩
   ·rcases f m h with h|h
    ·dsimp only at h;rw[Xj]at h;by_cases e:v=m
     ·exact .inr (by rw[e];simp)
     ·rw[if_neg e]at h;exact .inl h
    ·exact .inr (by simp[h])
   ·rcases g m h with h|h
    ·dsimp only at h;rw[Xj]at h;by_cases e:v=m
     ·exact .inr (by rw[e];simp)
     ·rw[if_neg e]at h;exact .inl h
    ·exact .inr (by simp[h])
theorem RY.fst{s:LS}{mt:QZ}{env:J6}(h:RY s mt env)(t:Tm):RY (s.fst t) mt env:=by
 refine⟨λn f=>h.ct n ?_,h.inn,h.mt,λb g=>h.tk b ?_⟩
 ·unfold LS.fst at f;dsimp only at f;rw[Fv (λ_ k=>Mk k),Zq t.P5]at f;split at f
  ·rw[Option.isSome_map]at f;exact f
  ·cases f
 ·unfold LS.fst at g;dsimp only at g;rw[Zq t.Tz]at g;split at g
  ·exact g
  ·cases g
theorem RY.Nz{s:LS}{mt:QZ}{env:J6}(h:RY s mt env)(t:Tm)(a:ByteArray)(v:Qx):RY { s.Nz t with ct:=Jz (s.Nz t).ct a 1 } mt ((a,v)::env):=by
 refine⟨λn f=>?_,λn f=>Pq _ _ _ _ (h.inn n f),λp hp w i=>Pq _ _ _ _ (h.mt p hp w i),λb g=>Pq _ _ _ _ (h.tk b ?_)⟩
 ·dsimp only at f;rw[Xj]at f;by_cases e:a=n
  ·exact VT e v env
  ·rw[if_neg e]at f;unfold LS.Nz at f;dsimp only at f;rw[Fv (λk v=>if t.P5 k then v-Mk v else v),Option.isSome_map]at f;exact Pq _ _ _ _ (h.ct n f)
 ·unfold LS.Nz at g;dsimp only at g;rw[Zq (λb=>!t.Tz b)]at g;split at g
  ·exact g
  ·cases g
theorem RY.inc{s:LS}{mt:QZ}{env:J6}(h:RY s mt env){a:ByteArray}(g:M9 env a=true):RY (s.inc a) mt env:=by
 refine⟨λn f=>?_,h.inn,h.mt,h.tk⟩;unfold LS.inc at f;dsimp only at f;rw[Xj]at f;by_cases e:a=n
 ·subst e;exact g
 ·rw[if_neg e]at f;exact h.ct n f
theorem RY.Vz{s:LS}{mt:QZ}{env:J6}(h:RY s mt env)(a:ByteArray):RY (s.Vz a).2 mt env:=by
 obtain⟨f,g⟩:=Ng s a;exact⟨λn i=>h.ct n (MI n i),by rw[f];exact h.inn,h.mt,by rw[g];exact h.tk⟩
theorem RY.Xq{s:LS}{mt:QZ}{env:J6}(h:RY s mt env){a:ByteArray}{vs:List ByteArray}(g:(a,vs)∈mt):RY (s.Xq a vs).2 mt env:=by
 obtain⟨i,j⟩:=KY s a vs;refine⟨λn f=>?_,by rw[i];exact h.inn,h.mt,by rw[j];exact h.tk⟩;rcases Ht n f with f|f
 ·exact h.ct n f
 ·exact h.mt _ g n f
theorem RY.U1{s:LS}{mt:QZ}{env:J6}(h:RY s mt env)(nm:ByteArray)(ws:List ByteArray){l:List Qx}(g:ws.length=l.length):RY (s.U1 nm ws).2 ((nm,ws)::mt) (Yx ws l env):=by
 obtain⟨o,r,t⟩:=WJ nm ws (s:=s);refine⟨λn f=>?_,λn f=>?_,λp hp v i=>?_,λb j=>?_⟩
 ·rcases o n f with f|f
  ·exact Ja _ (h.ct n f)
  ·exact YM g _ f
 ·rcases r n f with f|f
  ·exact Ja _ (h.inn n f)
  ·exact YM g _ f
 ·rcases List.mem_cons.1 hp with rfl|hp
  ·exact YM g _ i
  ·exact Ja _ (h.mt p hp v i)
 ·rw[t]at j;exact Ja _ (h.tk b j)
theorem RY.tok{s:LS}{mt:QZ}{env:J6}(h:RY s mt env)(b:ByteArray)(m:Int)(v:Qx):RY { s with tk:=Jz s.tk b m } mt ((excl b,v)::env):=by
 refine⟨λn g=>Pq _ _ _ _ (h.ct n g),λn g=>Pq _ _ _ _ (h.inn n g),λp hp w i=>Pq _ _ _ _ (h.mt p hp w i),λd f=>?_⟩;dsimp only at f;rw[Xj]at f;by_cases e:b=d
 ·subst e;exact VT rfl v env
 ·rw[if_neg e]at f;exact Pq _ _ _ _ (h.tk d f)
theorem RY.del{s:LS}{mt:QZ}{env:J6}(h:RY s mt env)(b:ByteArray):RY { s with tk:=Pk s.tk b } mt env:=by
 refine⟨h.ct,h.inn,h.mt,λd f=>?_⟩;dsimp only at f;rw[Zy]at f;split at f
 ·cases f
 ·exact h.tk d f
section
variable {A:X6} {k n:Int} {a b:ByteArray} {vs:List ByteArray} {xs:List Tm} {cs:List Cs} {s:LS} {mt:QZ} {env:J6}
theorem Gx{k:Int}(h:1<=k/\k<=7)(n:Int)(a b:ByteArray)(vs:List ByteArray)(xs:List Tm)(cs:List Cs):(Tm.mk k n a b vs xs cs).er= .mk k n a b vs (Tm.D9 xs) (Cs.D9 cs):=by
 rw[Tm.er,YZ h.2,if_neg (by simp),if_neg oM,if_neg oM]
theorem Qh7(n:Int)(a b:ByteArray)(vs:List ByteArray)(xs:List Tm)(cs:List Cs):(Tm.mk 12 n a b vs xs cs).er= .mk 3 n a ⟨#[]⟩ vs (Tm.D9 xs) (Cs.D9 cs):=by
 rw[Tm.er,if_neg (by unfold Oa;simp),if_pos rfl,if_pos rfl]
theorem Ox:∀l:List Tm,Tm.D9 l=l.map Tm.er
 |[]=>rfl
 |x::r=>by rw[Tm.D9,Ox r];rfl
theorem UM:∀l:List Cs,Cs.D9 l=l.map Cs.er
 |[]=>rfl
 |x::r=>by rw[Cs.D9,UM r];rfl
theorem RI.var(h:RI A (.mk 1 n a b vs xs cs) s mt env):M9 env a=true:=by
 have f:=h.Y0;rw[Tm.Y0,if_pos rfl]at f;exact h.cov.ct a (Xr (LS.R4 f).1)
theorem RI.args(h:RI A (.mk k n a b vs xs cs) s mt env)(g:k=3\/k=4\/k=5):∀x∈xs,x.tk=1/\M9 env x.nm=true:=by
 have f:=h.Y0;rw[Tm.Y0,if_neg oM,if_neg oM,if_pos g]at f;exact λx i=>by
  obtain⟨j,l⟩:=Wi xs (LS.R4 f).1 x i;exact⟨j,h.cov.ct _ l⟩
theorem RI.use(h:RI A (.mk 12 n a b vs xs cs) s mt env):(∀x∈xs,x.tk=1/\M9 env x.nm=true)/\M9 env (excl b)=true:=by
 have f:=h.Y0;rw[Tm.Y0,if_neg oM,if_neg oM,if_neg oM,if_pos rfl]at f;split at f
 ·cases f
 ·rename_i g;refine⟨λx i=>?_,h.cov.tk b ?_⟩
  ·obtain⟨j,l⟩:=Wi xs (LS.R4 f).1 x i;exact⟨j,h.cov.ct _ l⟩
  ·rw[Decidable.not_not.1 g];rfl
theorem RI.KD(h:RI A (.mk k n a b vs xs cs) s mt env)(l:k=3\/k=12):xs.length<=6/\0<=n/\n<=9:=by
 obtain⟨names,g,f⟩:=h.wr;have key:∀j,(Tm.mk 3 n a j vs (Tm.D9 xs) (Cs.D9 cs)).wrong A names g=0->xs.length<=6/\0<=n/\n<=9:=λj f=>by
  obtain⟨-,-,-,o,i,-,-⟩:=K3 f;have r:=Ye o λh=>oM
  rw[Ox,List.length_map]at r;unfold Y2 at i;rw[if_neg oM,if_neg oM,if_pos rfl]at i;split at i
  ·cases i
  ·exact⟨oM,oM,oM⟩
 rcases l with rfl|rfl
 ·rw[Gx oM]at f;exact key _ f
 ·rw[Qh7]at f;exact key _ f
theorem RI.Jk7(h:RI A (.mk 4 n a b vs xs cs) s mt env):xs.length<=6:=by
 obtain⟨names,f,g⟩:=h.wr;rw[Gx oM]at g;obtain⟨-,-,-,i,-⟩:=K3 g;have j:=Ye i λh=>oM
 rw[Ox,List.length_map]at j;omega
theorem RI.prim(h:RI A (.mk 5 n a b vs xs cs) s mt env):(∃x y,xs=[x,y])/\1<=n/\n<=5:=by
 obtain⟨names,j,l⟩:=h.wr;rw[Gx oM]at l;obtain⟨-,-,-,g,f,-⟩:=K3 l;refine⟨?_,?_⟩
 ·have i:xs.length=2:=by
   unfold Xx at g;simp[Ox]at g;exact g.1
  match xs,i with
  |[y,z],_=>exact⟨y,z,rfl⟩
 ·unfold Y2 at f;rw[if_neg oM,if_neg oM,if_neg oM,if_pos rfl]at f;split at f
  ·cases f
  ·omega
theorem RI.let(h:RI A (.mk 6 n a b vs xs cs) s mt env):∃x y,xs=[x,y]/\RI A x (s.fst x) mt env/\∀v,RI A y { s.Nz x with ct:=Jz (s.Nz x).ct a 1 } mt ((a,v)::env):=by
 obtain⟨names,o,r⟩:=h.wr;rw[Gx oM]at r;obtain⟨-,-,-,g,-,t,-⟩:=K3 r;have i:xs.length=2:=by
  unfold Xx at g;simp[Ox]at g;exact g.1
 obtain⟨x,y,rfl⟩:∃x y,xs=[x,y]:=by
  match xs,i with
  |[y,z],_=>exact⟨y,z,rfl⟩
 have f:=h.Y0;rw[Tm.Y0,if_neg oM,if_neg oM,if_neg oM,if_neg oM,if_pos rfl,if_neg (by simp)]at f;split at f
 ·cases f
 rw[Tm.A9]at f;split at f
 ·rename_i j;exact absurd f j
 rename_i j;rw[Tm.A9]at f;split at f
 ·rename_i l;exact absurd f l
 rename_i l;refine⟨x,y,rfl,⟨Decidable.not_not.1 j,h.tk.2.1.1,⟨_,_,G6 t 0 x.er (by rw[Ox];rfl)⟩,h.cov.fst x⟩,λv=>⟨Decidable.not_not.1 l,h.tk.2.1.2.1,⟨_,_,G6 t 1 y.er (by rw[Ox];rfl)⟩,h.cov.Nz x a v⟩⟩
theorem El{s:LS}{nm:ByteArray}:∀{l:List Cs},Cs.A9 l s nm=0->∀c∈l,c.Y0 s nm=0
 |[],_,c,f=>by cases f
 |d::r,h,c,f=>by
  rw[Cs.A9]at h;split at h
  ·rename_i g;exact absurd h g
  ·rename_i g;rcases List.mem_cons.1 f with rfl|f
   ·exact Decidable.not_not.1 g
   ·exact El h c f
theorem RI.match(h:RI A (.mk 7 n a b vs xs cs) s mt env):∃x,xs=[x]/\x.tk=1/\M9 env x.nm=true/\cs.length<=5/\
  ∀t ws y,Cs.mk t ws y∈cs->ws.length<=6/\∀l:List Qx,ws.length=l.length->RI A y (s.U1 x.nm ws).2 ((x.nm,ws)::mt) (Yx ws l env):=by
 obtain⟨names,J,P⟩:=h.wr;rw[Gx oM]at P;obtain⟨-,-,-,h4,-,-,U⟩:=K3 P;obtain⟨-,T,h9⟩:=U rfl;have g:=h.Y0;rw[Tm.Y0,if_neg oM,if_neg oM,if_neg oM,if_neg oM,if_neg oM,if_pos rfl]at g;split at g
 ·cases g
 rename_i i;split at g
 ·cases g
 rename_i h2;obtain⟨x,rfl⟩:∃x,xs=[x]:=by
  match xs,i with
  |[],i=>exact absurd (.inl (by decide)) i
  |[x],_=>exact⟨x,rfl⟩
  |x::y::r,i=>exact absurd (.inl (by simp)) i
 have j:x.tk=1:=Decidable.not_not.1 λe=>i (.inr e)
 have hc:(J3 s.ct x.nm).isSome=true:=Yg (by show s.c (QK [x]).nm≠0;omega);refine⟨x,rfl,j,h.cov.ct _ hc,by rw[UM,List.length_map]at T;exact T,λt ws y o=>?_⟩;have C:Cs.mk t ws y.er∈Cs.D9 cs:=by
  rw[UM];exact List.mem_map.2 ⟨_,o,by rw[Cs.er]⟩
 obtain⟨-,-,-,-,q5,q6⟩:=Nq h9 C;refine⟨q5,λl I=>?_⟩;have f:=El g _ o;rw[Cs.Y0]at f;split at f
 ·rename_i h3;exact absurd f h3
 ·exact⟨f,Qi.1 (h.tk.2.2 rfl) _ o,⟨_,_,q6⟩,h.cov.U1 x.nm ws I⟩
def F8(k:Int)(a b:ByteArray)(vs:List ByteArray)(s:LS):LS:=
 if k=8 then s.inc a else if k=9 then (s.Vz a).2 else if k=13 then { s with tk:=Pk s.tk b }
 else if k=11 then { (s.Xq a vs).2 with tk:=Jz (s.Xq a vs).2.tk b (vs.length:Int) }else (s.Xq a vs).2
theorem XH{x:Tm}{s:LS}(h:Tm.A9 [x] [s]=0):x.Y0 s=0:=by
 rw[Tm.A9]at h;split at h
 ·rename_i f;exact absurd h f
 ·rename_i f;exact Decidable.not_not.1 f
theorem RI.step(h:RI A (.mk k n a b vs xs cs) s mt env)(T:k=8\/k=9\/k=10\/k=11\/k=13):∃x,xs=[x]/\(k≠13->M9 env a=true)/\(k=13->M9 env (excl b)=true)/\
  ∀v,RI A x (F8 k a b vs s) mt (if k=11 then (excl b,v)::env else env):=by
 have f:=h.Y0;rw[Tm.Y0,if_neg oM,if_neg oM,if_neg oM,if_neg oM,if_neg oM,if_neg oM,if_pos T]at f;split at f
 ·cases f
 rename_i I;obtain⟨x,rfl⟩:∃x,xs=[x]:=by
  match xs,I with
  |[],I=>exact absurd (by decide) I
  |[x],_=>exact⟨x,rfl⟩
  |x::y::r,I=>exact absurd (by simp) I
 have o:∃names g,x.er.wrong A names g=0:=by
  obtain⟨names,g,o⟩:=h.wr;rw[QL T]at o;exact⟨names,g,o⟩
 have J:x.Tk mt:=h.tk.2.1.1;refine⟨x,rfl,?_⟩;rcases T with rfl|rfl|rfl|rfl|rfl
 ·rw[if_pos rfl]at f;split at f
  ·rename_i t;have C:M9 env a=true:=by
    unfold LS.there at t;rw[Bool.or_eq_true]at t;rcases t with t|t
    ·exact h.cov.ct a (Yg (by have:=of_decide_eq_true t;omega))
    ·refine h.cov.inn a ?_;cases hi:J3 s.inn a with
     |none=>rw[hi]at t;cases t
     |some u=>rfl
   exact⟨λ_=>C,oM,λv=>by rw[if_neg oM];exact⟨by unfold F8;rw[if_pos rfl];exact XH f,J,o,by unfold F8;rw[if_pos rfl];exact h.cov.inc C⟩⟩
  ·cases f
 ·rw[if_neg oM,if_pos rfl]at f;split at f
  ·rename_i i;exact absurd f i
  rename_i i;have C:=h.cov.ct a (Xr (Decidable.not_not.1 i));exact⟨λ_=>C,oM,λv=>by rw[if_neg oM];exact⟨by unfold F8;rw[if_neg oM,if_pos rfl];exact XH f,J,o,by unfold F8;rw[if_neg oM,if_pos rfl];exact h.cov.Vz a⟩⟩
 ·rw[if_neg oM,if_neg oM,if_neg oM]at f;split at f
  ·rename_i i;exact absurd f i
  rename_i i;rw[if_neg oM]at f;have P:=(h.tk.1 (.inl rfl)).1;have C:M9 env a=true:=by
   have l:=Decidable.not_not.1 i;unfold LS.Xq at l;split at l
   ·rename_i j;exact absurd l j
   ·rcases Zm a vs a (Xr l)with j|j
    ·exact h.cov.ct a j
    ·exact h.cov.mt _ P a j
  exact⟨λ_=>C,oM,λv=>by rw[if_neg oM];exact⟨by unfold F8;rw[if_neg oM,if_neg oM,if_neg oM,if_neg oM];exact XH f,J,o,by unfold F8;rw[if_neg oM,if_neg oM,if_neg oM,if_neg oM];exact h.cov.Xq P⟩⟩
 ·rw[if_neg oM,if_neg oM,if_neg oM]at f;split at f
  ·rename_i i;exact absurd f i
  rename_i i;rw[if_pos rfl]at f;split at f
  ·cases f
  have P:=(h.tk.1 (.inr rfl)).1;have C:M9 env a=true:=by
   have l:=Decidable.not_not.1 i;unfold LS.Xq at l;split at l
   ·rename_i j;exact absurd l j
   ·rcases Zm a vs a (Xr l)with j|j
    ·exact h.cov.ct a j
    ·exact h.cov.mt _ P a j
  exact⟨λ_=>C,oM,λv=>by rw[if_pos rfl];exact⟨by unfold F8;rw[if_neg oM,if_neg oM,if_neg oM,if_pos rfl];exact XH f,J,o,by unfold F8;rw[if_neg oM,if_neg oM,if_neg oM,if_pos rfl];exact(h.cov.Xq P).tok b _ v⟩⟩
 ·rw[if_neg oM,if_neg oM,if_pos rfl]at f;split at f
  ·rename_i U;exact⟨oM,λ_=>h.cov.tk b U,λv=>by rw[if_neg oM];exact⟨by unfold F8;rw[if_neg oM,if_neg oM,if_pos rfl];exact XH f,J,o,by unfold F8;rw[if_neg oM,if_neg oM,if_pos rfl];exact h.cov.del b⟩⟩
  ·cases f
theorem RI.kind(h:RI A (.mk k n a b vs xs cs) s mt env):1<=k/\k<=13:=by
 have f:=h.Y0;rw[Tm.Y0]at f;by_cases g:1<=k/\k<=13
 ·exact g
 ·rw[if_neg oM,if_neg oM,if_neg oM,if_neg oM,if_neg oM,if_neg oM,if_neg oM]at f;cases f
end
structure FI (A:X6) (f:Fn):Prop where
 ok:f.body.Ok
 par:f.params.length<=6
 wg:f.body.wg<=10000000
 ri:∀vs:List Qx,f.params.length=vs.length->RI A f.body (Vf f) [] (Yx f.params vs [])
abbrev Room(X f:Int)(w:Nat)(h:Hp):Prop:=HI (X-60000000 * f-6 * (w:Int)) h
def Xq8(C:C9):Prop:=∀(X:Int) name vs h f,0<=f->1<=X-60000000 * f->Room X f 0 h->Room X (C name vs h f).2.2.1 0 (C name vs h f).2.1/\0<=(C name vs h f).2.2.1/\(C name vs h f).2.2.1<=f
theorem Room.less{X f:Int}{w w':Nat}{h:Hp}(H:Room X f w h)(g:w'<=w):Room X f w' h:=HI.mono H oM
theorem Nl{X f:Int}{h:Hp}{r:Hp×Qx×Int}(H:Room X f 0 h)(g:Room X f 0 r.1):Room X (WE h f r).2.2.1 0 (WE h f r).2.1/\(WE h f r).2.2.1=f:=by
 unfold WE;split
 ·exact⟨g,rfl⟩
 ·exact⟨H,rfl⟩
theorem QY(env:J6)(xs:List Tm):(Fq env xs).length=xs.length:=by simp[Fq]
theorem Sn{A:X6}{C:C9}(hC:Xq8 C):∀(N:Nat) (t:Tm) (X:Int) (s:LS) (mt:QZ) (env:J6) (h:Hp) (f:Int),t.sz<N->RI A t s mt env->0<=f->1<=X-60000000 * f-6 * (t.wg:Int)->Room X f t.wg h->
  Room X (Tj C t env h f).2.2.1 0 (Tj C t env h f).2.1/\0<=(Tj C t env h f).2.2.1/\(Tj C t env h f).2.2.1<=f:=by
 intro N;induction N with
 |zero=>intro t _ _ _ _ _ _ h;omega
 |succ N U=>
  intro t X s mt env h f hN I g hX H;obtain⟨k,n,a,b,vs,xs,cs⟩:=t;have i:Room X f 0 h:=H.less (Nat.zero_le _);obtain⟨k1,k2⟩:=I.kind;rw[Tm.wg]at H hX;rw[Tm.sz]at hN;rw[Tj];by_cases e1:k=1
  ·rw[if_pos e1];exact⟨i,g,Int.le_refl _⟩
  rw[if_neg e1];by_cases e2:k=2
  ·rw[if_pos e2];exact⟨i,g,Int.le_refl _⟩
  rw[if_neg e2];by_cases e3:k=3
  ·rw[if_pos e3];split
   ·exact⟨i,g,Int.le_refl _⟩
   ·obtain⟨q1,q2,q3⟩:=I.KD (.inl e3);have J:Room X f 0 (h.make n (Fq env xs)).1:=(HI.make H oM ⟨oM,oM⟩ (by rw[QY];exact q1)).mono oM;obtain⟨r1,P⟩:=Nl i J;exact⟨r1,by rw[P];exact g,by rw[P];exact Int.le_refl _⟩
  rw[if_neg e3];by_cases j:k=12
  ·rw[if_pos j];split
   ·exact⟨i,g,Int.le_refl _⟩
   ·obtain⟨q1,q2,q3⟩:=I.KD (.inr j);have J:Room X f 0 (h.use (Qj env (excl b)) n (Fq env xs)).1:=(HI.use H oM _ ⟨oM,oM⟩ (by rw[QY];exact q1)).mono oM;obtain⟨r1,P⟩:=Nl i J;exact⟨r1,by rw[P];exact g,by rw[P];exact Int.le_refl _⟩
  rw[if_neg j];by_cases e4:k=4
  ·rw[if_pos e4];exact hC X _ _ _ _ g oM i
  rw[if_neg e4];by_cases e5:k=5
  ·rw[if_pos e5];unfold VZ;split
   ·exact⟨i,g,Int.le_refl _⟩
   ·split<;> exact⟨i,g,Int.le_refl _⟩
  rw[if_neg e5];by_cases e6:k=6
  ·rw[if_pos e6];subst e6;obtain⟨x,y,rfl,hx,hy⟩:=I.let
   simp only[Tm.Xv]at hN;simp only[Tm.M0]at H hX;rw[Nr];obtain⟨g1,g2,g3⟩:=U x (X-6 * (y.wg:Int)) _ mt env h f oM hx g oM (HI.mono H oM);split
   ·dsimp only;exact⟨HI.mono g1 oM,g2,g3⟩
   ·rw[WG];obtain⟨m1,m2,m3⟩:=U y X _ mt _ _ _ oM (hy (Tj C x env h f).1) g2 oM (HI.mono g1 oM);exact⟨m1,m2,oM⟩
  rw[if_neg e6];by_cases e7:k=7
  ·rw[if_pos e7];subst e7;obtain⟨x,rfl,-,-,-,a1⟩:=I.match
   split
   ·exact⟨i,g,Int.le_refl _⟩
   split
   ·exact⟨i,g,Int.le_refl _⟩
   generalize(Cv h (Qj env (QK [x]).nm)).1=tag;generalize(Cv h (Qj env (QK [x]).nm)).2.1=l;have key:∀o:List Cs,(∀d∈o,d∈cs)->Room X (Rs C tag l o env h f).2.2.1 0 (Rs C tag l o env h f).2.1/\0<=(Rs C tag l o env h f).2.2.1/\(Rs C tag l o env h f).2.2.1<=f:=by
    intro o;induction o with
    |nil=>intro _;rw[Rs];exact⟨i,g,Int.le_refl _⟩
    |cons d r a2=>
     intro J;obtain⟨t,ws,y⟩:=d;have T:=J _ (List.mem_cons_self ..);rw[Rs];split
     ·split
      ·rename_i hl;rw[rnB];have hs:(Cs.mk t ws y).sz<=Cs.Xv cs:=Cs.Z4 T;rw[Cs.sz]at hs;have hg:(Cs.mk t ws y).wg<=Cs.M0 cs:=Cs.RZ T;rw[Cs.wg]at hg;exact U y X _ _ _ h f oM ((a1 t ws y T).2 l hl) g oM (HI.mono H oM)
      ·exact⟨i,g,Int.le_refl _⟩
     ·exact a2 λd T=>J d (List.mem_cons_of_mem _ T)
   exact key cs λ_ h=>h
  rw[if_neg e7];obtain⟨x,rfl,-,-,hx⟩:=I.step oM;simp only[Tm.Xv]at hN;simp only[Tm.M0]at H hX;split
  ·exact⟨i,g,Int.le_refl _⟩
  ·rw[WG];have hs:=HI.Nj (H.mono (Int.le_refl _)) oM k (Qj env a) (Qj env (excl b));exact U x X _ mt _ _ f oM (hx _) g oM (HI.mono hs oM)
theorem EF{l:List Fn}{s:ByteArray}{x:Fn}(h:DT l s=some x):x∈l/\x.name=s:=by
 induction l with
 |nil=>cases h
 |cons y r f=>
  rw[DT]at h;by_cases e:y.name=s
  ·rw[if_pos e]at h;cases h;exact⟨List.mem_cons_self ..,e⟩
  ·rw[if_neg e]at h;obtain⟨g,i⟩:=f h;exact⟨List.mem_cons_of_mem _ g,i⟩
theorem Rp{A:X6}{l:List Fn}(j:∀x∈l,FI A x):∀n,Xq8 (J4 l n):=by
 intro n;induction n with
 |zero=>
  intro X name vs h f g o H;rw[J4];split
  ·exact⟨H,g,Int.le_refl _⟩
  ·split
   ·exact⟨H,g,Int.le_refl _⟩
   ·split<;> exact⟨H,g,Int.le_refl _⟩
 |succ n r=>
  intro X name vs h f g o H;rw[J4];split
  ·exact⟨H,g,Int.le_refl _⟩
  ·rename_i x t;obtain⟨C,-⟩:=EF t;have i:=j x C;split
   ·exact⟨H,g,Int.le_refl _⟩
   ·rename_i hp;split
    ·exact⟨H,g,Int.le_refl _⟩
    ·rename_i J;have P:=i.wg;obtain⟨m1,I,T⟩:=Sn r _ x.body X _ _ _ h (f-1) (Nat.lt_succ_self _) (i.ri vs (Decidable.not_not.1 hp)) oM oM (HI.mono H oM);exact⟨m1,I,oM⟩
end
section
open Classical Go.RowKit
inductive SV (h:Hp):Qx->Vl->Prop where
 |int {s:Qx} (hk:s.kind=0):SV h s (.mk false s.n [])
 |KD {s:Qx} (hk:s.kind=1):SV h s (.mk true s.n [])
 |cell {s:Qx} {c:Qk} {ks:List Vl} (hk:s.kind=2) (hc:h.cells[s.n.toNat]? =some c) (hl:c.slots.length=ks.length)
   (hs:∀(i:Nat) (x:Qx) (v:Vl),c.slots[i]? =some x->ks[i]? =some v->SV h x v):SV h s (.mk true c.tag ks)
theorem SV.keep{h h':Hp}{P:List Qx}{s:Qx}{v:Vl}(V:SV h s v)(K:UV P h h'):(s.kind=2->Zh5 h P s.n.toNat)->SV h' s v:=by
 induction V with
 |int f=>exact λ_=>.int f
 |KD f=>exact λ_=>.KD f
 |cell f l t U C=>
  intro hr;have hr:=hr f;obtain⟨c,c',o,I,J,g⟩:=K _ hr;rw[l]at o;cases o;rw[<-J];exact .cell f I (by rw[g];exact t) λi x v r T=>C i x v (by rw[<-g];exact r) T λj=>.slot hr l (by rw[<-g];exact List.mem_of_getElem? r) j
theorem SV.Jj5{h h':Hp}{P:List Qx}{s:Qx}{v:Vl}(V:SV h s v)(K:UV P h h')(f:s∈P):SV h' s v:=V.keep K λg=>.root f g
theorem SV.kind{h:Hp}{s:Qx}{v:Vl}(V:SV h s v):(v.KD=false<->s.kind=0)/\(s.kind=0\/s.kind=1\/s.kind=2):=by
 cases V with
 |int f=>exact⟨⟨λ_=>f,λ_=>rfl⟩,.inl f⟩
 |KD f=>exact⟨⟨λh=>(by cases h),λh=>oM⟩,.inr (.inl f)⟩
 |cell f g i j=>exact⟨⟨λh=>(by cases h),λh=>oM⟩,.inr (.inr f)⟩
def Yz(l:List (ByteArray×Int))(ρ:J6):List Qx:=l.flatMap λp=>List.replicate p.2.toNat (Qj ρ p.1)
def R6(l:List (ByteArray×Int))(ρ:J6):List Qx:=l.map λp=>Qj ρ (excl p.1)
theorem Pz(p:ByteArray×Int)(r:List (ByteArray×Int))(ρ:J6):Yz (p::r) ρ=List.replicate p.2.toNat (Qj ρ p.1)++Yz r ρ:=rfl
theorem XQ(n:Nat)(s:Qx)(i:Nat):J5 (List.replicate n s) i=n * J5 [s] i:=by
 induction n with
 |zero=>simp[Kv]
 |succ n f=>rw[List.replicate_succ,Z9,f,Nat.add_mul];omega
theorem Sd{l:List (ByteArray×Int)}{ρ:J6}{x:Qx}:x∈Yz l ρ<->∃p∈l,1<=p.2/\x=Qj ρ p.1:=by
 unfold Yz;rw[List.mem_flatMap];constructor
 ·rintro⟨p,f,g⟩;obtain⟨i,j⟩:=List.mem_replicate.1 g;exact⟨p,f,oM,j⟩
 ·rintro⟨p,f,g,i⟩;exact⟨p,f,List.mem_replicate.2 ⟨oM,i⟩⟩
theorem LS.Sj{s:LS}(i:s.Ok){ρ:J6}{x:Qx}:x∈Yz s.ct ρ<->∃n,1<=s.c n/\x=Qj ρ n:=by
 rw[Sd];constructor
 ·rintro⟨⟨n,k⟩,f,g,j⟩;refine⟨n,?_,j⟩;unfold LS.c;rw[Vb i.kc f];exact g
 ·rintro⟨n,f,g⟩;unfold LS.c at f;cases hk:J3 s.ct n with
  |none=>rw[hk]at f;simp at f
  |some k=>
   rw[hk]at f;exact⟨(n,k),WO hk,f,g⟩
theorem VV(n:ByteArray)(ρ:J6)(i:Nat):∀{l:List (ByteArray×Int)},KN l->J5 (Yz l ρ) i=J5 (Yz (l.filter λp=>decide (p.1≠n)) ρ) i+((J3 l n).getD 0).toNat * J5 [Qj ρ n] i
 |[],_=>by simp[Yz,J3,Kv]
 |(k,v)::r,g=>by
  have f:k ∉ r.map (·.1)/\KN r:=by unfold KN at g;rw[List.map_cons,List.nodup_cons]at g;exact g
  rw[Pz,Qw,XQ,J3];have j:=VV n ρ i f.2;by_cases e:k=n
  ·subst e;rw[List.filter_cons_of_neg (by simp),if_pos rfl];have o:J3 r k=none:=by
    cases hk:J3 r k with
    |none=>rfl
    |some u=>exact absurd (List.mem_map.2 ⟨_,WO hk,rfl⟩) f.1
   rw[o]at j;simp only[Option.getD_none,Int.toNat_zero,Nat.zero_mul,Option.getD_some]at j⊢;omega
  ·rw[List.filter_cons_of_pos (by simpa using e),if_neg e,Pz,Qw,XQ];dsimp only;omega
theorem Qx2(n:ByteArray)(v:Int)(ρ:J6)(i:Nat){l:List (ByteArray×Int)}(f:KN l):J5 (Yz (Jz l n v) ρ) i+((J3 l n).getD 0).toNat * J5 [Qj ρ n] i=J5 (Yz l ρ) i+v.toNat * J5 [Qj ρ n] i:=by
 unfold Jz;rw[Pz,Qw,XQ,VV n ρ i f];dsimp only;omega
theorem Sg{l:List (ByteArray×Int)}{ρ f:J6}(h:∀p∈l,1<=p.2->Qj f p.1=Qj ρ p.1):Yz l f=Yz l ρ:=by
 induction l with
 |nil=>rfl
 |cons p r g=>
  rw[Pz,Pz,g λq i=>h q (List.mem_cons_of_mem _ i)];by_cases j:1<=p.2
  ·rw[h p (List.mem_cons_self ..) j]
  ·rw[show p.2.toNat=0 by omega,List.replicate_zero,List.replicate_zero]
theorem GA{l:List (ByteArray×Int)}{ρ f:J6}(h:∀p∈l,Qj f (excl p.1)=Qj ρ (excl p.1)):R6 l f=R6 l ρ:=List.map_congr_left h
inductive Gd (s:LS):ByteArray->Prop where
 |has {n:ByteArray} (h:1<=s.c n):Gd s n
 |lies {n up:ByteArray} (h:J3 s.inn n=some up) (hu:Gd s up):Gd s n
theorem Gd.mono{s s':LS}(f:∀n,1<=s'.c n->Gd s n)(g:s'.inn=s.inn){n:ByteArray}(h:Gd s' n):Gd s n:=by
 induction h with
 |has h=>exact f _ h
 |lies h j i=>exact .lies (by rw[<-g];exact h) i
structure Ev (s:LS) (mt:QZ) (ρ:J6) (σ:Env) (h:Hp):Prop where
 val:∀n,Gd s n->SV h (Qj ρ n) (Y8 σ n)
 lies:∀n up,J3 s.inn n=some up->∃ws,(up,ws)∈mt/\n∈ws
 opn:∀p∈mt,Gd s p.1->p.2≠[]->(Qj ρ p.1).kind=2/\∃c,h.cells[(Qj ρ p.1).n.toNat]? =some c/\c.slots=p.2.map (Qj ρ)
theorem Ev.rch{s s':LS}{mt:QZ}{ρ:J6}{σ:Env}{h:Hp}(E:Ev s mt ρ σ h)(f:s'.Ok)(o:∀n,1<=s'.c n->Gd s n)(l:s'.inn=s.inn){n:ByteArray}(r:Gd s' n):(Qj ρ n).kind=2->Zh5 h (Yz s'.ct ρ) (Qj ρ n).n.toNat:=by
 induction r with
 |has g=>exact λi=>.root ((LS.Sj f).2 ⟨_,g,rfl⟩) i
 |lies g t C=>
  intro i;obtain⟨ws,I,j⟩:=E.lies _ _ (by rw[<-l];exact g);obtain⟨J,c,P,T⟩:=E.opn _ I (t.mono o l) (λe=>by have e:ws=[]:=e;rw[e]at j;cases j);exact .slot (C J) P (by rw[T];exact List.mem_map.2 ⟨_,j,rfl⟩) i
theorem Ev.keep{s s':LS}{mt:QZ}{ρ:J6}{σ:Env}{h h':Hp}(E:Ev s mt ρ σ h)(f:s'.Ok)(j:∀n,1<=s'.c n->Gd s n)(g:s'.inn=s.inn)(K:UV (Yz s'.ct ρ) h h'):Ev s' mt ρ σ h':=by
 refine⟨λn i=>(E.val n (i.mono j g)).keep K (E.rch f j g i),λn up t=>E.lies n up (by rw[<-g];exact t),λp hp i l=>?_⟩;obtain⟨o,c,C,I⟩:=E.opn p hp (i.mono j g) l;obtain⟨d,J,r,P,-,T⟩:=K _ (E.rch f j g i o);rw[C]at r;cases r;exact⟨o,J,P,T.trans I⟩
theorem Ev.in{s:LS}{mt:QZ}{ρ:J6}{σ:Env}{h:Hp}(E:Ev s mt ρ σ h)(i:s.Ok){n:ByteArray}(j:Gd s n):Qj ρ n∈Yz s.ct ρ\/Qj ρ n∈Tx h.cells:=by
 cases j with
 |has f=>exact .inl ((LS.Sj i).2 ⟨_,f,rfl⟩)
 |lies f l=>
  obtain⟨ws,o,g⟩:=E.lies _ _ f;obtain⟨C,c,r,t⟩:=E.opn _ o l (λe=>by have e:ws=[]:=e;rw[e]at g;cases g);exact .inr (Gw.2 ⟨c,List.mem_of_getElem? r,by rw[t];exact List.mem_map.2 ⟨_,g,rfl⟩⟩)
theorem Kp.Zw4{h h':Hp}{R T I T' P:List Qx}(K:Kp h h')(H:RK h R T)(H':RK h' I T')(hP:∀s∈P,s∈R\/s∈Tx h.cells)(J:∀s∈P,s∈I\/s∈Tx h'.cells):UV P h h':=λi hr=>by
 have one:∀(i:Nat) (s:Qx),s∈I\/s∈Tx h'.cells->s.kind=2->s.n.toNat=i->∀c:Qk,h.cells[i]? =some c->1<=c.count->∃l:Qk,h'.cells[i]? =some l/\l.tag=c.tag/\l.slots=c.slots:=λi s g j hi c t o=>by
  obtain⟨a,x,b,q1,q2,q3,q4,q5⟩:=H'.has g j;obtain⟨l,r,f⟩:=K i c t o;have:a.length=i:=oM;rw[this,r]at q5;cases q5;rcases f with f|f|f
  ·omega
  ·omega
  ·exact⟨_,r,f.2.1,f.2.2⟩
 have cell:∀s:Qx,s∈R\/s∈Tx h.cells->s.kind=2->∃c:Qk,h.cells[s.n.toNat]? =some c/\1<=c.count:=λs g j=>by
  obtain⟨a,x,b,o,C,h3,h4,h5⟩:=H.has g j;exact⟨x,by rw[show s.n.toNat=a.length by omega];exact h5,h4⟩
 induction hr with
 |root g j=>
  obtain⟨c,o,C⟩:=cell _ (hP _ g) j;obtain⟨l,r,f,U⟩:=one _ _ (J _ g) j rfl c o C;exact⟨c,l,o,r,f,U⟩
 |slot hr t g j ih=>
  obtain⟨c,o,C⟩:=cell _ (.inr (Gw.2 ⟨_,List.mem_of_getElem? t,g⟩)) j;obtain⟨d,d',f1,f2,f3,f4⟩:=ih;rw[t]at f1;cases f1;obtain⟨l,r,f,U⟩:=one _ _ (.inr (Gw.2 ⟨d',List.mem_of_getElem? f2,by rw[f4];exact g⟩)) j rfl c o C;exact⟨c,l,o,r,f,U⟩
structure Dm (s:LS) (mt:QZ) (dm:List ByteArray):Prop where
 ct:∀n,(J3 s.ct n).isSome=true->n∈dm
 inn:∀n,(J3 s.inn n).isSome=true->n∈dm
 ms:∀p∈mt,p.1∈dm/\∀v∈p.2,v∈dm
 nd:∀p∈mt,p.1 ∉ p.2/\p.2.Nodup
 nx:∀n∈dm,RX n
 tk:∀b m,J3 s.tk b=some m->1<=m
 li:∀p∈mt,∀v∈p.2,J3 s.inn v=some p.1
theorem Gd.dm{s:LS}{mt:QZ}{dm:List ByteArray}(D:Dm s mt dm){n:ByteArray}(h:Gd s n):n∈dm:=by
 cases h with
 |has h=>exact D.ct n (Yg oM)
 |lies h f=>exact D.inn n (by rw[h];rfl)
theorem Qz9{b:ByteArray}{v:Qx}{ρ:J6}{n:ByteArray}(h:RX n):Qj ((excl b,v)::ρ) n=Qj ρ n:=YK (λe=>h b e.symm) v ρ
theorem Ev.env{s:LS}{mt:QZ}{dm:List ByteArray}{ρ g:J6}{σ i:Env}{h:Hp}(E:Ev s mt ρ σ h)(D:Dm s mt dm)(f:∀n∈dm,Qj g n=Qj ρ n)(l:∀n∈dm,Y8 i n=Y8 σ n):Ev s mt g i h:=by
 refine⟨λn j=>?_,E.lies,λp hp j o=>?_⟩
 ·rw[f n (j.dm D),l n (j.dm D)];exact E.val n j
 ·obtain⟨r,t⟩:=D.ms p hp;obtain⟨C,c,I,J⟩:=E.opn p hp j o;rw[f _ r];exact⟨C,c,I,J.trans (List.map_congr_left λv P=>(f v (t v P)).symm)⟩
theorem Bu{s:LS}{mt:QZ}{dm:List ByteArray}(i:s.Ok)(D:Dm s mt dm){ρ f:J6}(g:∀n∈dm,Qj f n=Qj ρ n):Yz s.ct f=Yz s.ct ρ:=
 Sg λp hp _=>g _ (D.ct _ (by rw[Vb i.kc (show(p.1,p.2)∈s.ct from hp)];rfl))
theorem Di{s:LS}(f:s.Ok){p:ByteArray×Int}(hp:p∈s.ct):s.c p.1=p.2/\0<=p.2:=by
 have g:s.c p.1=p.2:=by
  unfold LS.c;rw[Vb f.kc (show(p.1,p.2)∈s.ct from hp)];rfl
 exact⟨g,by rw[<-g];exact f.nn _⟩
theorem GV(ρ:J6)(i:Nat):∀(N:Nat) (l f:List (ByteArray×Int)),l.length<=N->KN l->KN f->(∀n,(J3 l n).getD 0=(J3 f n).getD 0)->J5 (Yz l ρ) i=J5 (Yz f ρ) i
 |N,[],f,_,_,h',g=>by
  have:Yz f ρ=[]:=by
   refine List.eq_nil_iff_forall_not_mem.2 λx o=>?_
   obtain⟨p,t,C,-⟩:=Sd.1 o;have:=g p.1;rw[Vb h' (show(p.1,p.2)∈f from t)]at this;simp[J3]at this;omega
  rw[this];rfl
 |0,p::r,f,j,_,_,_=>by simp at j
 |N+1,(n,v)::r,f,j,h,h',g=>by
  rw[VV n ρ i h,VV n ρ i h',g n];have key:=GV ρ i N (((n,v)::r).filter λp=>decide (p.1≠n)) (f.filter λp=>decide (p.1≠n)) (by
   rw[List.filter_cons_of_neg (by simp)];exact Nat.le_trans (List.length_filter_le _ _) (by simpa using j)) (h.filter _) (h'.filter _) λm=>by
    rw[Zq (λk=>decide (k≠n)),Zq (λk=>decide (k≠n))];by_cases e:m=n
    ·rw[if_neg (by simp[e]),if_neg (by simp[e])]
    ·rw[if_pos (by simpa using e),if_pos (by simpa using e)];exact g m
  rw[key]
theorem MU(ρ:J6)(i:Nat):∀(L:List ByteArray) {s s':LS},s.Ok->s'.Ok->(∀n,s.c n=s'.c n+M4 L n)->J5 (Yz s.ct ρ) i=J5 (L.map (Qj ρ)) i+J5 (Yz s'.ct ρ) i
 |[],s,s',g,f,j=>by
  rw[List.map_nil,Kv,Nat.zero_add];refine GV ρ i _ s.ct s'.ct (Nat.le_refl _) g.kc f.kc λn=>?_
  have:=j n;simp[M4]at this;exact this
 |a::r,s,s',g,f,j=>by
  have l:=LS.Qp f a;rw[MU ρ i r g l.1 λn=>by
   rw[j n,l.2 n,R3];split<;> omega]
  have hp:=Qx2 a (s'.c a+1) ρ i f.kc;have o:(s'.inc a).ct=Jz s'.ct a (s'.c a+1):=rfl;have t:((J3 s'.ct a).getD 0)=s'.c a:=rfl;have C:=f.nn a;rw[o,List.map_cons,Z9];rw[t,show(s'.c a+1).toNat=(s'.c a).toNat+1 by omega,Nat.add_mul]at hp;omega
theorem Qv1{L:List ByteArray}{n:ByteArray}(h:n∈L):1<=M4 L n:=by
 unfold M4;have:0<(L.filter λx=>decide (x=n)).length:=List.length_pos_of_mem (List.mem_filter.2 ⟨h,by simp⟩);omega
theorem Hy{L:List ByteArray}{n:ByteArray}(h:1<=M4 L n):n∈L:=by
 unfold M4 at h;have:0<(L.filter λx=>decide (x=n)).length:=oM;obtain⟨x,f⟩:=List.length_pos_iff_exists_mem.1 this;obtain⟨g,i⟩:=List.mem_filter.1 f;have:x=n:=by simpa using i
 rw[<-this];exact g
theorem Zv6(L:List ByteArray)(n:ByteArray):0<=M4 L n:=by unfold M4;omega
theorem Zv5(xs:List Tm)(n:ByteArray):TA xs n=M4 (xs.map Tm.nm) n:=by
 induction xs with
 |nil=>rfl
 |cons x r f=>rw[Yb,List.map_cons,R3,f]
theorem RK.take{h:Hp}{ρ:J6}{P T:List Qx}{s s':LS}(H:RK h (Yz s.ct ρ++P) T)(L:List ByteArray)(j:s.Ok)(g:s'.Ok)(l:∀n,s.c n=s'.c n+M4 L n):RK h (L.map (Qj ρ)++(Yz s'.ct ρ++P)) T:=
 H.perm (λx f=>.inl (by
  simp only[List.mem_append]at f⊢;rcases f with f|f|f
  ·obtain⟨n,o,rfl⟩:=List.mem_map.1 f;exact .inl ((LS.Sj j).2 ⟨n,by have:=l n;have:=Qv1 o;have:=g.nn n;omega,rfl⟩)
  ·obtain⟨n,o,rfl⟩:=(LS.Sj g).1 f;exact .inl ((LS.Sj j).2 ⟨n,by have:=l n;have:=Zv6 L n;omega,rfl⟩)
  ·exact .inr f)) λi=>by rw[Qw,Qw,Qw,MU ρ i L j g l];omega
theorem RK.give{h:Hp}{ρ:J6}{P T:List Qx}{s s':LS}(L:List ByteArray)(H:RK h (L.map (Qj ρ)++(Yz s.ct ρ++P)) T)(j:s.Ok)(g:s'.Ok)(l:∀n,s'.c n=s.c n+M4 L n):RK h (Yz s'.ct ρ++P) T:=
 H.perm (λx f=>.inl (by
  simp only[List.mem_append]at f⊢;rcases f with f|f
  ·obtain⟨n,r,rfl⟩:=(LS.Sj g).1 f;by_cases o:n∈L
   ·exact .inl (List.mem_map.2 ⟨n,o,rfl⟩)
   ·refine .inr (.inl ((LS.Sj j).2 ⟨n,?_,rfl⟩));have t:=l n;have:¬1<=M4 L n:=λh=>o (Hy h)
    omega
  ·exact .inr (.inr f))) λi=>by rw[Qw,Qw,Qw,MU ρ i L g j l];omega
abbrev LS.nil:LS:=⟨[],[],[]⟩
theorem LS.LZ:LS.nil.Ok:=⟨KN.nil,KN.nil,λn=>Int.le_refl _⟩
theorem LS.Qv4(n:ByteArray):LS.nil.c n=0:=rfl
theorem AY{s:LS}(o:s.Ok)(t:Tm)(ρ:J6)(i:Nat):J5 (Yz s.ct ρ) i=J5 (Yz (s.fst t).ct ρ) i+J5 (Yz (s.Nz t).ct ρ) i:=by
 have key:∀l:List (ByteArray×Int),(∀p∈l,0<=p.2)->J5 (Yz l ρ) i=J5 (Yz ((l.filter λp=>t.P5 p.1).map λp=>(p.1,Mk p.2)) ρ) i+J5 (Yz (l.map λp=>(p.1,if t.P5 p.1 then p.2-Mk p.2 else p.2)) ρ) i:=by
  intro l;induction l with
  |nil=>intro _;rfl
  |cons p r g=>
   intro j;have g:=g λq C=>j q (List.mem_cons_of_mem _ C)
   have I:=j p (List.mem_cons_self ..);rw[Pz,List.map_cons,Pz,Qw,Qw,XQ,XQ];by_cases f:t.P5 p.1=true
   ·rw[List.filter_cons_of_pos (p:=λp:ByteArray×Int=>t.P5 p.1) f,List.map_cons,Pz,Qw,XQ];dsimp only;rw[if_pos f];have:p.2.toNat=(Mk p.2).toNat+(p.2-Mk p.2).toNat:=by unfold Mk;split<;> omega
    rw[this,Nat.add_mul];omega
   ·rw[List.filter_cons_of_neg (p:=λp:ByteArray×Int=>t.P5 p.1) f];dsimp only;rw[if_neg f];omega
 exact key s.ct λp hp=>(Di o hp).2
theorem Ky{s:LS}(g:s.Ok)(t:Tm){ρ:J6}{x:Qx}(h:x∈Yz (s.fst t).ct ρ\/x∈Yz (s.Nz t).ct ρ):x∈Yz s.ct ρ:=by
 rcases h with h|h
 ·obtain⟨n,f,i⟩:=(LS.Sj (LS.Qr g t)).1 h;rw[LS.Ab]at f;refine(LS.Sj g).2 ⟨n,?_,i⟩;split at f
  ·unfold Mk at f;split at f<;> omega
  ·omega
 ·obtain⟨n,f,i⟩:=(LS.Sj (LS.Zi g t)).1 h;rw[LS.BB]at f;refine(LS.Sj g).2 ⟨n,?_,i⟩;have:=g.nn n;split at f
  ·unfold Mk at f;split at f<;> omega
  ·exact f
theorem AB(l:List (ByteArray×Int))(q:ByteArray->Bool)(ρ:J6)(i:Nat):J5 (R6 l ρ) i=J5 (R6 (l.filter λp=>q p.1) ρ) i+J5 (R6 (l.filter λp=>!q p.1) ρ) i:=by
 induction l with
 |nil=>rfl
 |cons p r f=>
  unfold R6 at f⊢;rw[List.map_cons,Z9];by_cases h:q p.1=true
  ·rw[List.filter_cons_of_pos (p:=λp:ByteArray×Int=>q p.1) h,List.filter_cons_of_neg (p:=λp:ByteArray×Int=>!q p.1) (by simp[h]),List.map_cons,Z9 _ (List.map _ (List.filter (λp=>q p.1) r))];omega
  ·rw[List.filter_cons_of_neg (p:=λp:ByteArray×Int=>q p.1) h,List.filter_cons_of_pos (p:=λp:ByteArray×Int=>!q p.1) (by simpa using h),List.map_cons,Z9 (Qj ρ (excl p.1)) (List.map _ (List.filter _ r))];omega
theorem RF{l:List (ByteArray×Int)}{b:ByteArray}(h:J3 l b=none):(l.filter λp=>decide (p.1≠b))=l:=by
 induction l with
 |nil=>rfl
 |cons p r f=>
  obtain⟨k,v⟩:=p;rw[J3]at h;by_cases e:k=b
  ·rw[if_pos e]at h;cases h
  ·rw[if_neg e]at h;rw[List.filter_cons_of_pos (by simpa using e),f h]
theorem Zj0{l:List (ByteArray×Int)}(o:KN l){b:ByteArray}(j:(J3 l b).isSome=true)(ρ:J6)(i:Nat):J5 (R6 l ρ) i=J5 (Qj ρ (excl b)::R6 (Pk l b) ρ) i:=by
 induction l with
 |nil=>cases j
 |cons p r f=>
  obtain⟨k,v⟩:=p;have g:k ∉ r.map (·.1)/\KN r:=by unfold KN at o;rw[List.map_cons,List.nodup_cons]at o;exact o
  rw[J3]at j;by_cases e:k=b
  ·subst e;have t:J3 r k=none:=by
    cases hk:J3 r k with
    |none=>rfl
    |some u=>exact absurd (List.mem_map.2 ⟨_,WO hk,rfl⟩) g.1
   unfold Pk;rw[List.filter_cons_of_neg (by simp),RF t];rfl
  ·rw[if_neg e]at j;have f:=f g.2 j;unfold Pk at f⊢;rw[List.filter_cons_of_pos (by simpa using e)];unfold R6 at f⊢;rw[Z9]at f;rw[List.map_cons,List.map_cons];dsimp only;rw[Z9,Z9 (Qj ρ (excl b)),Z9 (Qj ρ (excl k)) (List.map _ (List.filter _ r))];omega
theorem TL{l:List (ByteArray×Int)}{b:ByteArray}(g:(J3 l b).isSome=true){ρ:J6}{x:Qx}(h:x∈Qj ρ (excl b)::R6 (Pk l b) ρ):x∈R6 l ρ:=by
 unfold R6 at h⊢;rcases List.mem_cons.1 h with rfl|h
 ·obtain⟨v,i⟩:=Option.isSome_iff_exists.1 g;exact List.mem_map.2 ⟨_,WO i,rfl⟩
 ·obtain⟨p,f,rfl⟩:=List.mem_map.1 h;unfold Pk at f;exact List.mem_map.2 ⟨p,(List.mem_filter.1 f).1,rfl⟩
theorem RK.token{h:Hp}{R PT:List Qx}{ρ:J6}{l:List (ByteArray×Int)}(H:RK h R (R6 l ρ++PT))(j:KN l){b:ByteArray}(g:(J3 l b).isSome=true):RK h R (Qj ρ (excl b)::(R6 (Pk l b) ρ++PT)):=
 H.SF (λx f=>.inl (by
  rcases List.mem_append.1 (show x∈(Qj ρ (excl b)::R6 (Pk l b) ρ)++PT from f)with f|f
  ·exact List.mem_append_left _ (TL g f)
  ·exact List.mem_append_right _ f)) λi=>by
   rw[show Qj ρ (excl b)::(R6 (Pk l b) ρ++PT)=(Qj ρ (excl b)::R6 (Pk l b) ρ)++PT from rfl,Qw,Qw,Zj0 j g ρ i]
theorem Xh3{x:Tm}(h:x.tk=1):x.er.tk=1/\∀(g:Bool) (D:Iq) (σ:Env) (f:Int),JF g D x.er σ f=(Y8 σ x.nm,f,0):=by
 obtain⟨k,n,a,b,vs,xs,cs⟩:=x;obtain rfl:k=1:=h;rw[Gx oM];exact⟨rfl,λg D σ f=>by rw[JF,if_pos rfl];rfl⟩
theorem XO(g:Bool)(D:Iq)(σ:Env)(f:Int):∀xs:List Tm,(∀x∈xs,x.tk=1)->Xq3 g D (Tm.D9 xs) σ f=(xs.map λx=>Y8 σ x.nm,f,0)
 |[],_=>by rw[Tm.D9,Xq3];rfl
 |x::r,h=>by
  obtain⟨-,i⟩:=Xh3 (h x (List.mem_cons_self ..));rw[Tm.D9,Xq3,i,if_neg (λe=>e rfl),XO g D σ f r λy j=>h y (List.mem_cons_of_mem _ j)];rfl
theorem Jk8:∀(N:Nat) (t:Tm),t.sz<=N->t.Sh->t.er.bd=t.bd:=by
 intro N;induction N with
 |zero=>intro t h;have:=t.P8;omega
 |succ N o=>
  intro t J C;obtain⟨k,n,a,b,vs,xs,cs⟩:=t;rw[Tm.sz]at J;have P:∀l:List Tm,(∀x∈l,x.sz<=N/\x.Sh)->Tm.V6 (Tm.D9 l)=Tm.V6 l:=by
   intro l;induction l with
   |nil=>intro _;rfl
   |cons x r g=>intro h;rw[Tm.D9,Tm.V6,Tm.V6,o x (h x (List.mem_cons_self ..)).1 (h x (List.mem_cons_self ..)).2,g λy T=>h y (List.mem_cons_of_mem _ T)]
  have U:∀l:List Cs,(∀c∈l,c.sz<=N/\c.Sh)->Cs.V6 (Cs.D9 l)=Cs.V6 l:=by
   intro l;induction l with
   |nil=>intro _;rfl
   |cons c r g=>
    intro h;obtain⟨t,ws,y⟩:=c;have I:=h _ (List.mem_cons_self ..);rw[Cs.sz]at I;rw[Cs.D9,Cs.V6,Cs.V6,Cs.er,Cs.bd,Cs.bd,o y oM I.2,g λd hd=>h d (List.mem_cons_of_mem _ hd)]
  have f:∀x∈xs,x.sz<=N/\x.Sh:=λx f=>⟨by have:=Tm.Z4 f;omega,QN.1 C.2.2.2.1 x f⟩
  have i:∀c∈cs,c.sz<=N/\c.Sh:=λc i=>⟨by have:=Cs.Z4 i;omega,P6.1 C.2.2.2.2 c i⟩
  rw[Tm.er];by_cases j:Oa k=true/\xs.length=1
  ·rw[if_pos j];have hk:k=8\/k=9\/k=10\/k=11\/k=13:=by
    have:=j.1;unfold Oa at this;exact of_decide_eq_true this
   match xs,j.2,f with
   |[x],_,f=>
    rw[Tm.Xd8,Tm.bd,if_neg oM,C.2.1 oM,Tm.V6,Tm.V6,Cs.V6,o x (f x (by simp)).1 (f x (by simp)).2];simp
  ·rw[if_neg j,Tm.bd,Tm.bd,P xs f,U cs i];congr 1;by_cases e:k=12
   ·subst e;rfl
   ·rw[if_neg e]
theorem Vu(w:ByteArray)(ws:List ByteArray)(x:Qx)(l:List Qx)(ρ:J6):Yx (w::ws) (x::l) ρ=Yx ws l ((w,x)::ρ):=by simp[Yx]
theorem Qh{n:ByteArray}:∀(ws:List ByteArray) (l:List Qx) (ρ:J6),n ∉ ws->Qj (Yx ws l ρ) n=Qj ρ n
 |[],l,ρ,_=>by simp[Yx]
 |w::ws,[],ρ,_=>by simp[Yx]
 |w::ws,x::l,ρ,h=>by
  rw[Vu,Qh ws l _ (λf=>h (List.mem_cons_of_mem _ f)),YK (λe=>h (by rw[e];exact List.mem_cons_self ..))]
theorem YB{n:ByteArray}:∀(ws:List ByteArray) (l:List Vl) (σ:Env),n ∉ ws->Y8 (JG ws l σ) n=Y8 σ n
 |[],l,σ,_=>by simp[JG]
 |w::ws,[],σ,_=>by simp[JG]
 |w::ws,x::l,σ,h=>by
  rw[Fg,YB ws l _ (λf=>h (List.mem_cons_of_mem _ f)),NZ (λe=>h (by rw[e];exact List.mem_cons_self ..))]
theorem WX:∀(ws:List ByteArray) (l:List Qx) (ρ:J6),ws.Nodup->ws.length=l.length->ws.map (Qj (Yx ws l ρ))=l
 |[],[],ρ,_,_=>rfl
 |w::ws,x::l,ρ,g,f=>by
  rw[List.nodup_cons]at g;rw[Vu,List.map_cons,Qh ws l _ g.1,YL rfl,WX ws l _ g.2 (by simpa using f)]
 |[],_::_,_,_,f=>by simp at f
 |_::_,[],_,_,f=>by simp at f
theorem Te{h:Hp}:∀(ws:List ByteArray) (l:List Qx) (f:List Vl) (ρ:J6) (σ:Env),ws.Nodup->ws.length=l.length->l.length=f.length->
  (∀(i:Nat) (x:Qx) (v:Vl),l[i]? =some x->f[i]? =some v->SV h x v)->∀n∈ws,SV h (Qj (Yx ws l ρ) n) (Y8 (JG ws f σ) n)
 |[],_,_,_,_,_,_,_,_,n,o=>by cases o
 |w::ws,x::l,v::f,ρ,σ,t,r,g,C,n,o=>by
  rw[List.nodup_cons]at t;rw[Vu,Fg];by_cases j:n∈ws
  ·exact Te ws l f _ _ t.2 (by simpa using r) (by simpa using g) (λi y u I g=>C (i+1) y u (by simpa using I) (by simpa using g)) n j
  ·have e:n=w:=by
    rcases List.mem_cons.1 o with e|e
    ·exact e
    ·exact absurd e j
   subst e;rw[Qh ws l _ j,YB ws f _ j,YL rfl,Ma rfl];exact C 0 x v rfl rfl
 |_::_,[],_,_,_,_,r,_,_,_,_=>by simp at r
 |_::_,_::_,[],_,_,_,_,g,_,_,_=>by simp at g
def Tn(o:JJ)(w:Out)(P PT:List Qx)(h:Hp):Prop:=
 o.2.2.2=13\/(o.2.2.2=w.2.2/\(w.2.2=0->o.2.2.1=w.2.1/\RK o.2.1 (o.1::P) PT/\SV o.2.1 o.1 w.1/\UV P h o.2.1))
def Xd2(C:C9)(D:Iq):Prop:=∀(name:ByteArray) (vs:List Qx) (g:List Vl) (h:Hp) (f:Int) (P PT:List Qx),RK h (vs++P) PT->vs.length=g.length->
 (∀(i:Nat) (x:Qx) (v:Vl),vs[i]? =some x->g[i]? =some v->SV h x v)->Tn (C name vs h f) (D name g f) P PT h
structure SI (A:X6) (t:Tm) (s:LS) (mt:QZ) (dm:List ByteArray):Prop where
 Y0:t.Y0 s=0
 tk:t.Tk mt
 wr:∃names deep,t.er.wrong A names deep=0
 ok:s.Ok
 dms:Dm s mt dm
 bd:∀n∈t.bd,n ∉ dm/\RX n
 nd:t.bd.Nodup
 sh:t.Sh
section
variable {A:X6} {C:C9} {D:Iq} {k n:Int} {a b:ByteArray} {vs:List ByteArray} {xs:List Tm} {cs:List Cs} {s:LS} {mt:QZ} {dm:List ByteArray} {ρ:J6} {σ:Env} {h:Hp} {f:Int} {P PT:List Qx}
theorem Zj7(I:SI A (.mk 1 n a b vs xs cs) s mt dm)(E:Ev s mt ρ σ h)(H:RK h (Yz s.ct ρ++P) (R6 s.tk ρ++PT)):Tn (Tj C (.mk 1 n a b vs xs cs) ρ h f) (JF true D (Tm.mk 1 n a b vs xs cs).er σ f) P PT h:=by
 have g:=I.Y0;rw[Qw4]at g;obtain⟨i,l⟩:=Zx8 I.ok g;rw[l]at H;have j:RK h (Qj ρ a::P) PT:=H.take [a] I.ok LS.LZ λm=>by rw[i m,LS.Qv4,R3];simp[M4]
 rw[Gx oM,JF,if_pos rfl,Tj,if_pos rfl];exact .inr ⟨rfl,λ_=>⟨rfl,j,E.val a (.has (by rw[i a,if_pos rfl];omega)),UV.refl j λx o=>List.mem_cons_of_mem _ o⟩⟩
theorem RK.plain{T:List Qx}(H:RK h P T){x:Qx}(g:x.kind≠2):RK h (x::P) T:=H.perm (λy f=>by
 rcases List.mem_cons.1 f with rfl|f
 ·exact .inr g
 ·exact .inl f) λi=>by rw[Z9,ZG g];omega
theorem RK.Bf{T:List Qx}{x:Qx}(H:RK h (x::P) T)(f:x.kind≠2):RK h P T:=H.perm (λy g=>.inl (List.mem_cons_of_mem _ g)) λi=>by rw[Z9 x,ZG f];omega
theorem Zk0(I:SI A (.mk 2 n a b vs xs cs) s mt dm)(H:RK h (Yz s.ct ρ++P) (R6 s.tk ρ++PT)):Tn (Tj C (.mk 2 n a b vs xs cs) ρ h f) (JF true D (Tm.mk 2 n a b vs xs cs).er σ f) P PT h:=by
 have g:=I.Y0;rw[Qw2]at g;obtain⟨j,l⟩:=LS.PO I.ok (LS.R4 g).2;rw[l]at H;have i:RK h P PT:=H.take [] I.ok LS.LZ λm=>by rw[j m,LS.Qv4];simp[M4]
 rw[Gx oM,JF,if_neg oM,if_pos rfl,Tj,if_neg oM,if_pos rfl];exact .inr ⟨rfl,λ_=>⟨rfl,i.plain (show(0:Int)≠2 by decide),.int rfl,UV.refl i λx o=>o⟩⟩
theorem Kc(E:Ev s mt ρ σ h)(o:s.Ok)(j:∀m,s.c m=TA xs m){T:List Qx}(H:RK h (Yz s.ct ρ++P) T):RK h (Fq ρ xs++P) T/\∀(i:Nat) (x:Qx) (v:Vl),(Fq ρ xs)[i]? =some x->(xs.map λx=>Y8 σ x.nm)[i]? =some v->SV h x v:=by
 refine⟨?_,λi x v f g=>?_⟩
 ·have l:=H.take (xs.map Tm.nm) o LS.LZ λm=>by rw[j m,LS.Qv4,Zv5];omega
  rw[List.map_map]at l;exact l
 ·unfold Fq at f;rw[List.getElem?_map]at f g;cases hy:xs[i]? with
  |none=>rw[hy]at f;cases f
  |some y=>
   rw[hy]at f g;cases f;cases g;exact E.val y.nm (.has (by rw[j];exact Zv4 ⟨y,List.mem_of_getElem? hy,rfl⟩))
theorem Ef{R T:List Qx}{args:List Qx}{j:List Vl}{g:Hp}{sl:Qx}(H:RK h (args++P) R)(o:RK g (sl::P) T)(K:Kp h g)(t:sl.kind=2)(r:g.cells[sl.n.toNat]? =some ⟨1,n,args⟩)(C:args.length=j.length)
  (I:∀(i:Nat) (x:Qx) (v:Vl),args[i]? =some x->j[i]? =some v->SV h x v):SV g sl (.mk true n j)/\UV P h g:=by
 have l:(⟨1,n,args⟩:Qk)∈g.cells:=List.mem_of_getElem? r;refine⟨.cell t r C λi x v f J=>?_,K.Zw4 H o (λx f=>.inl (List.mem_append_right _ f)) λx f=>.inl (List.mem_cons_of_mem _ f)⟩;exact(I i x v f J).Jj5 (K.Zw4 (P:=args) H o (λx f=>.inl (List.mem_append_left _ f)) λx f=>.inr (Gw.2 ⟨_,l,f⟩)) (List.mem_of_getElem? f)
theorem Ee{T args:List Qx}{g:List Vl}(H:RK h (args++P) T)(l:args.length=g.length)(o:∀(i:Nat) (x:Qx) (v:Vl),args[i]? =some x->g[i]? =some v->SV h x v):Tn (WE h f (h.make n args)) (.mk true n g,f,0) P T h:=by
 by_cases r:200<=h.live
 ·left;rw[Hp.make,if_pos r];rfl
 ·obtain⟨t,j,C,I,J⟩:=H.make n oM;right;obtain⟨U,q2⟩:=Ef H j C I J l o;rw[WE,if_pos t];exact⟨rfl,λ_=>⟨rfl,j,U,q2⟩⟩
theorem Zx7{T args:List Qx}{g:List Vl}{tok:Qx}(H:RK h (args++P) (tok::T))(l:args.length=g.length)(o:∀(i:Nat) (x:Qx) (v:Vl),args[i]? =some x->g[i]? =some v->SV h x v):Tn (WE h f (h.use tok n args)) (.mk true n g,f,0) P T h:=by
 by_cases j:tok.kind=2
 ·obtain⟨C,r,I,J,U⟩:=H.use j n;right;obtain⟨q1,q2⟩:=Ef H r I J U l o;rw[WE,if_pos C];exact⟨rfl,λ_=>⟨rfl,r,q1,q2⟩⟩
 ·have H2:RK h (args++P) T:=H.SF (λt ht=>.inl (List.mem_cons_of_mem _ ht)) λi=>by rw[Z9 tok,ZG j];omega
  rw[Hp.use,if_neg j];exact Ee H2 l o
theorem Zk1(I:SI A (.mk 3 n a b vs xs cs) s mt dm)(E:Ev s mt ρ σ h)(H:RK h (Yz s.ct ρ++P) (R6 s.tk ρ++PT)):Tn (Tj C (.mk 3 n a b vs xs cs) ρ h f) (JF true D (Tm.mk 3 n a b vs xs cs).er σ f) P PT h:=by
 have g:=I.Y0;rw[ZA oM]at g;obtain⟨o,r⟩:=VK I.ok g;have i:=Oz (LS.R4 g).1;rw[r]at H;obtain⟨j,t⟩:=Kc E I.ok o H;rw[Gx oM,JF,if_neg oM,if_neg oM,if_neg oM,XO true D σ f xs i,VE,if_pos rfl,if_pos (.inl rfl),Tj,if_neg oM,if_neg oM,if_pos rfl];by_cases l:xs.length=0
 ·obtain rfl:xs=[]:=List.eq_nil_of_length_eq_zero l;rw[if_pos (show([]:List Tm).length=0 from rfl)];exact .inr ⟨rfl,λ_=>⟨rfl,j.plain (show(1:Int)≠2 by decide),.KD rfl,UV.refl j λx J=>J⟩⟩
 ·rw[if_neg l];exact Ee j (by simp[Fq]) t
theorem Zj8(I:SI A (.mk 12 n a b vs xs cs) s mt dm)(E:Ev s mt ρ σ h)(H:RK h (Yz s.ct ρ++P) (R6 s.tk ρ++PT)):Tn (Tj C (.mk 12 n a b vs xs cs) ρ h f) (JF true D (Tm.mk 12 n a b vs xs cs).er σ f) P PT h:=by
 obtain⟨l,o⟩:=Em I.Y0;have g:({ s with tk:=Pk s.tk b }:LS).Ok:=LS.I8 I.ok (I.ok.kt.filter _);obtain⟨t,J⟩:=VK g o;have i:=Oz (LS.R4 o).1;have r:=H.token I.ok.kt (b:=b) (by rw[l];rfl);have j:Pk s.tk b=[]:=J;rw[j]at r;obtain⟨U,hv⟩:=Kc (T:=Qj ρ (excl b)::PT) E I.ok (λm=>t m) r;have h0:¬xs.length=0:=λe=>by have:=I.dms.tk b _ l;omega
 rw[Qh7,JF,if_neg oM,if_neg oM,if_neg oM,XO true D σ f xs i,VE,if_pos rfl,if_pos (.inl rfl),Tj,if_neg oM,if_neg oM,if_neg oM,if_pos rfl,if_neg h0];exact Zx7 U (by simp[Fq]) hv
theorem Qz7(j:Xd2 C D)(I:SI A (.mk 4 n a b vs xs cs) s mt dm)(E:Ev s mt ρ σ h)(H:RK h (Yz s.ct ρ++P) (R6 s.tk ρ++PT)):Tn (Tj C (.mk 4 n a b vs xs cs) ρ h f) (JF true D (Tm.mk 4 n a b vs xs cs).er σ f) P PT h:=by
 have g:=I.Y0;rw[ZA oM]at g;obtain⟨l,o⟩:=VK I.ok g;have i:=Oz (LS.R4 g).1;rw[o]at H;obtain⟨r,t⟩:=Kc E I.ok l H;rw[Gx oM,JF,if_neg oM,if_neg oM,if_neg oM,XO true D σ f xs i,VE,if_neg oM,if_neg (λe=>e rfl),if_pos rfl,Tj,if_neg oM,if_neg oM,if_neg oM,if_neg oM,if_pos rfl];exact j a _ _ h f P PT r (by simp[Fq]) t
theorem Qz5(I:SI A (.mk 5 n a b vs xs cs) s mt dm)(E:Ev s mt ρ σ h)(H:RK h (Yz s.ct ρ++P) (R6 s.tk ρ++PT)):Tn (Tj C (.mk 5 n a b vs xs cs) ρ h f) (JF true D (Tm.mk 5 n a b vs xs cs).er σ f) P PT h:=by
 have t:=I.Y0;rw[ZA oM]at t;obtain⟨hc,ht⟩:=VK I.ok t;have J:=Oz (LS.R4 t).1;rw[ht]at H;obtain⟨H2,hv⟩:=Kc E I.ok hc H;obtain⟨x,y,rfl⟩:∃x y,xs=[x,y]:=by
  obtain⟨names,a2,g⟩:=I.wr;rw[Gx oM]at g;obtain⟨-,-,-,T,-⟩:=K3 g;have U:xs.length=2:=by
   unfold Xx at T;simp[Ox]at T;exact T.1
  match xs,U with
  |[y,z],_=>exact⟨y,z,rfl⟩
 rw[Gx oM,JF,if_neg oM,if_neg oM,if_neg oM,XO true D σ f _ J,VE,if_neg oM,if_neg (λe=>e rfl),if_neg oM,if_pos rfl,Tj,if_neg oM,if_neg oM,if_neg oM,if_neg oM,if_neg oM,if_pos rfl];have h1:SV h (Qj ρ x.nm) (Y8 σ x.nm):=hv 0 _ _ rfl rfl;have h2:SV h (Qj ρ y.nm) (Y8 σ y.nm):=hv 1 _ _ rfl rfl;show Tn (VZ n (Qj ρ x.nm) (Qj ρ y.nm) h f) (SE n (Y8 σ x.nm) (Y8 σ y.nm) f) P PT h;have H3:RK h (Qj ρ x.nm::Qj ρ y.nm::P) PT:=H2;generalize Qj ρ x.nm=u at *;generalize Qj ρ y.nm=v at *;generalize Y8 σ x.nm=p at *;generalize Y8 σ y.nm=q at *;have k1:=h1.kind.1;have k2:=h2.kind.1;by_cases i:u.kind≠0\/v.kind≠0
 ·rw[VZ,if_pos i];have hb:(p.KD||q.KD)=true:=by
   rw[Bool.or_eq_true];rcases i with i|i
   ·left;cases hp:p.KD with|true=>rfl|false=>exact absurd (k1.1 hp) i
   ·right;cases hp:q.KD with|true=>rfl|false=>exact absurd (k2.1 hp) i
  rw[SE,if_pos hb];exact .inr ⟨rfl,λe=>by cases e⟩
 ·rw[not_or,Decidable.not_not,Decidable.not_not]at i;have hu:p= .mk false u.n []:=by
   cases h1 with
   |int _=>rfl
   |KD j=>omega
   |cell j _ _ _=>omega
  have g:q= .mk false v.n []:=by
   cases h2 with
   |int _=>rfl
   |KD j=>omega
   |cell j _ _ _=>omega
  subst hu;subst g;rw[VZ,if_neg (by rw[not_or,Decidable.not_not,Decidable.not_not];exact i),SE,if_neg (show¬((Vl.mk false u.n []).KD||(Vl.mk false v.n []).KD)=true from Bool.false_ne_true)];show Tn (if (Wj n u.n v.n).2≠0 then (z0,h,f,(Wj n u.n v.n).2)else (MO (Wj n u.n v.n).1,h,f,0)) (if (Wj n u.n v.n).2≠0 then (zeroV,f,(Wj n u.n v.n).2)else ((Wj n u.n v.n).1,f,0)) P PT h;have r:RK h P PT:=(H3.Bf oM).Bf oM;have l:(Wj n u.n v.n).1.kids=[]:=by
   unfold Wj;repeat' split
   all_goals rfl
  generalize Wj n u.n v.n=o at *;obtain⟨⟨rc,rn,a1⟩,w⟩:=o;have l:a1=[]:=l;subst l;dsimp only;by_cases g:w≠0
  ·rw[if_pos g,if_pos g];exact .inr ⟨rfl,λe=>absurd e g⟩
  ·rw[if_neg g,if_neg g];cases rc
   ·have e:MO (Vl.mk false rn [])=⟨0,rn⟩:=rfl;rw[e];exact .inr ⟨rfl,λ_=>⟨rfl,r.plain (show(0:Int)≠2 by decide),.int (s:=⟨0,rn⟩) rfl,UV.refl r λx hx=>hx⟩⟩
   ·have e:MO (Vl.mk true rn [])=⟨1,rn⟩:=rfl;rw[e];exact .inr ⟨rfl,λ_=>⟨rfl,r.plain (show(1:Int)≠2 by decide),.KD (s:=⟨1,rn⟩) rfl,UV.refl r λx hx=>hx⟩⟩
end
end
end Go.Proofs.YtnddiddkmhiclaaGreatDoor
