import Derived.Test.YtnddiddkmhiclaaGreatDoorReuE
set_option maxRecDepth 20000
set_option maxHeartbeats 16000000
set_option linter.unusedVariables false
set_option linter.unusedSimpArgs false
namespace Go.Proofs.YtnddiddkmhiclaaGreatDoor
section
open Go.RowKit
attribute [local simp] Jb WL WQ WA VO QA Zo Pv Uw Wv Vk Vj Y4 V8 Xo V5 Gj O1 Value.oneCell' X4 Q4 Z6 Yn Nv Z5 AS.after Zz Uj K7 AV.ids ZB Q9.ids UC Qy E5 Nw Lx Kk V9 Gz D8 D6 U4 KI ZQ setAt Fz Je O4 XT L8 XU WY AV.cells Yv K9 L6 M6 AV.kill Q9.kill AV.has AV.Uv Op.operands Call.operands Qf QB X3 Km Zw Jv ZV NE Qt Mj Vv AV.ren ZU Q9.ren Q9.like kept X7 Zr AV.F7 ZC Jp JD Qo Hw AS.F7 Xf T9 Q9.F7 Sz FV Nat.ble_eq Ez E9 U6 D.U7 Xa Ij Rw H6 Ki XM O5 Bw Fx R8 Low ZX
theorem Qz1(l:List Fn)(g:H5 l)(i:Jq l=0):Qv Tryz.prog 8 [F4 l,Iv 2] (λ_=>F4 (Lf l)) none:=by
 have C:=g.len;have I:=XY l g.len (M3 g i);have hp:=QR g i;have r:=XZ (l.map Fn.pl) (by rw[List.length_map];exact g.len) hp;have o:=VS ((l.map Fn.pl).map Fn.ow) (by rw[List.length_map,List.length_map];exact g.len) (λf t=>⟨(Zt g i f t).1,(Zt g i f t).2.1⟩);have j:=FL (((l.map Fn.pl).map Fn.ow).map Fn.fu) (by rw[List.length_map,List.length_map,List.length_map];exact g.len) (Xk6 g i);unfold Lf Gm Un;generalize l.map Fn.pl=P at I r o j⊢;generalize P.map Fn.ow=O at r o j⊢;generalize O.map Fn.fu=U at o j⊢;generalize U.map Fn.ru=V at j⊢;refine Qv.of Tryz.func8 rfl rfl rfl (Nat.le_of_ble_eq_true rfl) ?_;show X8 _ _ (Z7 _ Tryz.f8 _ _ _) (Z6 17 _);refine Wr ?_;refine Wg [] [.p (λ_=>La (P.map Fn.row)) none,.p (λ_=>La (O.map Fn.row)) none] ?_;refine Wr ?_;refine Wy ?_;refine Wg [] [.p (λ_=>La (U.map Fn.row)) none] ?_;refine Wr ?_;refine Wy ?_;refine Wg [] [.p (λ_=>La (V.map Fn.row)) none] ?_;refine Wr ?_;refine Wt ?_;try dsimp only[Q8,Q5]
 apply Z7.ret
 ·rfl
 ·conv=>lhs;simp[Q7,Tryz.results8]
 rfl
end
section
open Classical Go.RowKit
theorem Vn{k:Int}(f:k=8\/k=9):∀(l:List ByteArray) (t:Tm),(cnt k l t).wg=l.length+t.wg
 |[],t=>by rw[cnt];simp
 |a::r,t=>by
  rw[cnt,Tm.wg,if_neg oM,Tm.M0,Tm.M0,Cs.M0,Vn f r t,List.length_cons];omega
theorem Zd2:∀(d:Nat) (t:Tm),t.Rt d->t.wg=t.sz:=by
 intro d;induction d with
 |zero=>intro t h;exact h.elim
 |succ d j=>
  intro t h;obtain⟨k,n,a,b,vs,xs,cs⟩:=t;obtain⟨P,-,-,o,C⟩:=h;have I:∀l:List Tm,(∀x∈l,x∈xs)->Tm.M0 l=Tm.Xv l:=by
   intro l;induction l with
   |nil=>intro _;rfl
   |cons x r f=>
    intro g;rw[Tm.M0,Tm.Xv,j x (o x (g x (by simp))),f λz i=>g z (by simp[i])]
  have J:∀l:List Cs,(∀x∈l,x∈cs)->Cs.M0 l=Cs.Xv l:=by
   intro l;induction l with
   |nil=>intro _;rfl
   |cons c r f=>
    intro g;have:=(C c (g c (by simp))).2;obtain⟨t,ws,y⟩:=c;rw[Cs.M0,Cs.Xv,Cs.wg,Cs.sz,j y this,f λz i=>g z (by simp[i])]
  rw[Tm.wg,Tm.sz,if_neg oM,I xs λ_ h=>h,J cs λ_ h=>h]
theorem Jx9(H:Nat):∀(d:Nat) (t:Tm) (has:List ByteArray),t.Rt d->has.length+7 * d<=H->(t.ow has).wg<=t.sz * (2 * H+64):=by
 intro d;induction d with
 |zero=>intro t _ h;exact h.elim
 |succ d J=>
  intro t has P hH;obtain⟨k,n,a,b,vs,xs,cs⟩:=t;have T:=P;have f:=Zd2 _ _ P;obtain⟨hk,-,h6,hx,hc⟩:=P;obtain⟨K,hK⟩:∃K,K=2 * H+64:=⟨_,rfl⟩
  rw[<-hK]at J⊢;have a7:(Tm.mk k n a b vs xs cs).sz * 1<=(Tm.mk k n a b vs xs cs).sz * 2:=Nat.mul_le_mul_left _ oM;rw[Tm.ow,Vn (.inr rfl)];have hw:=Sq has (Tm.mk k n a b vs xs cs).free;have hI:=N8 has (Tm.mk k n a b vs xs cs).free;generalize Rv has (Tm.mk k n a b vs xs cs).free=G at hw⊢;generalize Uq has (Tm.mk k n a b vs xs cs).free=O at hI⊢;have o:∀z:Nat,(1+z) * K=K+z * K:=λz=>by rw[Nat.add_mul,Nat.one_mul]
  have C:∀z:Nat,z<=z * K:=λz=>Nat.le_mul_of_pos_right z oM
  have g:(Tm.mk k n a b vs xs cs).sz * K=K+(Tm.Xv xs+Cs.Xv cs) * K:=by rw[Tm.sz,Nat.add_assoc,o]
  have a6:=C (Tm.Xv xs+Cs.Xv cs);have i:(Tm.mk k n a b vs xs cs).sz=1+Tm.Xv xs+Cs.Xv cs:=by rw[Tm.sz]
  split
  ·rw[Vn (.inl rfl),f,g,i];have U:=XF xs [];have h2:xs.length<=6:=oM;omega
  split
  ·rename_i a1;subst a1;obtain⟨x,y,rfl,rfl,a2,a3⟩:=WF T;have a8:(PM a O [x,y]).length<=O.length:=by
    unfold PM;exact Nat.le_trans (N8 _ _) (N8 _ _)
   rw[Vn (.inl rfl),g,Dr,Tm.VH,Tm.VH,Tm.VH,Tm.wg,if_neg oM,Tm.M0,Tm.M0,Tm.M0,Cs.M0];simp only[List.headD_cons,List.tail_cons];have U:=J x (Uq O x.free) a2 (by have:=N8 O x.free;omega);have h2:=J y (Uq O (Rv y.free [a])++[a]) a3 (by have:=N8 O (Rv y.free [a]);simp;omega);have h3:(Tm.Xv [x,y]+Cs.Xv []) * K=x.sz * K+y.sz * K:=by
    simp only[Tm.Xv,Cs.Xv,Nat.add_zero];rw[Nat.add_mul]
   rw[h3];omega
  split
  ·rename_i h7;subst h7;have hX:Tm.M0 xs=Tm.Xv xs:=by
    have:=f;have hC:∀l:List Cs,(∀x∈l,x∈cs)->Cs.M0 l=Cs.Xv l:=by
     intro l;induction l with
     |nil=>intro _;rfl
     |cons c r j=>
      intro I;have:=(hc c (I c (by simp))).2;obtain⟨t,ws,y⟩:=c;rw[Cs.M0,Cs.Xv,Cs.wg,Cs.sz,Zd2 d y this,j λz hz=>I z (by simp[hz])]
    rw[Tm.wg,Tm.sz,if_neg oM,hC cs λ_ h=>h]at this;omega
   have hD:∀l:List Cs,(∀x∈l,x∈cs)->Cs.M0 (Cs.RU l O (Xn xs))<=Cs.Xv l * K+7 * l.length:=by
    intro l;induction l with
    |nil=>intro _;simp[Cs.RU,Cs.M0]
    |cons c r j=>
     intro I;obtain⟨a4,a5⟩:=hc c (I c (by simp));have e1:=j λz hz=>I z (by simp[hz])
     obtain⟨t,ws,y⟩:=c;change ws.length<=6 at a4;have a9:=N8 ws y.free;have y1:=J y (if hasB y.free (Xn xs)then O++Uq ws y.free else Rv (O++Uq ws y.free) [Xn xs]) a5 (by
      have U:(O++Uq ws y.free).length<=O.length+6:=by rw[List.length_append];omega
      split
      ·omega
      ·have:=Sq (O++Uq ws y.free) [Xn xs];omega)
     have b0:(if hasB y.free (Xn xs)then ([]:List ByteArray)else[Xn xs]).length<=1:=by split<;> simp
     rw[Cs.RU,Cs.ow,Cs.M0,Cs.wg,Vn (.inl rfl),Vn (.inr rfl),Cs.Xv,Cs.sz,Nat.add_mul,List.length_cons];omega
   have U:=hD cs λ_ h=>h
   rw[g,Tm.wg,if_neg oM,hX];have h3:(Tm.Xv xs+Cs.Xv cs) * K=Tm.Xv xs * K+Cs.Xv cs * K:=Nat.add_mul _ _ _;have h4:=C (Tm.Xv xs);omega
  ·rw[f,g,i];omega
theorem Jq4:∀(N:Nat) (t:Tm) (f:List ByteArray),t.sz<=N->(t.sr f).2.wg<=t.wg/\(t.sr f).1.length<=f.length/\(t.sr f).2.nc<=t.nc:=by
 intro N;induction N with
 |zero=>intro t _ h;have:=t.P8;omega
 |succ N g=>
  intro t f i;obtain⟨k,n,a,b,vs,xs,cs⟩:=t;rw[Tm.sr];split
  ·cases xs with
   |nil=>rw[Tm.Bl];exact⟨Nat.le_refl _,Sq _ _,Nat.le_refl _⟩
   |cons x r=>
    rw[Tm.Bl];obtain⟨j,l,o⟩:=g x (Rv f [a]) (by rw[Tm.sz,Tm.Xv]at i;omega);have:=Sq f [a];rw[Tm.wg,Tm.M0,Tm.nc,Tm.Fj];omega
  ·exact⟨Nat.le_refl _,Nat.le_refl _,Nat.le_refl _⟩
theorem Qg3{k:Int}{na:Nat}{nm:ByteArray}{ws:List ByteArray}{y:Tm}(o:ws.length<=6):(Rq k na nm ws y).wg<=y.wg+13/\(Rq k na nm ws y).nc<=y.nc:=by
 unfold Rq;split
 ·rename_i f;obtain⟨-,-,-,t,i⟩:=f;obtain⟨j,C,l⟩:=Jq4 y.sz y ws (Nat.le_refl _);generalize y.sr ws=Z at *;obtain⟨g,z⟩:=Z;dsimp only at *;rw[Tm.wg,if_pos (.inl rfl),Tm.M0,Tm.M0,Cs.M0,Tm.nc,Tm.Fj,Tm.Fj,Cs.Fj,Vn (.inr rfl),(O9 (.inr rfl) _ _).2];obtain⟨k,n,a,b,vs,xs,cs⟩:=z;cases xs with
  |nil=>
   have e:(Tm.mk k n a b vs [] cs).a0=Tm.mk k n a b vs [] cs:=rfl;rw[e];omega
  |cons x r=>
   have e:(Tm.mk k n a b vs (x::r) cs).a0=x:=rfl;rw[e];rw[Tm.wg,Tm.M0]at j;rw[Tm.nc,Tm.Fj]at l;omega
 ·omega
theorem Jj7:∀(N:Nat) (t:Tm),t.sz<=N->t.Du->t.fu.wg<=t.wg+13 * t.nc/\t.fu.nc<=t.nc:=by
 intro N;induction N with
 |zero=>intro t h;have:=t.P8;omega
 |succ N j=>
  intro t T o;obtain⟨k,n,a,b,vs,xs,cs⟩:=t;rw[Tm.sz]at T;have U:∀l:List Tm,(∀x∈l,x∈xs)->Tm.M0 (Tm.I9 l)<=Tm.M0 l+13 * Tm.Fj l/\Tm.Fj (Tm.I9 l)<=Tm.Fj l:=by
   intro l;induction l with
   |nil=>intro _;exact⟨Nat.le_refl _,Nat.le_refl _⟩
   |cons x r f=>
    intro g;have C:=g x (by simp);have I:=j x (by have:=Tm.Z4 C;omega) (Tm.QO.1 o.2.1 x C);have J:=f λz i=>g z (by simp[i])
    rw[Tm.I9,Tm.M0,Tm.M0,Tm.Fj,Tm.Fj];omega
  have hC:∀l:List Cs,(∀x∈l,x∈cs)->Cs.M0 (Cs.I9 k xs.length (Xn xs) l)<=Cs.M0 l+13 * Cs.Fj l/\Cs.Fj (Cs.I9 k xs.length (Xn xs) l)<=Cs.Fj l:=by
   intro l;induction l with
   |nil=>intro _;exact⟨Nat.le_refl _,Nat.le_refl _⟩
   |cons c r f=>
    intro g;have P:=g c (by simp);have J:=f λz i=>g z (by simp[i])
    obtain⟨t,ws,y⟩:=c;have hs:(Cs.mk t ws y).sz<=Cs.Xv cs:=Cs.Z4 P;rw[Cs.sz]at hs;obtain⟨hw,hy⟩:=Cs.QO.1 o.2.2 _ P;have I:=j y oM hy;have h3:=Qg3 (k:=k) (na:=xs.length) (nm:=Xn xs) (ws:=ws) (y:=y.fu) hw;rw[Cs.I9,Cs.M0,Cs.M0,Cs.Fj,Cs.Fj,Cs.fu,Cs.wg,Cs.wg,Cs.nc,Cs.nc];omega
  have I:=U xs λ_ h=>h
  have J:=hC cs λ_ h=>h
  rw[Tm.fu,Tm.wg,Tm.wg,Tm.nc,Tm.nc];omega
theorem Xx4(b:ByteArray)(m:Nat):∀(N:Nat) (t:Tm),t.sz<=N->(t.put b m).wg<=t.wg+1+t.nc/\(t.put b m).nc=t.nc:=by
 intro N;induction N with
 |zero=>intro t h;have:=t.P8;omega
 |succ N i=>
  intro t J;obtain⟨k,n,a,b0,vs,xs,cs⟩:=t;rw[Tm.sz]at J;have I:∀l:List Tm,(∀x∈l,x∈xs)->Tm.M0 (Tm.H8 b m l)<=Tm.M0 l+1+Tm.Fj l/\Tm.Fj (Tm.H8 b m l)=Tm.Fj l:=by
   intro l f;cases l with
   |nil=>rw[Tm.H8];exact⟨oM,rfl⟩
   |cons x r=>
    have j:=f x (by simp);have g:=i x (by have:=Tm.Z4 j;omega);rw[Tm.H8,Tm.M0,Tm.M0,Tm.Fj,Tm.Fj];omega
  have P:∀l:List Tm,(∀x∈l,x∈xs)->Tm.M0 (Tm.Qd b m l)<=Tm.M0 l+1+Tm.Fj l/\Tm.Fj (Tm.Qd b m l)=Tm.Fj l:=by
   intro l f;cases l with
   |nil=>rw[Tm.Qd];exact⟨oM,rfl⟩
   |cons x r=>
    have j:=f x (by simp);rw[Tm.Qd];split
    ·have g:=i x (by have:=Tm.Z4 j;omega);rw[Tm.M0,Tm.M0,Tm.Fj,Tm.Fj];omega
    ·have g:=I r λz o=>f z (by simp[o])
     rw[Tm.M0,Tm.M0,Tm.Fj,Tm.Fj];omega
  have T:∀l:List Cs,(∀x∈l,x∈cs)->Cs.M0 (Cs.Jz b m l)<=Cs.M0 l+Cs.Fj l/\Cs.Fj (Cs.Jz b m l)=Cs.Fj l:=by
   intro l;induction l with
   |nil=>intro _;rw[Cs.Jz];exact⟨Nat.le_refl _,rfl⟩
   |cons c r C=>
    intro f;have U:=f c (by simp);have h2:=C λz o=>f z (by simp[o])
    obtain⟨t,ws,y⟩:=c;have hs:(Cs.mk t ws y).sz<=Cs.Xv cs:=Cs.Z4 U;rw[Cs.sz]at hs;have g:=i y oM;rw[Cs.Jz,Cs.put,Cs.M0,Cs.M0,Cs.Fj,Cs.Fj,Cs.wg,Cs.wg,Cs.nc,Cs.nc];omega
  rw[Tm.put];split
  ·rw[Tm.wg,if_neg oM,Tm.M0,Tm.M0,Cs.M0];constructor
   ·omega
   ·rw[Tm.nc,Tm.Fj,Tm.Fj,Cs.Fj];omega
  split
  ·rename_i h3;rw[Tm.wg,Tm.wg,if_neg oM,if_neg oM,Tm.nc,Tm.nc];exact⟨oM,rfl⟩
  split
  ·have g:=P xs λ_ h=>h
   rw[Tm.wg,Tm.wg,Tm.nc,Tm.nc];omega
  split
  ·have g:=T cs λ_ h=>h
   rw[Tm.wg,Tm.wg,Tm.nc,Tm.nc];omega
  ·have g:=I xs λ_ h=>h
   rw[Tm.wg,Tm.wg,Tm.nc,Tm.nc];omega
theorem Jz4(M:Nat):∀(N:Nat) (t:Tm) (c:Int),t.nc<=M->(t.ru N c).1.wg<=t.wg+t.nt * (1+M)/\(t.ru N c).1.nc<=t.nc:=by
 intro N;induction N with
 |zero=>intro t c _;rw[Tm.ru];exact⟨Nat.le_add_right _ _,Nat.le_refl _⟩
 |succ N o=>
  intro t c C;obtain⟨k,n,a,b,vs,xs,cs⟩:=t;have I:∀(l:List Tm) (c:Int),Tm.Fj l<=M->Tm.M0 (Cw (Tm.ru N) l c).1<=Tm.M0 l+Tm.H9 l * (1+M)/\Tm.Fj (Cw (Tm.ru N) l c).1<=Tm.Fj l:=by
   intro l;induction l with
   |nil=>intro c _;rw[Cw];exact⟨Nat.le_add_right _ _,Nat.le_refl _⟩
   |cons x r f=>
    intro c i;rw[Tm.Fj]at i;have g:=o x c oM;have J:=f (x.ru N c).2 oM;rw[Cw];dsimp only;rw[Tm.M0,Tm.M0,Tm.Fj,Tm.Fj,Tm.H9,Nat.add_mul];omega
  have P:∀(l:List Cs) (c:Int),Cs.Fj l<=M->Cs.M0 (QQ (Tm.ru N) l c).1<=Cs.M0 l+Cs.H9 l * (1+M)/\Cs.Fj (QQ (Tm.ru N) l c).1<=Cs.Fj l:=by
   intro l;induction l with
   |nil=>intro c _;rw[QQ];exact⟨Nat.le_add_right _ _,Nat.le_refl _⟩
   |cons x r f=>
    intro c i;obtain⟨t,ws,y⟩:=x;rw[Cs.Fj,Cs.nc]at i;have g:=o y c oM;have J:=f (y.ru N c).2 oM;rw[QQ];dsimp only;rw[Cs.M0,Cs.M0,Cs.Fj,Cs.Fj,Cs.H9,Cs.wg,Cs.wg,Cs.nc,Cs.nc,Cs.nt,Nat.add_mul];omega
  rw[Tm.nc]at C;rw[Tm.ru];split
  ·rename_i T;obtain⟨rfl,U⟩:=T;cases xs with
   |nil=>simp[Tm.PZ]at U
   |cons x r=>
    have hp:=Xx4 (JK (wr (c+1))) vs.length x.sz x (Nat.le_refl _);have j:=(SC (JK (wr (c+1))) vs.length x.sz x (Nat.le_refl _)).nt;rw[Tm.Fj]at C;have g:=I (Tm.H8 (JK (wr (c+1))) vs.length (x::r)) (wr (c+1)) (by rw[Tm.H8,Tm.Fj,hp.2];omega);generalize(Cw (Tm.ru N) (Tm.H8 (JK (wr (c+1))) vs.length (x::r)) (wr (c+1))).1=Z at g;rw[Tm.H8,Tm.M0,Tm.Fj,Tm.H9,j,hp.2]at g;dsimp only;rw[Tm.wg,if_pos (.inr rfl),Tm.wg,if_pos (.inl rfl),Tm.nc,Tm.nc,Tm.nt,if_pos rfl,Tm.M0,Tm.Fj,Tm.H9,Cs.M0,Cs.Fj];have e:(1+(x.nt+Tm.H9 r+Cs.H9 cs)) * (1+M)=(1+M)+(x.nt+Tm.H9 r) * (1+M)+Cs.H9 cs * (1+M):=by rw[Nat.add_mul,Nat.one_mul,Nat.add_mul];omega
    rw[e];omega
  ·have g:=I xs c oM;have J:=P cs (Cw (Tm.ru N) xs c).2 oM;dsimp only;rw[Tm.wg,Tm.wg,Tm.nc,Tm.nc,Tm.nt];have e:((if k=10 then 1 else 0)+(Tm.H9 xs+Cs.H9 cs)) * (1+M)=(if k=10 then 1 else 0) * (1+M)+Tm.H9 xs * (1+M)+Cs.H9 cs * (1+M):=by rw[Nat.add_mul,Nat.add_mul];omega
   rw[e];omega
theorem Jz8:∀(N:Nat) (t:Tm) (c:Int),t.Ok->(t.ru N c).1.Ok:=by
 intro N;induction N with
 |zero=>intro t c h;rw[Tm.ru];exact h
 |succ N U=>
  intro t c hO;obtain⟨k,n,a,b,vs,xs,cs⟩:=t;obtain⟨⟨o1,o2,o3⟩,⟨o4,o5,o6⟩,o7,o8⟩:=hO;have j:∀(l:List Tm) (c:Int),(Cw (Tm.ru N) l c).1.length=l.length:=by
   intro l;induction l with
   |nil=>intro c;rfl
   |cons x r g=>intro c;rw[Cw];simp[g]
  have I:∀(l:List Cs) (c:Int),(QQ (Tm.ru N) l c).1.length=l.length:=by
   intro l;induction l with
   |nil=>intro c;rfl
   |cons x r g=>intro c;obtain⟨t,ws,y⟩:=x;rw[QQ];simp[g]
  have hX:∀(l:List Tm) (c:Int),(∀x∈l,x.Ok)->∀x∈(Cw (Tm.ru N) l c).1,x.Ok:=by
   intro l;induction l with
   |nil=>intro c _ x f;cases f
   |cons y r g=>
    intro c o x f;rw[Cw]at f;rcases List.mem_cons.1 f with rfl|f
    ·exact U y c (o y (by simp))
    ·exact g _ (λz J=>o z (by simp[J])) x f
  have hC:∀(l:List Cs) (c:Int),(∀x∈l,x.Ok)->∀x∈(QQ (Tm.ru N) l c).1,x.Ok:=by
   intro l;induction l with
   |nil=>intro c _ x f;cases f
   |cons y r g=>
    intro c o x f;obtain⟨t,ws,y⟩:=y;rw[QQ]at f;rcases List.mem_cons.1 f with rfl|f
    ·obtain⟨k1,k2,k3⟩:=o (.mk t ws y) (by simp);exact⟨k1,k2,U y c k3⟩
    ·exact g _ (λz J=>o z (by simp[J])) x f
  have i:=Tm.Xz.1 o7;have P:=Cs.Xz.1 o8;rw[Tm.ru];split
  ·have C:(JK (wr (c+1))).size<=140737488355328:=by
    have:=Ew (JB (c+1));unfold JK;simp only[ByteArray.size_append];have e:(⟨#[107]⟩:ByteArray).size=1:=rfl;omega
   have hp:∀x∈Tm.H8 (JK (wr (c+1))) vs.length xs,x.Ok:=by
    cases xs with
    |nil=>intro x f;cases f
    |cons y r=>
     intro x f;rw[Tm.H8]at f;rcases List.mem_cons.1 f with rfl|f
     ·exact O3 _ _ C y.sz y (Nat.le_refl _) (i y (by simp))
     ·exact i x (by simp[f])
   have T:(Tm.H8 (JK (wr (c+1))) vs.length xs).length=xs.length:=by cases xs<;> rfl
   exact⟨⟨o1,C,o3⟩,⟨o4,by rw[j,T];exact o5,by simp⟩,Tm.Xz.2 (hX _ _ hp),Cs.Xz.2 (by simp)⟩
  ·exact⟨⟨o1,o2,o3⟩,⟨o4,by rw[j];exact o5,by rw[I];exact o6⟩,Tm.Xz.2 (hX _ _ i),Cs.Xz.2 (hC _ _ P)⟩
structure Xd3 (f:Fn):Prop where
 ok:f.body.Ok
 par:f.params.length<=6
 wg:f.body.wg<=10000000
 Y0:f.Y0=0
 nd:f.params.Nodup
theorem Ce{l:List Fn}(r:H5 l)(o:Jq l=0):(∀f∈Un l,f.body.wg<=4000000)/\(∀f∈Gm l,f.body.wg<=5000000/\f.body.nc<=1200/\f.body.nt<=1200):=by
 have J:∀f∈Un l,f.body.wg<=4000000/\f.body.nc<=1200/\f.body.nt=0:=λf i=>by
  unfold Un at i;obtain⟨g,j,rfl⟩:=List.mem_map.1 i;have C:=QR r o g j;obtain⟨x,P,rfl⟩:=List.mem_map.1 j;have T:=(ZH o).2.2.2 x P;have hr:=(M3 r o x P).2.1;obtain⟨-,t,-⟩:=Ua r o x.pl j;have hz:=T.sz;have U:=Tm.Ro x.body;have I:x.pl.body.sz<=1200:=by
   have e1:x.rn.body.sz<=400:=(T.rn hr).sz;have e2:=Tm.Hd x.rn.body 0;show(x.rn.body.pl 0).1.sz<=1200;omega
  have h2:=Jx9 1231 175 x.pl.body x.pl.params t (by have:=C.par;omega);obtain⟨-,e1,e2⟩:=BA 175 x.pl.body x.pl.params t;have a1:=x.pl.body.NB;refine⟨?_,?_,e1⟩
  ·show(x.pl.body.ow x.pl.params).wg<=_;have:x.pl.body.sz * (2 * 1231+64)<=1200 * (2 * 1231+64):=Nat.mul_le_mul_right _ I;omega
  ·show(x.pl.body.ow x.pl.params).nc<=_;rw[e2];omega
 have U:∀f∈Gm l,f.body.wg<=5000000/\f.body.nc<=1200/\f.body.nt<=1200:=λf i=>by
  unfold Gm at i;obtain⟨g,j,rfl⟩:=List.mem_map.1 i;obtain⟨k1,k2,k3⟩:=J g j;obtain⟨k4,k5⟩:=Jj7 g.body.sz g.body (Nat.le_refl _) (Zt r o g j).2.1;have k6:=Xq2 g.body.sz g.body (Nat.le_refl _) (Zd5 r o g j).1.shp.s1;exact⟨by show g.body.fu.wg<=_;omega,by show g.body.fu.nc<=_;omega,by show g.body.fu.nt<=_;omega⟩
 exact⟨λf i=>(J f i).1,U⟩
theorem Xk4{l:List Fn}(g:H5 l)(i:Jq l=0):∀f∈Un l,Xd3 f:=λf j=>by
 obtain⟨o,-,r⟩:=Zt g i f j;have h:=(Zd5 g i f j).1;exact⟨o,r,by have:=(Ce g i).1 f j;omega,h.Y0,h.nd⟩
theorem Xk3{l:List Fn}(g:H5 l)(i:Jq l=0):∀f∈Gm l,Xd3 f:=λf j=>by
 obtain⟨o,-,r⟩:=Df g i f j;have h:=Xd6 g i f j;exact⟨o,r,by have:=((Ce g i).2 f j).1;omega,h.Y0,h.nd⟩
theorem Xk2{l:List Fn}(j:H5 l)(o:Jq l=0):∀f∈Lf l,f.body.wg<=10000000:=λf i=>by
 unfold Lf at i;obtain⟨g,r,rfl⟩:=List.mem_map.1 i;obtain⟨I,t,C⟩:=(Ce j o).2 g r;have J:=(Jz4 1200 g.body.dp g.body 0 t).1;show(g.body.ru g.body.dp 0).1.wg<=_;have:g.body.nt * (1+1200)<=1200 * (1+1200):=Nat.mul_le_mul_right _ C;omega
theorem Jj4{l:List Fn}(i:H5 l)(j:Jq l=0):(∀f∈Un l,Xd3 f)/\(∀f∈Gm l,Xd3 f)/\∀f∈Lf l,Xd3 f:=by
 refine⟨Xk4 i j,Xk3 i j,λf o=>?_⟩;obtain⟨r,t⟩:=lv2 i j f o;have C:=Xk2 i j f o;unfold Lf at o;obtain⟨g,I,rfl⟩:=List.mem_map.1 o;obtain⟨J,-,P⟩:=Df i j g I;exact⟨Jz8 _ _ _ J,P,C,r,t⟩
theorem Jj2:∀(N:Nat) (t:Tm),t.sz<=N->t.Nx->∀n∈t.bd,RX n:=by
 intro N;induction N with
 |zero=>intro t h;have:=t.P8;omega
 |succ N j=>
  intro t C i n f;obtain⟨k,m,a,b,vs,xs,cs⟩:=t;rw[Tm.sz]at C;rw[Tm.bd,List.mem_append,List.mem_append]at f;rcases f with f|f|f
  ·split at f
   ·rename_i I;simp only[List.mem_singleton]at f;subst f;exact i.1 (.inr (.inl I))
   ·cases f
  ·obtain⟨x,l,g⟩:=Al.1 f;exact j x (by have:=Tm.Z4 l;omega) (Ke.1 i.2.2.1 x l) n g
  ·obtain⟨c,o,g⟩:=ZJ.1 f;have r:=S9.1 i.2.2.2 c o;obtain⟨t,ws,y⟩:=c;have J:(Cs.mk t ws y).sz<=Cs.Xv cs:=Cs.Z4 o;rw[Cs.sz]at J;rw[Cs.bd,List.mem_append]at g;rcases g with g|g
   ·exact r.1 n g
   ·exact j y oM r.2 n g
theorem Jk0{l:List Fn}(hl:H5 l)(J:Jq l=0){x:Fn}(P:x∈l){g:Fn}(hp:g.params=x.pl.params)(T:g.body.er=x.pl.body)(j:g.Y0=0)(C:g.body.Tk [])(o:g.body.Sh):FS (ZW l) g:=by
 have U:=(ZH J).2.2.2 x P;have hr:=(M3 hl J x P).2.1;have f:=U.BO hr;have i:=U.rn hr;have hw:=Ha _ 25 x.rn.body x.rn.params x.rn.params 0 0 (-151) (x.Zl hr) i.wrong (λ_ h=>h) oM (by have:=i.sz;omega) oM;have r:∀p∈x.pl.params,RX p:=λp hp=>YP (Tg i.bad p hp)
 obtain⟨hS,-⟩:=Nb _ _ x.pl.body x.pl.params (-151) (Nat.lt_succ_self _) hw r;unfold Fn.bd at f;rw[List.nodup_append]at f;obtain⟨n1,n2,n3⟩:=f;have I:g.body.bd=x.pl.body.bd:=by rw[<-Jk8 g.body.sz g.body (Nat.le_refl _) o,T]
 refine⟨j,by rw[hp];exact n1,C,⟨x.pl.params,-151,by rw[T];exact hw⟩,λn t=>⟨λhm=>?_,?_⟩,by rw[I];exact n2,by rw[hp];exact r,o⟩
 ·rw[I]at t;rw[hp]at hm;exact n3 n hm n t rfl
 ·rw[I]at t;exact Jj2 x.pl.body.sz x.pl.body (Nat.le_refl _) hS.nx n t
theorem Jk2{A:X6}{g:Fn}(h:FS A g)(f:Xd3 g):FI A g:=by
 refine⟨f.ok,f.par,f.wg,λvs j=>⟨by rw[<-Fn.Yf h.nd];exact h.Y0,h.tk,h.wr,λn i=>?_,(λn i=>by cases i),(λp hp=>by cases hp),(λb l=>by cases l)⟩⟩;have i:(J3 (g.params.map λp=>(p,(1:Int))) n).isSome=true:=i;rw[YW]at i;by_cases e:n∈g.params
 ·exact YM j [] e
 ·rw[if_neg e]at i;cases i
structure Jv4 (l m:List Fn):Prop where
 fs:∀g∈m,FS (ZW l) g
 fi:∀g∈m,FI (ZW l) g
 er:m.map Fn.er=l.map Fn.pl
 len:m.length=l.length
theorem lvR{l:List Fn}(j:H5 l)(o:Jq l=0):Jv4 l (Un l)/\Jv4 l (Gm l)/\Jv4 l (Lf l):=by
 obtain⟨a0,a1,a2⟩:=Jj4 j o;obtain⟨t0,t1,t2⟩:=Jj3 j o;have P:∀x∈l,x.pl.ow.body.er=x.pl.body:=λx f=>Fn.Qk1 x (M3 j o x f).2.1
 have C:∀x∈l,x.pl.ow∈Un l:=λx f=>by
  unfold Un;exact List.mem_map.2 ⟨_,List.mem_map.2 ⟨x,f,rfl⟩,rfl⟩
 have m1:∀x∈l,x.pl.ow.fu∈Gm l:=λx f=>by
  unfold Gm;exact List.mem_map.2 ⟨_,C x f,rfl⟩
 have m2:∀x∈l,x.pl.ow.fu.ru∈Lf l:=λx f=>by
  unfold Lf;exact List.mem_map.2 ⟨_,m1 x f,rfl⟩
 have T:∀x∈l,x.pl.ow.fu.body.er=x.pl.body:=λx f=>(Xk7 j o _ (C x f)).trans (P x f)
 have e2:∀x∈l,x.pl.ow.fu.ru.body.er=x.pl.body:=λx f=>(Xk5 j o _ (m1 x f)).trans (T x f)
 have U:Un l=l.map λx=>x.pl.ow:=by unfold Un;rw[List.map_map];rfl
 have q1:Gm l=l.map λx=>x.pl.ow.fu:=by unfold Gm;rw[U,List.map_map];rfl
 have q2:Lf l=l.map λx=>x.pl.ow.fu.ru:=by unfold Lf;rw[q1,List.map_map];rfl
 have i:∀(F:Fn->Fn) (m:List Fn),m=l.map F->(∀x∈l,(F x).name=x.pl.name/\(F x).params=x.pl.params/\(F x).body.er=x.pl.body/\(F x).body.Sh)->(∀g∈m,Xd3 g)->(∀g∈m,g.body.Tk [])->Jv4 l m:=by
  intro F m hm hF hA hT;subst hm;have t:∀g∈l.map F,FS (ZW l) g:=λg r=>by
   obtain⟨x,f,rfl⟩:=List.mem_map.1 r;obtain⟨k1,I,J,k4⟩:=hF x f;exact Jk0 j o f I J (hA _ r).Y0 (hT _ r) k4
  refine⟨t,λg r=>Jk2 (t g r) (hA g r),?_,by rw[List.length_map]⟩;rw[List.map_map];refine List.map_congr_left λx f=>?_
  obtain⟨k1,I,J,k4⟩:=hF x f;show(⟨(F x).name,(F x).params,(F x).body.er⟩:Fn)=x.pl;rw[k1,I,J]
 refine⟨i _ _ U (λx f=>⟨rfl,rfl,P x f,(Zd5 j o _ (C x f)).1.shp.sh⟩) a0 t0,i _ _ q1 (λx f=>⟨rfl,rfl,T x f,(Xd6 j o _ (m1 x f)).shp.sh⟩) a1 t1,i _ _ q2 (λx f=>⟨rfl,rfl,e2 x f,?_⟩) a2 t2⟩;exact Jz6 _ _ _ (Xd6 j o _ (m1 x f)).shp.sh
end
section
open Go.RowKit
attribute [local simp] Jb WL WQ WA VO QA Zo Pv Uw Wv Vk Vj Y4 V8 Xo V5 Gj O1 Value.oneCell' X4 Q4 Z6 Yn Nv Z5 AS.after Zz Uj K7 AV.ids ZB Q9.ids UC Qy E5 Nw Lx Kk V9 Gz D8 D6 U4 KI ZQ setAt Fz Je O4 XT L8 XU WY AV.cells Yv K9 L6 M6 AV.kill Q9.kill AV.has AV.Uv Op.operands Call.operands Qf QB X3 Km Zw Jv ZV NE Qt Mj Vv AV.ren ZU Q9.ren Q9.like kept X7 Zr AV.F7 ZC Jp JD Qo Hw AS.F7 Xf T9 Q9.F7 Sz FV Nat.ble_eq Ez E9 U6 D.U7 Xa Ij Rw H6 Ki XM O5 Bw Fx R8 Low ZX
@[simp] theorem Zd7:24<=maxLen:=by decide
def txR:ByteArray:=⟨#[40,102,110,32,102,32,40,120,41,32,40,35,49,32,120,32,40,35,50,32,120,41,41,41]⟩
def Zd3:List Fn:=(WI false txR).1
theorem Xj0:WI false txR=(Zd3,0):=by kernel_rfl
theorem Pg:H5 Zd3:=Qh2 (by kernel_rfl)
theorem Nt:Jq Zd3=0:=by kernel_rfl
theorem Zk9:GR (Un Zd3) ⟨#[102]⟩ [5] 9=⟨.mk true 1 [.mk false 5 [],.mk true 2 [.mk false 5 []]],0,2,0,2,0⟩:=by kernel_rfl
theorem Zw8:UZ ⟨[⟨1,3,[]⟩],0,0,1,0⟩ ⟨2,0⟩=(.mk true 3 [],0):=by kernel_rfl
theorem Zw9(s:Qx):((⟨[⟨1,3,[]⟩],0,0,1,0⟩:Hp).get s).2.1=[]:=by
 unfold Hp.get;split
 ·split
  ·rename_i x f;unfold Hp.at at f;split at f
   ·have g:=List.mem_of_getElem? f;simp only[List.mem_singleton]at g;rw[g]
   ·cases f
  ·rfl
 ·rfl
theorem LC:Qv Tryz.prog 5 [] (λ_=>Bv true) none:=by
 have f:=Qq9 txR;rw[Xj0]at f;unfold txR at f;have t:=TY Zd3 Pg Nt;have g:=(lvR Pg Nt).1;have i:=Bn (Un Zd3) ⟨#[102]⟩ [5] 9 (by have:=Pg.len;have:=g.len;omega) g.fi (by simp);rw[Zk9]at i;have j:=Nh ⟨[⟨1,3,[]⟩],0,0,1,0⟩ ⟨2,0⟩ (by simp) (by intro x l;simp only[List.mem_singleton]at l;subst l;show P7 3;exact⟨oM,oM⟩) (λs=>by rw[Zw9];simp);rw[Zw8]at j;clear g;generalize Un Zd3=o at *;generalize Zd3=L at *;simp only[Jx4,Ci,Aq,Dq,Xd4,List.map_cons,List.map_nil,DF,Vl.KD,Vl.n,Vl.kids,Vl.row,Vl.Q3,Qk.row]at i j;dsimp only at f;refine Qv.of Tryz.func5 rfl rfl rfl (Nat.le_of_ble_eq_true rfl) ?_;show X8 _ _ (Z7 _ Tryz.f5 _ _ _) (Z6 60 _);refine Wr ?_;refine Wg [] [.p (λ_=>.tuple [La (L.map Fn.row),Iv 0]) none] ?_;refine Wg [2] [.p (λ_=>La (o.map Fn.row)) none,.p (λ_=>.agg [Bv true,Iv 1,La [[.bool false,.int 5,.sl []],[.bool true,.int 2,.sl [[.bool false,.int 5,.sl []]]]],Iv 0,Iv 2,Iv 0,Iv 2,Iv 0]) none] ?_;refine Wg [1] [.p (λ_=>.tuple [.agg [Bv true,Iv 3,La []],Iv 0]) none] ?_;refine Wr ?_;refine Wt ?_;try dsimp only[Q8,Q5]
 apply Z7.ret
 ·rfl
 ·conv=>lhs;simp[Q7,Tryz.results5]
 rfl
theorem Ip(l:List Fn)(f:H5 l)(g:Jq l=0)(v:Int)(o:¬v<0)(r:¬2<v):∃M:List Fn,Qv Tryz.prog 8 [F4 l,Iv v] (λ_=>F4 M) none/\Jv4 l M:=by
 obtain⟨a0,i,j⟩:=lvR f g;have e:v=0\/v=1\/v=2:=oM;rcases e with rfl|rfl|rfl
 ·exact⟨Un l,TY l f g,a0⟩
 ·exact⟨Gm l,Qz2 l f g,i⟩
 ·exact⟨Lf l,Qz1 l f g,j⟩
theorem LD(l:List Fn)(v:Int)(name:ByteArray)(args:List Int)(fuel:Int)(t:H5 l)(ha:args.length<=1048576):Qv Tryz.prog 4 [F4 l,Iv v,Sv name,Ci args,Iv fuel] (λ_=>Bv true) none:=by
 have a2:=LC;have C:=TR l t;obtain⟨i,j⟩:∃c,c=Jq l:=⟨_,rfl⟩
 rw[<-j]at C;refine Qv.of Tryz.func4 rfl rfl rfl (Nat.le_of_ble_eq_true rfl) ?_;show X8 _ _ (Z7 _ Tryz.f4 _ _ _) (Z6 40 _);refine Wr ?_;refine Wg [] [.p (λ_=>Bv true) none] ?_;refine Wn ?_;refine Ws ?_;by_cases I:i=0
 ·have g:=eq_true I;by_cases o:v<0
  ·refine Wg [] [.p (λ_=>Iv i) none] ?_ (hr:=by conv=>lhs;simp[g,o]);refine Wy ?_;refine Wr ?_;refine Wt ?_;try dsimp only[Q8,Q5]
   apply Z7.ret
   ·rfl
   ·conv=>lhs;simp[Q7,Tryz.results4]
   first|rfl|simp[Zv]
  by_cases J:2<v
  ·refine Wg [] [.p (λ_=>Iv i) none] ?_ (hr:=by conv=>lhs;simp[g,o,J]);refine Wy ?_;refine Wr ?_;refine Wt ?_;try dsimp only[Q8,Q5]
   apply Z7.ret
   ·rfl
   ·conv=>lhs;simp[Q7,Tryz.results4]
   first|rfl|simp[Zv]
  refine Wg [] [.p (λ_=>Iv i) none] ?_ (hr:=by conv=>lhs;simp[g,o,J]);refine Wn ?_;refine Ws ?_;have P:Jq l=0:=j.symm.trans I;obtain⟨M,hM,f⟩:=Ip l t P v o J;have hR:=Bn M name args fuel (by have:=t.len;have:=f.len;omega) f.fi ha;obtain⟨T,U,-⟩:=Zk2 f.fs name args fuel;clear f;generalize GR M name args fuel=R at hR T U;obtain⟨⟨rc,rn,a1⟩,re,r1,r2,r3,r4⟩:=R;dsimp only at T U hR;subst T;refine Wg [] [.p (λ_=>La (M.map Fn.row)) none,.p (λ_=>.agg [Bv rc,Iv rn,La (a1.map Vl.row),Iv re,Iv r1,Iv r2,Iv r3,Iv 0]) none] ?_;by_cases q4:re=14
  ·have a3:=eq_true q4;exact absurd q4 U
  refine Wr ?_ (r:=by conv=>lhs;simp[q4]);refine Wt ?_;try dsimp only[Q8,Q5]
  apply Z7.ret
  ·rfl
  ·conv=>lhs;simp[Q7,Tryz.results4]
  first|rfl|simp[Zv]
 refine Wg [] [.p (λ_=>Iv i) none] ?_ (hr:=by conv=>lhs;simp[I]);refine Wy ?_;refine Wr ?_;refine Wt ?_;try dsimp only[Q8,Q5]
 apply Z7.ret
 ·rfl
 ·conv=>lhs;simp[Q7,Tryz.results4]
 first|rfl|simp[Zv]
end
end Go.Proofs.YtnddiddkmhiclaaGreatDoor
