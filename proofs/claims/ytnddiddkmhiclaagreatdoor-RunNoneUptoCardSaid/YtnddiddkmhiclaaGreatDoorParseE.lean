import Derived.Test.YtnddiddkmhiclaaGreatDoorOwnA
set_option maxRecDepth 20000
set_option maxHeartbeats 16000000
set_option linter.unusedVariables false
set_option linter.unusedSimpArgs false
namespace Go.Proofs.YtnddiddkmhiclaaGreatDoor
open Go.RowKit
attribute [local simp] Jb WL WQ WA VO QA Zo Pv Uw Wv Vk Vj Y4 V8 Xo V5 Gj O1 Value.oneCell' X4 Q4 Z6 Yn Nv Z5 AS.after Zz Uj K7 AV.ids ZB Q9.ids UC Qy E5 Nw Lx Kk V9 Gz D8 D6 U4 KI ZQ setAt Fz Je O4 XT L8 XU WY AV.cells Yv K9 L6 M6 AV.kill Q9.kill AV.has AV.Uv Op.operands Call.operands Qf QB X3 Km Zw Jv ZV NE Qt Mj Vv AV.ren ZU Q9.ren Q9.like kept X7 Zr AV.F7 ZC Jp JD Qo Hw AS.F7 Xf T9 Q9.F7 Sz FV Nat.ble_eq Ez E9 U6 D.U7 Xa Ij Rw H6 Ki XM O5 Bw Fx R8 Low ZX
def Fn.rn(f:Fn):Fn:=⟨f.name,Y5 f.params 0,(f.body.rn (f.params.zip (Y5 f.params 0)) (Rz f.params 0)).1⟩
abbrev XN:Fn->AV
 |⟨g,ps,.mk k n a b vs xs cs⟩=>.agg [Sv g,.d (Q6 ps),Iv k,Iv n,Sv a,Sv b,.d (Q6 vs),La (xs.map Tm.row),La (cs.map Cs.row)]
theorem Qz0(f:Fn)(hb:f.body.Ok)(hr:f.body.Rt 25)(hp:f.params.length<=6):Qv Tryz.prog 42 [XN f] (λ_=>XN f.rn) none:=by
 have i:=Fa f.params 0 hp;have hl:=Hq f.params 0;have j:=Qx7 25 f.body (f.params.zip (Y5 f.params 0)) (Rz f.params 0) hr hb (by rw[List.length_zip];omega);unfold Fn.rn;obtain⟨fg,g,U⟩:=f;dsimp only at *;generalize Rz g 0=e at i j⊢;generalize Y5 g 0=us at i j hl⊢;generalize g.zip us=l at i j⊢;generalize U.rn l e=o at j⊢;obtain⟨z,c2⟩:=o;dsimp only at *;obtain⟨fk,fn,fa,fb,t,C,I⟩:=U;obtain⟨zk,zn,za,zb,J,P,T⟩:=z;refine Qv.of Tryz.func42 rfl rfl rfl (Nat.le_of_ble_eq_true rfl) ?_;show X8 _ _ (Z7 _ Tryz.f42 _ _ _) (Z6 24 _);refine Wr ?_ (r:=by conv=>lhs;simp[XN]);refine Wr ?_;refine Wg [] [.c [(1000,7)] [.ptr 1000 0,.d (Q6 g)] [(1000,.blk 118 [Iv 0])] (.tuple [.d (Q6 us),La (l.map Gb)]) [(1000,.blk 118 [Iv e])]] ?_;refine Wz [] [.c [(1000,7)] [.ptr 1000 0,.agg [Iv fk,Iv fn,Sv fa,Sv fb,.d (Q6 t),La (C.map Tm.row),La (I.map Cs.row)],La (l.map Gb)] [(1000,.blk 118 [Iv e])] (.agg [Iv zk,Iv zn,Sv za,Sv zb,.d (Q6 J),La (P.map Tm.row),La (T.map Cs.row)]) [(1000,.blk 118 [Iv c2])]] mixed ?_;refine Wt ?_;try dsimp only[Q8,Q5]
 apply Z7.ret
 ·rfl
 ·conv=>lhs;simp[Q7,Tryz.results42]
 rfl
theorem WK{s:ByteArray}:∀{l:List Tm} {f:List ByteArray},s∈Dx f l->∃x∈l,s=x.nm
 |[],f,h=>by simp[Dx]at h
 |x::r,f,h=>by
  rw[Dx]at h;split at h
  ·rcases List.mem_cons.1 h with h|h
   ·exact⟨x,List.mem_cons_self ..,h⟩
   ·obtain⟨y,g,e⟩:=WK h;exact⟨y,List.mem_cons_of_mem _ g,e⟩
  ·obtain⟨y,g,e⟩:=WK h;exact⟨y,List.mem_cons_of_mem _ g,e⟩
theorem Tm.Ok.nm{x:Tm}(h:x.Ok):x.nm.size<=140737488355328:=by
 obtain⟨k,n,a,b,vs,xs,cs⟩:=x;exact h.1.1
theorem Tm.Fit.cs{k n:Int}{a b:ByteArray}{vs:List ByteArray}{xs:List Tm}{cs:List Cs}(h:(Tm.mk k n a b vs xs cs).Fit):∀c∈cs,(∀s∈c.2,s.size<=140737488355328)/\c.3.Fit:=λc f=>by
 obtain⟨t,ws,x⟩:=c;have g:=Cs.Xz.1 h.ok.2.2.2 _ f;exact⟨g.1,(h.case f).1⟩
structure Fn.Pt (f:Fn):Prop where
 rt:f.body.Rt 175
 fit:f.body.Fit
 par:f.params.length<=6
 pars:∀s∈f.params,s.size<=140737488355328
theorem OY(a:Tm):a.row.length=7:=by cases a;simp[Tm.row]
def OdN(N:Nat):Prop:=∀(t:Tm) (has:List ByteArray),t.Rt N->t.Fit->has.length+6 * N<=100000->(∀s∈has,s.size<=140737488355328)->
 Qv Tryz.prog 44 [Y3 t,Xw has] (λ_=>Y3 (t.ow has)) none
theorem Zv3(N:Nat)(ih:OdN N):OdN (N+1):=by
 intro t has g7 hF j1 g8;obtain⟨R,hR⟩:∃R,R=t.ow has:=⟨_,rfl⟩
 rw[<-hR];obtain⟨rk,rn,ra,rb,c4,c5,c6⟩:=R;have g9:=XX t hF;have h0:t.free.length<=1048576:=Nat.le_trans (Tm.Mw t) hF.sz;obtain⟨tk,tn,ta,tb,J,f,o⟩:=t;obtain⟨j2,a5,h6,f3,h1⟩:=g7;have e2:∀x∈f,x.Fit:=λx hx=>hF.arg hx
 rw[Tm.ow]at hR;generalize(Tm.mk tk tn ta tb J f o).free=fr at g9 h0 hR;have e3:=VP has fr oM oM;have e4:=JP has fr oM oM;have h2:=Sq has fr;have h3:=N8 has fr;have d7:∀s∈Uq has fr,s.size<=140737488355328:=λs hs=>g8 s (List.mem_filter.1 hs).1
 generalize Rv has fr=G at e3 h2 hR;generalize Uq has fr=own at e4 h3 d7 hR;refine Qv.of Tryz.func44 rfl rfl rfl (Nat.le_of_ble_eq_true rfl) ?_;show X8 _ _ (Z7 _ Tryz.f44 _ _ _) (Z6 186 _);refine Wr ?_;refine Wg [1] [.p (λd=>.arr d 0 fr.length) (some (.arr 9 1 (fr.map Jj)))] ?_;refine Wg [] [.p (λ_=>.d (Q6 G)) none,.p (λ_=>.d (Q6 own)) none] ?_;refine Wr ?_;refine Wr ?_;by_cases q1:tk=3
 ·refine Wr ?_ (r:=by conv=>lhs;simp[q1]);refine Wy ?_;refine Ws ?_;refine Wy ?_;subst q1;rw[if_pos oM]at hR;refine Wr ?_;refine Wr ?_;refine Wb ?_;refine X8.le (Le.low [400] [] (fr:=[(2,.ptr 2 0),(4,.ptr 4 0),(6,.d (Q6 G)),(7,.ptr 7 0),(8,.arr 400 0 ([]:List ByteArray).length),(37,La (f.map Tm.row)),(38,Iv (f.length:Int)),(39,Iv (0:Int))]) (mem:=[(2,some (.blk 54 [Iv 3,Iv tn,Sv ta,Sv tb,.d (Q6 J),La (f.map Tm.row),La (o.map Cs.row)])),(4,some (.blk 54 [Iv 0,Iv 0,Sv .empty,Sv .empty,.lit (.slice none 0 0),.lit (.slice none 0 0),.lit (.slice none 0 0)])),(7,some (.blk 54 [Iv 3,Iv tn,Sv ta,Sv tb,.d (Q6 J),La (f.map Tm.row),La (o.map Cs.row)])),(400,some (.arr 9 1 (([]:List ByteArray).map Jj)))]) rfl (by simp) (by simp)) ?_;refine Wl (σ:=λu:{u:Nat×List ByteArray // u.1<=f.length/\(Dx [] f=u.2++Dx ((f.take u.1).map Tm.nm) (f.drop u.1)/\u.2.length<=u.1)}=>⟨186,[(2,.ptr 2 0),(4,.ptr 4 0),(6,.d (Q6 G)),(7,.ptr 7 0),(8,.arr 400 0 u.1.2.length),(37,La (f.map Tm.row)),(38,Iv (f.length:Int)),(39,Iv (u.1.1:Int))],[(2,some (.blk 54 [Iv 3,Iv tn,Sv ta,Sv tb,.d (Q6 J),La (f.map Tm.row),La (o.map Cs.row)])),(4,some (.blk 54 [Iv 0,Iv 0,Sv .empty,Sv .empty,.lit (.slice none 0 0),.lit (.slice none 0 0),.lit (.slice none 0 0)])),(7,some (.blk 54 [Iv 3,Iv tn,Sv ta,Sv tb,.d (Q6 J),La (f.map Tm.row),La (o.map Cs.row)])),(400,some (.arr 9 1 (u.1.2.map Jj)))]⟩)
   (μ:=λu=>f.length-u.1.1) ⟨(0,[]),⟨Nat.zero_le _,⟨by simp,Nat.le_refl _⟩⟩⟩ (Le.sub (by simp) (by simp)) (λ⟨(i,us),⟨c1,hw⟩⟩=>?_)
  dsimp only at c1 hw⊢;refine Wr ?_;refine Wb ?_;refine Wc rfl (λhc=>?_) (λhc=>?_)
  ·have g:i<f.length:=by have:=of_decide_eq_true hc;omega
   clear hc;have a4:f[i]? =some f[i]:=List.getElem?_eq_getElem g;have c8:f[i]∈f:=List.getElem_mem g;have c2:f.drop i=f[i]::f.drop (i+1):=List.drop_eq_getElem_cons g;generalize f[i]=y at a4 c8 c2;obtain⟨C,c9⟩:=hw;rw[c2,Dx]at C;obtain⟨yk,yn,ya,yb,a7,a8,a9⟩:=y;rw[Tm.nm]at C;obtain⟨I,a2⟩:∃I,I=f.take i:=⟨_,rfl⟩
   have e0:I.length=i:=by rw[a2,List.length_take];omega
   have d0:List.take i (List.map Tm.row f)=List.map Tm.row I:=by rw[a2,List.map_take]
   rw[<-a2]at C;have f4:∀(i:Nat) (a:Tm),f[i]? =some a->a.row.length=7:=λ_ a _=>OY a
   have a6:=g;refine Ws ?_;refine Wr ?_ (r:=by conv=>lhs;simp[Tm.row,Tm.Q3,Cs.Q3,a4]);refine Wr ?_ (r:=by conv=>lhs;simp[d0]);refine Wb ?_;refine Wl (σ:=λu:{u:Nat // u<=I.length/\∀z∈I.take u,z.nm≠ya}=>⟨186,[(2,.ptr 2 0),(4,.ptr 4 0),(6,.d (Q6 G)),(7,.ptr 7 0),(8,.arr 400 0 us.length),(10,.ptr 10 0),(37,La (f.map Tm.row)),(38,Iv (f.length:Int)),(39,Iv (i:Int)),(47,La (I.map Tm.row)),(48,Iv (I.length:Int)),(49,Iv (u.1:Int))],[(2,some (.blk 54 [Iv 3,Iv tn,Sv ta,Sv tb,.d (Q6 J),La (f.map Tm.row),La (o.map Cs.row)])),(4,some (.blk 54 [Iv 0,Iv 0,Sv .empty,Sv .empty,.lit (.slice none 0 0),.lit (.slice none 0 0),.lit (.slice none 0 0)])),(7,some (.blk 54 [Iv 3,Iv tn,Sv ta,Sv tb,.d (Q6 J),La (f.map Tm.row),La (o.map Cs.row)])),(10,some (.blk 54 [Iv yk,Iv yn,Sv ya,Sv yb,.d (Q6 a7),La (a8.map Tm.row),La (a9.map Cs.row)])),(400,some (.arr 9 1 (us.map Jj)))]⟩)
    (μ:=λu=>I.length-u.1) ⟨0,⟨Nat.zero_le _,by simp⟩⟩ (Le.sub (by simp) (by simp)) (λ⟨j,⟨e1,b0⟩⟩=>?_)
   dsimp only;refine Wr ?_;refine Wb ?_;refine Wc rfl (λhc=>?_) (λhc=>?_)
   ·have g:j<I.length:=by have:=of_decide_eq_true hc;omega
    clear hc;have b1:I[j]? =some I[j]:=List.getElem?_eq_getElem g;have c3:I[j]∈I:=List.getElem_mem g;have d1:I.drop j=I[j]::I.drop (j+1):=List.drop_eq_getElem_cons g;generalize I[j]=b at b1 c3 d1;obtain⟨bk,bn,ba,bb,f5,f6,f7⟩:=b;refine Ws ?_;refine Wr ?_ (r:=by conv=>lhs;simp[Tm.row,Tm.Q3,Cs.Q3,b1]);by_cases q2:ba=ya
    ·refine Wr ?_ (r:=by conv=>lhs;simp[q2]);refine Wy ?_;have hq:hasB (I.map Tm.nm) ya=true:=X9.2 (List.mem_map.2 ⟨_,c3,by rw[Tm.nm];exact q2⟩);rw[hq]at C;simp only[if_true]at C;refine Wr ?_;refine We ?_;refine Wr ?_;have g:=a6;refine⟨⟨(i+1,us++[ya]),g,⟨by rw[C,List.take_add_one,a4,List.map_append,<-a2];simp[Tm.nm],by dsimp only;first|omega|(simp;omega)⟩⟩,by simp;omega,?_⟩;dsimp only;exact Le.sub (by simp) (by simp)
    refine Wr ?_ (r:=by conv=>lhs;simp[q2]);refine Wn ?_;refine Ws ?_;refine Wr ?_;refine⟨⟨j+1,g,(λz hz=>by rw[List.take_add_one,b1]at hz;rcases List.mem_append.1 hz with hz|hz;exact b0 z hz;rw[List.mem_singleton.1 hz,Tm.nm];exact q2)⟩,by simp;omega,?_⟩;dsimp only;exact Le.sub (by simp) (by simp)
   have g:j=I.length:=by have:=of_decide_eq_false hc;omega
   subst g;clear hc;rw[List.take_length]at b0;have hq:hasB (I.map Tm.nm) ya=false:=Av.2 λh=>by
    obtain⟨z,hz,e⟩:=List.mem_map.1 h;exact b0 z hz e
   rw[hq]at C;simp only[Bool.false_eq_true,if_false]at C;refine We ?_;refine Wr ?_;have g:=a6;refine⟨⟨(i+1,us),g,⟨by rw[C,List.take_add_one,a4,List.map_append,<-a2];simp[Tm.nm],by dsimp only;first|omega|(simp;omega)⟩⟩,by simp;omega,?_⟩;dsimp only;exact Le.sub (by simp) (by simp)
  have g:i=f.length:=by have:=of_decide_eq_false hc;omega
  subst g;clear hc;obtain⟨C,c9⟩:=hw;rw[List.drop_length,Dx,List.append_nil]at C;refine We ?_;apply X8.Hw [400]
  ·conv=>lhs;simp
  have d2:=XF f [];rw[C]at hR d2;have hd:=G7 8 us 3 tn ta tb J f o oM;generalize cnt 8 us (.mk 3 tn ta tb J f o)=e at hd hR;obtain⟨ek,en,ea,eb,P,T,a1⟩:=e;have hg:=G7 9 G ek en ea eb P T a1 oM;generalize cnt 9 G (.mk ek en ea eb P T a1)=r at hg hR;subst hR;refine Wg [] [.p (λ_=>.agg [Iv ek,Iv en,Sv ea,Sv eb,.d (Q6 P),La (T.map Tm.row),La (a1.map Cs.row)]) none] ?_;refine Wg [] [.p (λ_=>.agg [Iv rk,Iv rn,Sv ra,Sv rb,.d (Q6 c4),La (c5.map Tm.row),La (c6.map Cs.row)]) none] ?_;refine Wt ?_;try dsimp only[Q8,Q5]
  apply Z7.ret
  ·rfl
  ·conv=>lhs;simp[Q7,Tryz.results44]
  first|rfl|simp[Zv,Y3,Tm.row,Tm.Q3,Cs.Q3,AV.Jk,K5,Q6]
 refine Wr ?_ (r:=by conv=>lhs;simp[q1]);refine Wn ?_;by_cases q3:tk=4
 ·refine Wr ?_ (r:=by conv=>lhs;simp[q3]);refine Wy ?_;refine Ws ?_;refine Wy ?_;subst q3;rw[if_pos oM]at hR;refine Wr ?_;refine Wr ?_;refine Wb ?_;refine X8.le (Le.low [400] [] (fr:=[(2,.ptr 2 0),(4,.ptr 4 0),(6,.d (Q6 G)),(7,.ptr 7 0),(8,.arr 400 0 ([]:List ByteArray).length),(37,La (f.map Tm.row)),(38,Iv (f.length:Int)),(39,Iv (0:Int))]) (mem:=[(2,some (.blk 54 [Iv 4,Iv tn,Sv ta,Sv tb,.d (Q6 J),La (f.map Tm.row),La (o.map Cs.row)])),(4,some (.blk 54 [Iv 0,Iv 0,Sv .empty,Sv .empty,.lit (.slice none 0 0),.lit (.slice none 0 0),.lit (.slice none 0 0)])),(7,some (.blk 54 [Iv 4,Iv tn,Sv ta,Sv tb,.d (Q6 J),La (f.map Tm.row),La (o.map Cs.row)])),(400,some (.arr 9 1 (([]:List ByteArray).map Jj)))]) rfl (by simp) (by simp)) ?_;refine Wl (σ:=λu:{u:Nat×List ByteArray // u.1<=f.length/\(Dx [] f=u.2++Dx ((f.take u.1).map Tm.nm) (f.drop u.1)/\u.2.length<=u.1)}=>⟨186,[(2,.ptr 2 0),(4,.ptr 4 0),(6,.d (Q6 G)),(7,.ptr 7 0),(8,.arr 400 0 u.1.2.length),(37,La (f.map Tm.row)),(38,Iv (f.length:Int)),(39,Iv (u.1.1:Int))],[(2,some (.blk 54 [Iv 4,Iv tn,Sv ta,Sv tb,.d (Q6 J),La (f.map Tm.row),La (o.map Cs.row)])),(4,some (.blk 54 [Iv 0,Iv 0,Sv .empty,Sv .empty,.lit (.slice none 0 0),.lit (.slice none 0 0),.lit (.slice none 0 0)])),(7,some (.blk 54 [Iv 4,Iv tn,Sv ta,Sv tb,.d (Q6 J),La (f.map Tm.row),La (o.map Cs.row)])),(400,some (.arr 9 1 (u.1.2.map Jj)))]⟩)
   (μ:=λu=>f.length-u.1.1) ⟨(0,[]),⟨Nat.zero_le _,⟨by simp,Nat.le_refl _⟩⟩⟩ (Le.sub (by simp) (by simp)) (λ⟨(i,us),⟨c1,hw⟩⟩=>?_)
  dsimp only at c1 hw⊢;refine Wr ?_;refine Wb ?_;refine Wc rfl (λhc=>?_) (λhc=>?_)
  ·have g:i<f.length:=by have:=of_decide_eq_true hc;omega
   clear hc;have a4:f[i]? =some f[i]:=List.getElem?_eq_getElem g;have c8:f[i]∈f:=List.getElem_mem g;have c2:f.drop i=f[i]::f.drop (i+1):=List.drop_eq_getElem_cons g;generalize f[i]=y at a4 c8 c2;obtain⟨C,c9⟩:=hw;rw[c2,Dx]at C;obtain⟨yk,yn,ya,yb,a7,a8,a9⟩:=y;rw[Tm.nm]at C;obtain⟨I,a2⟩:∃I,I=f.take i:=⟨_,rfl⟩
   have e0:I.length=i:=by rw[a2,List.length_take];omega
   have d0:List.take i (List.map Tm.row f)=List.map Tm.row I:=by rw[a2,List.map_take]
   rw[<-a2]at C;have f4:∀(i:Nat) (a:Tm),f[i]? =some a->a.row.length=7:=λ_ a _=>OY a
   have a6:=g;refine Ws ?_;refine Wr ?_ (r:=by conv=>lhs;simp[Tm.row,Tm.Q3,Cs.Q3,a4]);refine Wr ?_ (r:=by conv=>lhs;simp[d0]);refine Wb ?_;refine Wl (σ:=λu:{u:Nat // u<=I.length/\∀z∈I.take u,z.nm≠ya}=>⟨186,[(2,.ptr 2 0),(4,.ptr 4 0),(6,.d (Q6 G)),(7,.ptr 7 0),(8,.arr 400 0 us.length),(10,.ptr 10 0),(37,La (f.map Tm.row)),(38,Iv (f.length:Int)),(39,Iv (i:Int)),(47,La (I.map Tm.row)),(48,Iv (I.length:Int)),(49,Iv (u.1:Int))],[(2,some (.blk 54 [Iv 4,Iv tn,Sv ta,Sv tb,.d (Q6 J),La (f.map Tm.row),La (o.map Cs.row)])),(4,some (.blk 54 [Iv 0,Iv 0,Sv .empty,Sv .empty,.lit (.slice none 0 0),.lit (.slice none 0 0),.lit (.slice none 0 0)])),(7,some (.blk 54 [Iv 4,Iv tn,Sv ta,Sv tb,.d (Q6 J),La (f.map Tm.row),La (o.map Cs.row)])),(10,some (.blk 54 [Iv yk,Iv yn,Sv ya,Sv yb,.d (Q6 a7),La (a8.map Tm.row),La (a9.map Cs.row)])),(400,some (.arr 9 1 (us.map Jj)))]⟩)
    (μ:=λu=>I.length-u.1) ⟨0,⟨Nat.zero_le _,by simp⟩⟩ (Le.sub (by simp) (by simp)) (λ⟨j,⟨e1,b0⟩⟩=>?_)
   dsimp only;refine Wr ?_;refine Wb ?_;refine Wc rfl (λhc=>?_) (λhc=>?_)
   ·have g:j<I.length:=by have:=of_decide_eq_true hc;omega
    clear hc;have b1:I[j]? =some I[j]:=List.getElem?_eq_getElem g;have c3:I[j]∈I:=List.getElem_mem g;have d1:I.drop j=I[j]::I.drop (j+1):=List.drop_eq_getElem_cons g;generalize I[j]=b at b1 c3 d1;obtain⟨bk,bn,ba,bb,f5,f6,f7⟩:=b;refine Ws ?_;refine Wr ?_ (r:=by conv=>lhs;simp[Tm.row,Tm.Q3,Cs.Q3,b1]);by_cases q4:ba=ya
    ·refine Wr ?_ (r:=by conv=>lhs;simp[q4]);refine Wy ?_;have hq:hasB (I.map Tm.nm) ya=true:=X9.2 (List.mem_map.2 ⟨_,c3,by rw[Tm.nm];exact q4⟩);rw[hq]at C;simp only[if_true]at C;refine Wr ?_;refine We ?_;refine Wr ?_;have g:=a6;refine⟨⟨(i+1,us++[ya]),g,⟨by rw[C,List.take_add_one,a4,List.map_append,<-a2];simp[Tm.nm],by dsimp only;first|omega|(simp;omega)⟩⟩,by simp;omega,?_⟩;dsimp only;exact Le.sub (by simp) (by simp)
    refine Wr ?_ (r:=by conv=>lhs;simp[q4]);refine Wn ?_;refine Ws ?_;refine Wr ?_;refine⟨⟨j+1,g,(λz hz=>by rw[List.take_add_one,b1]at hz;rcases List.mem_append.1 hz with hz|hz;exact b0 z hz;rw[List.mem_singleton.1 hz,Tm.nm];exact q4)⟩,by simp;omega,?_⟩;dsimp only;exact Le.sub (by simp) (by simp)
   have g:j=I.length:=by have:=of_decide_eq_false hc;omega
   subst g;clear hc;rw[List.take_length]at b0;have hq:hasB (I.map Tm.nm) ya=false:=Av.2 λh=>by
    obtain⟨z,hz,e⟩:=List.mem_map.1 h;exact b0 z hz e
   rw[hq]at C;simp only[Bool.false_eq_true,if_false]at C;refine We ?_;refine Wr ?_;have g:=a6;refine⟨⟨(i+1,us),g,⟨by rw[C,List.take_add_one,a4,List.map_append,<-a2];simp[Tm.nm],by dsimp only;first|omega|(simp;omega)⟩⟩,by simp;omega,?_⟩;dsimp only;exact Le.sub (by simp) (by simp)
  have g:i=f.length:=by have:=of_decide_eq_false hc;omega
  subst g;clear hc;obtain⟨C,c9⟩:=hw;rw[List.drop_length,Dx,List.append_nil]at C;refine We ?_;apply X8.Hw [400]
  ·conv=>lhs;simp
  have d2:=XF f [];rw[C]at hR d2;have hd:=G7 8 us 4 tn ta tb J f o oM;generalize cnt 8 us (.mk 4 tn ta tb J f o)=e at hd hR;obtain⟨ek,en,ea,eb,P,T,a1⟩:=e;have hg:=G7 9 G ek en ea eb P T a1 oM;generalize cnt 9 G (.mk ek en ea eb P T a1)=r at hg hR;subst hR;refine Wg [] [.p (λ_=>.agg [Iv ek,Iv en,Sv ea,Sv eb,.d (Q6 P),La (T.map Tm.row),La (a1.map Cs.row)]) none] ?_;refine Wg [] [.p (λ_=>.agg [Iv rk,Iv rn,Sv ra,Sv rb,.d (Q6 c4),La (c5.map Tm.row),La (c6.map Cs.row)]) none] ?_;refine Wt ?_;try dsimp only[Q8,Q5]
  apply Z7.ret
  ·rfl
  ·conv=>lhs;simp[Q7,Tryz.results44]
  first|rfl|simp[Zv,Y3,Tm.row,Tm.Q3,Cs.Q3,AV.Jk,K5,Q6]
 refine Wr ?_ (r:=by conv=>lhs;simp[q3]);refine Wn ?_;by_cases q5:tk=5
 ·refine Wr ?_ (r:=by conv=>lhs;simp[q5]);refine Wy ?_;subst q5;rw[if_pos oM]at hR;refine Wr ?_;refine Wr ?_;refine Wb ?_;refine X8.le (Le.low [400] [] (fr:=[(2,.ptr 2 0),(4,.ptr 4 0),(6,.d (Q6 G)),(7,.ptr 7 0),(8,.arr 400 0 ([]:List ByteArray).length),(37,La (f.map Tm.row)),(38,Iv (f.length:Int)),(39,Iv (0:Int))]) (mem:=[(2,some (.blk 54 [Iv 5,Iv tn,Sv ta,Sv tb,.d (Q6 J),La (f.map Tm.row),La (o.map Cs.row)])),(4,some (.blk 54 [Iv 0,Iv 0,Sv .empty,Sv .empty,.lit (.slice none 0 0),.lit (.slice none 0 0),.lit (.slice none 0 0)])),(7,some (.blk 54 [Iv 5,Iv tn,Sv ta,Sv tb,.d (Q6 J),La (f.map Tm.row),La (o.map Cs.row)])),(400,some (.arr 9 1 (([]:List ByteArray).map Jj)))]) rfl (by simp) (by simp)) ?_;refine Wl (σ:=λu:{u:Nat×List ByteArray // u.1<=f.length/\(Dx [] f=u.2++Dx ((f.take u.1).map Tm.nm) (f.drop u.1)/\u.2.length<=u.1)}=>⟨186,[(2,.ptr 2 0),(4,.ptr 4 0),(6,.d (Q6 G)),(7,.ptr 7 0),(8,.arr 400 0 u.1.2.length),(37,La (f.map Tm.row)),(38,Iv (f.length:Int)),(39,Iv (u.1.1:Int))],[(2,some (.blk 54 [Iv 5,Iv tn,Sv ta,Sv tb,.d (Q6 J),La (f.map Tm.row),La (o.map Cs.row)])),(4,some (.blk 54 [Iv 0,Iv 0,Sv .empty,Sv .empty,.lit (.slice none 0 0),.lit (.slice none 0 0),.lit (.slice none 0 0)])),(7,some (.blk 54 [Iv 5,Iv tn,Sv ta,Sv tb,.d (Q6 J),La (f.map Tm.row),La (o.map Cs.row)])),(400,some (.arr 9 1 (u.1.2.map Jj)))]⟩)
   (μ:=λu=>f.length-u.1.1) ⟨(0,[]),⟨Nat.zero_le _,⟨by simp,Nat.le_refl _⟩⟩⟩ (Le.sub (by simp) (by simp)) (λ⟨(i,us),⟨c1,hw⟩⟩=>?_)
  dsimp only at c1 hw⊢;refine Wr ?_;refine Wb ?_;refine Wc rfl (λhc=>?_) (λhc=>?_)
  ·have g:i<f.length:=by have:=of_decide_eq_true hc;omega
   clear hc;have a4:f[i]? =some f[i]:=List.getElem?_eq_getElem g;have c8:f[i]∈f:=List.getElem_mem g;have c2:f.drop i=f[i]::f.drop (i+1):=List.drop_eq_getElem_cons g;generalize f[i]=y at a4 c8 c2;obtain⟨C,c9⟩:=hw;rw[c2,Dx]at C;obtain⟨yk,yn,ya,yb,a7,a8,a9⟩:=y;rw[Tm.nm]at C;obtain⟨I,a2⟩:∃I,I=f.take i:=⟨_,rfl⟩
   have e0:I.length=i:=by rw[a2,List.length_take];omega
   have d0:List.take i (List.map Tm.row f)=List.map Tm.row I:=by rw[a2,List.map_take]
   rw[<-a2]at C;have f4:∀(i:Nat) (a:Tm),f[i]? =some a->a.row.length=7:=λ_ a _=>OY a
   have a6:=g;refine Ws ?_;refine Wr ?_ (r:=by conv=>lhs;simp[Tm.row,Tm.Q3,Cs.Q3,a4]);refine Wr ?_ (r:=by conv=>lhs;simp[d0]);refine Wb ?_;refine Wl (σ:=λu:{u:Nat // u<=I.length/\∀z∈I.take u,z.nm≠ya}=>⟨186,[(2,.ptr 2 0),(4,.ptr 4 0),(6,.d (Q6 G)),(7,.ptr 7 0),(8,.arr 400 0 us.length),(10,.ptr 10 0),(37,La (f.map Tm.row)),(38,Iv (f.length:Int)),(39,Iv (i:Int)),(47,La (I.map Tm.row)),(48,Iv (I.length:Int)),(49,Iv (u.1:Int))],[(2,some (.blk 54 [Iv 5,Iv tn,Sv ta,Sv tb,.d (Q6 J),La (f.map Tm.row),La (o.map Cs.row)])),(4,some (.blk 54 [Iv 0,Iv 0,Sv .empty,Sv .empty,.lit (.slice none 0 0),.lit (.slice none 0 0),.lit (.slice none 0 0)])),(7,some (.blk 54 [Iv 5,Iv tn,Sv ta,Sv tb,.d (Q6 J),La (f.map Tm.row),La (o.map Cs.row)])),(10,some (.blk 54 [Iv yk,Iv yn,Sv ya,Sv yb,.d (Q6 a7),La (a8.map Tm.row),La (a9.map Cs.row)])),(400,some (.arr 9 1 (us.map Jj)))]⟩)
    (μ:=λu=>I.length-u.1) ⟨0,⟨Nat.zero_le _,by simp⟩⟩ (Le.sub (by simp) (by simp)) (λ⟨j,⟨e1,b0⟩⟩=>?_)
   dsimp only;refine Wr ?_;refine Wb ?_;refine Wc rfl (λhc=>?_) (λhc=>?_)
   ·have g:j<I.length:=by have:=of_decide_eq_true hc;omega
    clear hc;have b1:I[j]? =some I[j]:=List.getElem?_eq_getElem g;have c3:I[j]∈I:=List.getElem_mem g;have d1:I.drop j=I[j]::I.drop (j+1):=List.drop_eq_getElem_cons g;generalize I[j]=b at b1 c3 d1;obtain⟨bk,bn,ba,bb,f5,f6,f7⟩:=b;refine Ws ?_;refine Wr ?_ (r:=by conv=>lhs;simp[Tm.row,Tm.Q3,Cs.Q3,b1]);by_cases q6:ba=ya
    ·refine Wr ?_ (r:=by conv=>lhs;simp[q6]);refine Wy ?_;have hq:hasB (I.map Tm.nm) ya=true:=X9.2 (List.mem_map.2 ⟨_,c3,by rw[Tm.nm];exact q6⟩);rw[hq]at C;simp only[if_true]at C;refine Wr ?_;refine We ?_;refine Wr ?_;have g:=a6;refine⟨⟨(i+1,us++[ya]),g,⟨by rw[C,List.take_add_one,a4,List.map_append,<-a2];simp[Tm.nm],by dsimp only;first|omega|(simp;omega)⟩⟩,by simp;omega,?_⟩;dsimp only;exact Le.sub (by simp) (by simp)
    refine Wr ?_ (r:=by conv=>lhs;simp[q6]);refine Wn ?_;refine Ws ?_;refine Wr ?_;refine⟨⟨j+1,g,(λz hz=>by rw[List.take_add_one,b1]at hz;rcases List.mem_append.1 hz with hz|hz;exact b0 z hz;rw[List.mem_singleton.1 hz,Tm.nm];exact q6)⟩,by simp;omega,?_⟩;dsimp only;exact Le.sub (by simp) (by simp)
   have g:j=I.length:=by have:=of_decide_eq_false hc;omega
   subst g;clear hc;rw[List.take_length]at b0;have hq:hasB (I.map Tm.nm) ya=false:=Av.2 λh=>by
    obtain⟨z,hz,e⟩:=List.mem_map.1 h;exact b0 z hz e
   rw[hq]at C;simp only[Bool.false_eq_true,if_false]at C;refine We ?_;refine Wr ?_;have g:=a6;refine⟨⟨(i+1,us),g,⟨by rw[C,List.take_add_one,a4,List.map_append,<-a2];simp[Tm.nm],by dsimp only;first|omega|(simp;omega)⟩⟩,by simp;omega,?_⟩;dsimp only;exact Le.sub (by simp) (by simp)
  have g:i=f.length:=by have:=of_decide_eq_false hc;omega
  subst g;clear hc;obtain⟨C,c9⟩:=hw;rw[List.drop_length,Dx,List.append_nil]at C;refine We ?_;apply X8.Hw [400]
  ·conv=>lhs;simp
  have d2:=XF f [];rw[C]at hR d2;have hd:=G7 8 us 5 tn ta tb J f o oM;generalize cnt 8 us (.mk 5 tn ta tb J f o)=e at hd hR;obtain⟨ek,en,ea,eb,P,T,a1⟩:=e;have hg:=G7 9 G ek en ea eb P T a1 oM;generalize cnt 9 G (.mk ek en ea eb P T a1)=r at hg hR;subst hR;refine Wg [] [.p (λ_=>.agg [Iv ek,Iv en,Sv ea,Sv eb,.d (Q6 P),La (T.map Tm.row),La (a1.map Cs.row)]) none] ?_;refine Wg [] [.p (λ_=>.agg [Iv rk,Iv rn,Sv ra,Sv rb,.d (Q6 c4),La (c5.map Tm.row),La (c6.map Cs.row)]) none] ?_;refine Wt ?_;try dsimp only[Q8,Q5]
  apply Z7.ret
  ·rfl
  ·conv=>lhs;simp[Q7,Tryz.results44]
  first|rfl|simp[Zv,Y3,Tm.row,Tm.Q3,Cs.Q3,AV.Jk,K5,Q6]
 refine Wr ?_ (r:=by conv=>lhs;simp[q5]);refine Wn ?_;by_cases q7:tk=6
 ·refine Wr ?_ (r:=by conv=>lhs;simp[q7]);refine Wy ?_;subst q7;have d3:f.length=2/\o=[]:=by
   unfold Xx at a5;simp at a5;exact a5
  obtain⟨d3,rfl⟩:=d3;obtain⟨x,y,rfl⟩:∃x y,f=[x,y]:=by
   rcases f with _|⟨x,_|⟨y,_|⟨z,l⟩⟩⟩
   ·cases d3
   ·cases d3
   ·exact⟨x,y,rfl⟩
   ·simp at d3
  rw[if_neg oM,if_pos rfl,PM,Dr,Tm.VH,List.headD_cons,List.tail_cons,Tm.VH,List.headD_cons,List.tail_cons,Tm.VH]at hR;have d4:=e2 x (by simp);have d5:=e2 y (by simp);have h4:=XX x d4;have e5:=XX y d5;have h5:x.free.length<=1048576:=Nat.le_trans (Tm.Mw x) d4.sz;have e6:y.free.length<=1048576:=Nat.le_trans (Tm.Mw y) d5.sz;have e7:=ih x (Uq own x.free) (f3 x (by simp)) d4 (by have:=N8 own x.free;omega) (λs hs=>d7 s (List.mem_filter.1 hs).1);have d8:=ih y (Uq own (Rv y.free [ta])++[ta]) (f3 y (by simp)) d5 (by have:=N8 own (Rv y.free [ta]);simp;omega) (λs hs=>(List.mem_append.1 hs).elim (λh=>d7 s (List.mem_filter.1 h).1) λh=>by rw[List.mem_singleton.1 h];exact hF.ok.1.1);generalize x.free=xf at h4 h5 e7 hR;generalize y.free=yf at e5 e6 d8 hR;have h7:=JP own xf oM oM;have h8:=JP own yf oM oM;have h9:=N8 own yf;have f8:Qv Tryz.prog 68 [Xw (Uq own yf),La [[.str ta]],Bv false] (λ_=>Xw (Uq own (Rv yf [ta]))) none:=by
   rw[<-Zw5];exact VP (Uq own yf) [ta] oM (by simp)
  have i0:=N8 own xf;have i1:=N8 own (Rv yf [ta]);have e8:Qv Tryz.prog 68 [Xw (Uq own xf),Xw (Uq own (Rv yf [ta])),Bv true] (λ_=>Xw (Uq (Uq own xf) (Rv yf [ta]))) none:=by
   have h:=JP (Uq own xf) (Uq own (Rv yf [ta])) oM oM
   rwa [Zw6]at h
  have f9:=N8 (Uq own xf) (Rv yf [ta]);generalize Uq (Uq own xf) (Rv yf [ta])=I3 at e8 f9 hR;generalize Uq own xf=I1 at h7 e8 i0 f9 e7 hR;generalize Uq own yf=P2 at h8 f8 h9;generalize Uq own (Rv yf [ta])=I2 at f8 e8 i1 d8 hR;obtain⟨A2,hA⟩:∃A,A=I2++[ta]:=⟨_,rfl⟩
  rw[<-hA]at d8 hR;have i2:List.take (I2.length+1) (List.map Jj I2++[[D.str ta]])=List.map Jj A2:=by rw[hA,List.map_append,List.take_of_length_le (by simp)];rfl
  have j0:A2.length=I2.length+1:=by rw[hA];simp
  generalize x.ow I1=z at e7 hR;generalize y.ow A2=u at d8 hR;obtain⟨xk,xn,xa,xb,b2,b3,b4⟩:=x;obtain⟨yk,yn,ya,yb,a7,a8,a9⟩:=y;obtain⟨zk,zn,za,zb,b5,b6,b7⟩:=z;obtain⟨uk,un,ua,ub,b8,b9,c0⟩:=u;have e9:=G7 8 I3 6 0 ta .empty [] [.mk zk zn za zb b5 b6 b7,.mk uk un ua ub b8 b9 c0] [] oM;generalize cnt 8 I3 (.mk 6 0 ta .empty [] [.mk zk zn za zb b5 b6 b7,.mk uk un ua ub b8 b9 c0] [])=e at e9 hR;obtain⟨ek,en,ea,eb,P,T,a1⟩:=e;replace e9:Qv Tryz.prog 69 [Iv 8,Xw I3,.agg [Iv 6,Iv 0,Sv ta,Sv .empty,La [],La [[.int zk,.int zn,.str za,.str zb,Q6 b5,.sl (b6.map Tm.row),.sl (b7.map Cs.row)],[.int uk,.int un,.str ua,.str ub,Q6 b8,.sl (b9.map Tm.row),.sl (c0.map Cs.row)]],La []]] (λ_=>Y3 (.mk ek en ea eb P T a1)) none:=by
   simpa only[Y3,Q6,List.map_cons,List.map_nil,Tm.row,Tm.Q3,Cs.Q3]using e9
  have hg:=G7 9 G ek en ea eb P T a1 oM;generalize cnt 9 G (.mk ek en ea eb P T a1)=r at hg hR;subst hR;refine Wz [5,12,16] [.p (λd=>.arr d 0 xf.length) (some (.arr 9 1 (xf.map Jj))),.p (λ_=>.d (Q6 I1)) none,.p (λd=>.arr d 0 yf.length) (some (.arr 9 1 (yf.map Jj))),.p (λ_=>.d (Q6 P2)) none,.p (λ_=>.d (Q6 I2)) none] mixed ?_ (hr:=by conv=>lhs;simp[Tm.row,Tm.Q3,Cs.Q3]);refine Wz [18,20] [.p (λ_=>.agg [Iv zk,Iv zn,Sv za,Sv zb,.d (Q6 b5),La (b6.map Tm.row),La (b7.map Cs.row)]) none,.p (λ_=>.agg [Iv uk,Iv un,Sv ua,Sv ub,.d (Q6 b8),La (b9.map Tm.row),La (c0.map Cs.row)]) none] mixed ?_ (hr:=by conv=>lhs;simp[i2]);refine Wb ?_;refine X8.le (Le.low [] [] (fr:=[(4,.ptr 4 0),(6,.d (Q6 G)),(7,.ptr 7 0),(13,.d (Q6 I1)),(14,.d (Q6 I2))]) (mem:=[(4,some (.blk 54 [Iv 0,Iv 0,Sv .empty,Sv .empty,.lit (.slice none 0 0),.lit (.slice none 0 0),.lit (.slice none 0 0)])),(7,some (.blk 54 [Iv 6,Iv 0,Sv ta,Sv .empty,La [],La [[.int zk,.int zn,.str za,.str zb,Q6 b5,.sl (b6.map Tm.row),.sl (b7.map Cs.row)],[.int uk,.int un,.str ua,.str ub,Q6 b8,.sl (b9.map Tm.row),.sl (c0.map Cs.row)]],La []]))]) rfl (by simp) (by simp)) ?_;refine Wz [] [.p (λ_=>.d (Q6 I3)) none,.p (λ_=>.agg [Iv ek,Iv en,Sv ea,Sv eb,.d (Q6 P),La (T.map Tm.row),La (a1.map Cs.row)]) none] mixed ?_;refine Wg [] [.p (λ_=>.agg [Iv rk,Iv rn,Sv ra,Sv rb,.d (Q6 c4),La (c5.map Tm.row),La (c6.map Cs.row)]) none] ?_;refine Wt ?_;try dsimp only[Q8,Q5]
  apply Z7.ret
  ·rfl
  ·conv=>lhs;simp[Q7,Tryz.results44]
  first|rfl|simp[Zv,Y3,Tm.row,Tm.Q3,Cs.Q3,AV.Jk,K5,Q6]
 refine Wr ?_ (r:=by conv=>lhs;simp[q7]);refine Wn ?_;by_cases q8:tk=7
 ·refine Wr ?_ (r:=by conv=>lhs;simp[q8]);refine Wy ?_;subst q8;have g0:f.length=1:=by
   unfold Xx at a5;simp at a5;exact a5
  obtain⟨x,rfl⟩:∃x,f=[x]:=by
   rcases f with _|⟨x,_|⟨y,l⟩⟩
   ·cases g0
   ·exact⟨x,rfl⟩
   ·simp at g0
  rw[if_neg oM,if_neg oM,if_pos rfl]at hR;have j3:=(e2 x (by simp)).ok.nm;obtain⟨xk,xn,xa,xb,b2,b3,b4⟩:=x;rw[show Xn [.mk xk xn xa xb b2 b3 b4]=xa from rfl]at hR;have i3:=hF.cs;refine Wr ?_ (r:=by conv=>lhs;simp[Tm.row,Tm.Q3,Cs.Q3]);refine Wr ?_;refine Wb ?_;refine X8.le (Le.low [400] [] (fr:=[(1,.d (Q6 own)),(2,.ptr 2 0),(4,.ptr 4 0),(6,.d (Q6 G)),(7,.ptr 7 0),(121,La (o.map Cs.row)),(122,Iv (o.length:Int)),(123,Iv (0:Int))]) (mem:=[(2,some (.blk 54 [Iv 7,Iv tn,Sv ta,Sv tb,.d (Q6 J),La (([.mk xk xn xa xb b2 b3 b4]).map Tm.row),La (o.map Cs.row)])),(4,some (.blk 54 [Iv 0,Iv 0,Sv .empty,Sv .empty,.lit (.slice none 0 0),.lit (.slice none 0 0),.lit (.slice none 0 0)])),(7,some (.blk 54 [Iv 7,Iv 0,Sv .empty,Sv .empty,.lit (.slice none 0 0),La (([.mk xk xn xa xb b2 b3 b4]).map Tm.row),.arr 400 0 ([]:List Cs).length])),(400,some (.arr 87 9 (([]:List Cs).map Cs.row)))]) rfl (by simp) (by simp[Tm.row,Tm.Q3,Cs.Q3])) ?_;refine Wl (σ:=λu:{u:Nat×List Cs // u.1<=o.length/\u.2=Cs.RU (o.take u.1) own xa}=>⟨186,[(1,.d (Q6 own)),(2,.ptr 2 0),(4,.ptr 4 0),(6,.d (Q6 G)),(7,.ptr 7 0),(121,La (o.map Cs.row)),(122,Iv (o.length:Int)),(123,Iv (u.1.1:Int))],[(2,some (.blk 54 [Iv 7,Iv tn,Sv ta,Sv tb,.d (Q6 J),La (([.mk xk xn xa xb b2 b3 b4]).map Tm.row),La (o.map Cs.row)])),(4,some (.blk 54 [Iv 0,Iv 0,Sv .empty,Sv .empty,.lit (.slice none 0 0),.lit (.slice none 0 0),.lit (.slice none 0 0)])),(7,some (.blk 54 [Iv 7,Iv 0,Sv .empty,Sv .empty,.lit (.slice none 0 0),La (([.mk xk xn xa xb b2 b3 b4]).map Tm.row),.arr 400 0 u.1.2.length])),(400,some (.arr 87 9 (u.1.2.map Cs.row)))]⟩)
   (μ:=λu=>o.length-u.1.1) ⟨(0,[]),⟨Nat.zero_le _,by simp[Cs.RU]⟩⟩ (Le.sub (by simp) (by simp[Tm.row,Tm.Q3,Cs.Q3])) (λ⟨(i,ds),⟨g1,hw⟩⟩=>?_)
  dsimp only at g1 hw⊢;refine Wr ?_ (r:=by conv=>lhs;simp[Tm.row,Tm.Q3,Cs.Q3]);refine Wb ?_;refine Wc rfl (λhc=>?_) (λhc=>?_)
  ·have g:i<o.length:=by have:=of_decide_eq_true hc;omega
   clear hc;have f0:o[i]? =some o[i]:=List.getElem?_eq_getElem g;have f1:o[i]∈o:=List.getElem_mem g;have i4:o.drop i=o[i]::o.drop (i+1):=List.drop_eq_getElem_cons g;generalize o[i]=d at f0 f1 i4;have d9:ds.length=i:=by rw[hw,Cs.Gg,List.length_take];omega
   have a3:=Cs.Qk2 f0 own xa;rw[<-hw]at a3;obtain⟨i5,f2⟩:=h1 d f1;obtain⟨g2,d6⟩:=i3 d f1;obtain⟨dt,c7,y⟩:=d;try dsimp only at i5 f2 g2 d6
   rw[Cs.ow]at a3;have e5:=XX y d6;have e6:y.free.length<=1048576:=Nat.le_trans (Tm.Mw y) d6.sz;generalize y.free=yf at a3 e5 e6;have e4:=JP c7 yf oM oM;have i6:=N8 c7 yf;have g3:∀s∈Uq c7 yf,s.size<=140737488355328:=λs hs=>g2 s (List.mem_filter.1 hs).1
   generalize Uq c7 yf=U at e4 i6 g3 a3;obtain⟨H,hH⟩:∃H,H=own++U:=⟨_,rfl⟩
   rw[<-hH]at a3;have g4:List.take (own.length+U.length) (List.map Jj own++List.map Jj U)=List.map Jj H:=by rw[hH,List.map_append,List.take_of_length_le (by simp)]
   have j4:H.length=own.length+U.length:=by rw[hH];simp
   have g5:∀s∈H,s.size<=140737488355328:=λs hs=>by
    rw[hH]at hs;exact(List.mem_append.1 hs).elim (d7 s) (g3 s)
   have i7:=JR yf xa oM;generalize hasB yf xa=q at a3 i7;obtain⟨yk,yn,ya,yb,a7,a8,a9⟩:=y;refine Ws ?_;refine Wr ?_ (r:=by conv=>lhs;simp[Tm.row,Tm.Q3,Cs.Q3,f0,Cs.row]);cases q with
   |true=>
    simp only[if_true,cnt]at a3;have hz:=ih (.mk yk yn ya yb a7 a8 a9) H f2 d6 oM g5;generalize(Tm.mk yk yn ya yb a7 a8 a9).ow H=z at hz a3;obtain⟨ek,en,ea,eb,P,T,a1⟩:=z;have hu:=G7 8 U ek en ea eb P T a1 oM;generalize cnt 8 U (.mk ek en ea eb P T a1)=u at hu a3;obtain⟨uk,un,ua,ub,b8,b9,c0⟩:=u;refine Wg [2] [.p (λd=>.arr d 0 yf.length) (some (.arr 9 1 (yf.map Jj)))] ?_;refine Wg [] [.p (λ_=>.d (Q6 U)) none] ?_;refine Wg [4] [] ?_ (hr:=by conv=>lhs;simp[g4]);refine Wr ?_;refine Wg [] [.p (λ_=>Bv true) none] ?_;refine Wy ?_;refine Wg [] [.p (λ_=>.agg [Iv ek,Iv en,Sv ea,Sv eb,.d (Q6 P),La (T.map Tm.row),La (a1.map Cs.row)]) none] ?_;refine Wz [] [.p (λ_=>.agg [Iv uk,Iv un,Sv ua,Sv ub,.d (Q6 b8),La (b9.map Tm.row),La (c0.map Cs.row)]) none] mixed ?_;refine Wr ?_;refine⟨⟨(i+1,ds++[.mk dt c7 (.mk uk un ua ub b8 b9 c0)]),g,by rw[a3]⟩,by simp;omega,?_⟩;dsimp only;exact Le.sub (by simp) (by simp[Cs.row,Tm.row,Tm.Q3,Cs.Q3,d9])
   |false=>
    simp only[Bool.false_eq_true,if_false]at a3;have e3:Qv Tryz.prog 68 [Xw H,La [[.str xa]],Bv false] (λ_=>Xw (Rv H [xa])) none:=VP H [xa] oM (by simp);have i9:=Sq H [xa];have g6:∀s∈Rv H [xa],s.size<=140737488355328:=λs hs=>g5 s (List.mem_filter.1 hs).1
    generalize Rv H [xa]=W at e3 i9 g6 a3;have hz:=ih (.mk yk yn ya yb a7 a8 a9) W f2 d6 oM g6;generalize(Tm.mk yk yn ya yb a7 a8 a9).ow W=z at hz a3;obtain⟨zk,zn,za,zb,b5,b6,b7⟩:=z;have hd:Qv Tryz.prog 69 [Iv 9,La [[.str xa]],Y3 (.mk zk zn za zb b5 b6 b7)] (λ_=>Y3 (cnt 9 [xa] (.mk zk zn za zb b5 b6 b7))) none:=G7 9 [xa] zk zn za zb b5 b6 b7 (by simp);generalize cnt 9 [xa] (.mk zk zn za zb b5 b6 b7)=e at hd a3;obtain⟨ek,en,ea,eb,P,T,a1⟩:=e;have hu:=G7 8 U ek en ea eb P T a1 oM;generalize cnt 8 U (.mk ek en ea eb P T a1)=u at hu a3;obtain⟨uk,un,ua,ub,b8,b9,c0⟩:=u;refine Wg [2] [.p (λd=>.arr d 0 yf.length) (some (.arr 9 1 (yf.map Jj)))] ?_;refine Wg [] [.p (λ_=>.d (Q6 U)) none] ?_;refine Wg [4] [] ?_ (hr:=by conv=>lhs;simp[g4]);refine Wr ?_;refine Wg [] [.p (λ_=>Bv false) none] ?_;refine Wn ?_;refine Wz [5,14] [.p (λ_=>.d (Q6 W)) none,.p (λ_=>.agg [Iv zk,Iv zn,Sv za,Sv zb,.d (Q6 b5),La (b6.map Tm.row),La (b7.map Cs.row)]) none,.p (λ_=>.agg [Iv ek,Iv en,Sv ea,Sv eb,.d (Q6 P),La (T.map Tm.row),La (a1.map Cs.row)]) none] mixed ?_;refine Wz [] [.p (λ_=>.agg [Iv uk,Iv un,Sv ua,Sv ub,.d (Q6 b8),La (b9.map Tm.row),La (c0.map Cs.row)]) none] mixed ?_;refine Wr ?_;refine⟨⟨(i+1,ds++[.mk dt c7 (.mk uk un ua ub b8 b9 c0)]),g,by rw[a3]⟩,by simp;omega,?_⟩;dsimp only;exact Le.sub (by simp) (by simp[Cs.row,Tm.row,Tm.Q3,Cs.Q3,d9])
  have g:i=o.length:=by have:=of_decide_eq_false hc;omega
  subst g;clear hc;rw[List.take_length]at hw;subst hw;have d9:=Cs.Gg own xa o;generalize Cs.RU o own xa=ds at d9 hR⊢;refine We ?_;apply X8.Hw [400]
  ·conv=>lhs;simp
  refine Wb ?_;refine X8.le (Le.low [] [] (fr:=[(4,.ptr 4 0),(6,.d (Q6 G)),(7,.ptr 7 0)]) (mem:=[(4,some (.blk 54 [Iv 0,Iv 0,Sv .empty,Sv .empty,.lit (.slice none 0 0),.lit (.slice none 0 0),.lit (.slice none 0 0)])),(7,some (.blk 54 [Iv 7,Iv 0,Sv .empty,Sv .empty,La [],La [[.int xk,.int xn,.str xa,.str xb,Q6 b2,.sl (b3.map Tm.row),.sl (b4.map Cs.row)]],La (ds.map Cs.row)]))]) rfl (by simp) (by simp)) ?_;have hg:Qv Tryz.prog 69 [Iv 9,Xw G,.agg [Iv 7,Iv 0,Sv .empty,Sv .empty,La [],La [[.int xk,.int xn,.str xa,.str xb,Q6 b2,.sl (b3.map Tm.row),.sl (b4.map Cs.row)]],La (ds.map Cs.row)]] (λ_=>Y3 (cnt 9 G (.mk 7 0 .empty .empty [] [.mk xk xn xa xb b2 b3 b4] ds))) none:=by
   simpa only[Y3,Q6,List.map_cons,List.map_nil,Tm.row,Tm.Q3,Cs.Q3]using G7 9 G 7 0 .empty .empty [] [.mk xk xn xa xb b2 b3 b4] ds oM
  generalize cnt 9 G (.mk 7 0 .empty .empty [] [.mk xk xn xa xb b2 b3 b4] ds)=r at hg hR;subst hR;refine Wg [] [.p (λ_=>.agg [Iv rk,Iv rn,Sv ra,Sv rb,.d (Q6 c4),La (c5.map Tm.row),La (c6.map Cs.row)]) none] ?_;refine Wt ?_;try dsimp only[Q8,Q5]
  apply Z7.ret
  ·rfl
  ·conv=>lhs;simp[Q7,Tryz.results44]
  first|rfl|simp[Zv,Y3,Tm.row,Tm.Q3,Cs.Q3,AV.Jk,K5,Q6]
 refine Wr ?_ (r:=by conv=>lhs;simp[q8]);refine Wn ?_;refine Ws ?_;rw[if_neg oM,if_neg oM,if_neg oM]at hR;have hg:=G7 9 G tk tn ta tb J f o oM;generalize cnt 9 G (.mk tk tn ta tb J f o)=r at hg hR;subst hR;refine Wg [] [.p (λ_=>.agg [Iv rk,Iv rn,Sv ra,Sv rb,.d (Q6 c4),La (c5.map Tm.row),La (c6.map Cs.row)]) none] ?_;refine Wt ?_;try dsimp only[Q8,Q5]
 apply Z7.ret
 ·rfl
 ·conv=>lhs;simp[Q7,Tryz.results44]
 first|rfl|simp[Zv,Y3,Tm.row,Tm.Q3,Cs.Q3,AV.Jk,K5,Q6]
theorem Qk9:∀N,OdN N
 |0=>λ_ _ h=>h.elim
 |N+1=>Zv3 N (Qk9 N)
theorem Zj5(f:Fn)(h:f.Pt):Qv Tryz.prog 22 [XN f] (λ_=>XN f.ow) none:=by
 have l:=Qk9 175 f.body f.params h.rt h.fit (by have:=h.par;omega) h.pars;unfold Fn.ow;generalize f.body.ow f.params=z at l⊢;obtain⟨fg,o,⟨fk,fn,fa,fb,t,C,I⟩⟩:=f;obtain⟨J,P,T,U,g,i,j⟩:=z;dsimp only at l;refine Qv.of Tryz.func22 rfl rfl rfl (Nat.le_of_ble_eq_true rfl) ?_;show X8 _ _ (Z7 _ Tryz.f22 _ _ _) (Z6 13 _);refine Wr ?_ (r:=by conv=>lhs;simp[XN]);refine Wz [] [.p (λ_=>.agg [Iv J,Iv P,Sv T,Sv U,.d (Q6 g),La (i.map Tm.row),La (j.map Cs.row)]) none] mixed ?_;refine Wt ?_;try dsimp only[Q8,Q5]
 apply Z7.ret
 ·rfl
 ·conv=>lhs;simp[Q7,Tryz.results22]
 rfl
theorem XZ(l:List Fn)(hl:l.length<=879609302220)(o:∀f∈l,f.Pt):Qv Tryz.prog 20 [F4 l,.d (.fn 22)] (λ_=>F4 (l.map Fn.ow)) none:=by
 obtain⟨G,hG⟩:∃G,G=l.map Fn.ow:=⟨_,rfl⟩
 rw[<-hG];refine Qv.of Tryz.func20 rfl rfl rfl (Nat.le_of_ble_eq_true rfl) ?_;show X8 _ _ (Z7 _ Tryz.f20 _ _ _) (Z6 22 _);refine Wr ?_;refine Wr ?_;refine Wr ?_;refine Wb ?_;refine X8.le (Le.low [400] [] (fr:=[(1,.d (.fn 22)),(5,.arr 400 0 ([]:List Fn).length),(8,La (l.map Fn.row)),(9,Iv (l.length:Int)),(10,Iv (0:Int))]) (mem:=[(400,some (.arr 56 9 (([]:List Fn).map Fn.row)))]) rfl (by simp) (by simp)) ?_;refine Wl (σ:=λu:{u:Nat×List Fn // u.1<=l.length/\u.2=(l.take u.1).map Fn.ow}=>⟨22,[(1,.d (.fn 22)),(5,.arr 400 0 u.1.2.length),(8,La (l.map Fn.row)),(9,Iv (l.length:Int)),(10,Iv (u.1.1:Int))],[(400,some (.arr 56 9 (u.1.2.map Fn.row)))]⟩)
  (μ:=λu=>l.length-u.1.1) ⟨(0,[]),⟨Nat.zero_le _,by simp⟩⟩ (Le.sub (by simp) (by simp)) (λ⟨(i,gs),⟨a1,t⟩⟩=>?_)
 dsimp only at a1 t⊢;refine Wr ?_;refine Wb ?_;refine Wc rfl (λC=>?_) (λC=>?_)
 ·have g:i<l.length:=by have:=of_decide_eq_true C;omega
  clear C;have j:l[i]? =some l[i]:=List.getElem?_eq_getElem g;have I:l[i]∈l:=List.getElem_mem g;have a2:l.drop i=l[i]::l.drop (i+1):=List.drop_eq_getElem_cons g;generalize l[i]=f at j I a2;have a3:gs.length=i:=by rw[t,List.length_map,List.length_take];omega
  have hx:=Zj5 f (o f I);generalize hz:f.ow=z at hx;obtain⟨fg,a4,⟨fk,fn,fa,fb,a5,a6,a7⟩⟩:=f;obtain⟨zg,J,⟨zk,zn,za,zb,P,T,U⟩⟩:=z;dsimp only[XN]at hx;refine Ws ?_;refine Wr ?_ (r:=by conv=>lhs;simp[Fn.row,Tm.row,Tm.Q3,Cs.Q3,j]);refine Wg [] [.p (λ_=>.agg [Sv zg,.d (Q6 J),Iv zk,Iv zn,Sv za,Sv zb,.d (Q6 P),La (T.map Tm.row),La (U.map Cs.row)]) none] ?_;refine Wr ?_;refine⟨⟨(i+1,gs++[⟨zg,J,.mk zk zn za zb P T U⟩]),g,by rw[t,List.take_add_one,j,List.map_append,<-hz];rfl⟩,by simp;omega,?_⟩;dsimp only;exact Le.sub (by simp[a3]) (by simp[Fn.row,Tm.row,Tm.Q3,Cs.Q3])
 have g:i=l.length:=by have:=of_decide_eq_false C;omega
 subst g;clear C;rw[List.take_length]at t;obtain rfl:gs=G:=by rw[t,hG]
 refine We ?_;refine Wr ?_;refine Wt ?_;try dsimp only[Q8,Q5]
 apply Z7.JW [400]
 ·rfl
 ·conv=>lhs;simp
 ·conv=>lhs;simp[Q7,Tryz.results20]
 rfl
abbrev Env:=List (ByteArray×Vl)
def DW:Env->ByteArray->Option Vl
 |[],_=>none
 |(x,v)::r,s=>if x=s then some v else DW r s
abbrev zeroV:Vl:=.mk false 0 []
abbrev Xd4(v:Vl):AV:=.agg [Bv v.KD,Iv v.n,La (v.kids.map Vl.row)]
def Y8(e:Env)(s:ByteArray):Vl:=(DW e s).getD zeroV
theorem Ma{x s:ByteArray}(h:x=s)(v:Vl)(r:Env):Y8 ((x,v)::r) s=v:=by simp[Y8,DW,h]
theorem NZ{x s:ByteArray}(h:¬x=s)(v:Vl)(r:Env):Y8 ((x,v)::r) s=Y8 r s:=by simp[Y8,DW,h]
def Yi(l:List Fn)(p:Fn->Bool):Int:=match l.findIdx? p with|some i=>i|none=>-1
theorem Et{l:List Fn}{p:Fn->Bool}{i:Nat}{x:Fn}(o:l[i]? =some x)(h:∀y∈l.take i,p y=false)(hp:p x=true):Yi l p=i:=by
 unfold Yi;have:l.findIdx? p=some i:=by
  rw[List.findIdx?_eq_some_iff_getElem];have g:=(List.getElem?_eq_some_iff.1 o)
  refine⟨g.1,by rw[g.2];exact hp,λj r=>?_⟩;have f:j<l.length:=by have:=g.1;omega
  have:=h (l[j]'f) (List.mem_iff_getElem?.2 ⟨j,by rw[List.getElem?_take,if_pos r];exact List.getElem?_eq_getElem f⟩);simp[this]
 rw[this]
theorem Eu{l:List Fn}{p:Fn->Bool}(h:∀y∈l,p y=false):Yi l p= -1:=by
 unfold Yi;have:l.findIdx? p=none:=by
  rw[List.findIdx?_eq_none_iff];exact h
 rw[this]
theorem Ls{l:List Fn}{p:Fn->Bool}{i:Nat}{x:Fn}(g:l[i]? =some x)(h:∀y∈l.take i,p y=false)(hp:p x=false):∀y∈l.take (i+1),p y=false:=by
 rw[List.take_add_one,g];intro y f;rcases List.mem_append.1 f with f|f
 ·exact h y f
 ·simp at f;subst f;exact hp
abbrev Ae:Fn->AV
 |⟨a,ps,.mk k n b c vs xs cs⟩=>.agg [Sv a,.d (Q6 ps),Iv k,Iv n,Sv b,Sv c,.d (Q6 vs),La (xs.map Tm.row),La (cs.map Cs.row)]
abbrev Yd(s:ByteArray):Q9:=.blk 9 [Sv s]
theorem CV(l:List Fn)(j:ByteArray)(hl:l.length<=879609302220)(p:Fn->Bool)(K:Nat)
  (hk:∀s∈l,Z0 Tryz.prog K [Ae s,.ptr 1000 0] [(1000,Yd j)] (Bv (p s)) [(1000,Yd j)]):
  Z0 Tryz.prog 36 [F4 l,.clo K [.ptr 1000 0]] [(1000,Yd j)] (Iv (Yi l p)) [(1000,Yd j)]:=by
 refine Z0.of Tryz.func36 rfl rfl (Nat.le_of_ble_eq_true rfl) ?_;show X8 _ _ (Qz _ Tryz.f36 _ _) (X7 19 _ _);refine Wb ?_;apply Wx [] []
 ·conv=>lhs;simp
 ·trivial
 refine Wb ?_;apply Wx [] []
 ·conv=>lhs;simp
 ·trivial
 refine Wb ?_;refine Wl (σ:=λu:{i:Nat // i<=l.length/\∀y∈l.take i,p y=false}=>⟨19,[(0,F4 l),(1,.clo K [.ptr 1000 0]),(7,Iv l.length),(8,Iv u.1)],[(1000,some (Yd j))]⟩)
  (μ:=λu=>l.length-u.1) ⟨0,Nat.zero_le _,by simp⟩ (Le.sub (by simp) (by simp)) (λ⟨i,hi,I⟩=>?_)
 dsimp only;refine Wb ?_;apply Wx [] []
 ·conv=>lhs;simp
 ·trivial
 refine Wb ?_;refine Wc rfl (λh=>?_) (λh=>?_)
 ·have f:i<l.length:=by have:=of_decide_eq_true h;omega
  have r:l[i]? =some l[i]:=List.getElem?_eq_getElem f;have o:l[i]∈l:=List.getElem_mem f;generalize l[i]=y at r o;have t:=hk y o;obtain⟨B,J⟩:∃B,B=p y:=⟨_,rfl⟩
  rw[<-J]at t;obtain⟨g,ps,bd⟩:=y;obtain⟨P,T,U,xb,xv,xx,xc⟩:=bd;refine Ws ?_;refine Wb ?_;apply Wx [] []
  ·conv=>lhs;simp
  ·trivial
  cases B with
  |true=>
   refine Wb ?_;apply Wx [] [.c [] [Ae ⟨g,ps,.mk P T U xb xv xx xc⟩,.ptr 1000 0] [(1000,Yd j)] (Bv true) [(1000,Yd j)]]
   ·conv=>lhs;simp[r,Fn.row,Tm.row,Tm.Q3,Cs.Q3]
   ·first|exact t|exact⟨oM,t⟩
   refine Wb ?_;refine Wc rfl (λC=>?_) (λC=>?_)
   ·refine Wb ?_;apply Wx [] []
    ·conv=>lhs;simp
    ·trivial
    refine Wt ?_;try dsimp only[Q8,Q5]
    apply Qz.ret
    ·rfl
    ·conv=>lhs;simp[Q7,Tryz.results36]
    ·rw[Et r I J.symm];rfl
    ·simp[Qq,Q4]
   ·simp at C
  |false=>
   refine Wb ?_;apply Wx [] [.c [] [Ae ⟨g,ps,.mk P T U xb xv xx xc⟩,.ptr 1000 0] [(1000,Yd j)] (Bv false) [(1000,Yd j)]]
   ·conv=>lhs;simp[r,Fn.row,Tm.row,Tm.Q3,Cs.Q3]
   ·first|exact t|exact⟨oM,t⟩
   refine Wb ?_;refine Wc rfl (λC=>?_) (λC=>?_)
   ·simp at C
   refine Ws ?_;refine Wr ?_;refine⟨⟨i+1,f,Ls r I J.symm⟩,by simp;omega,Le.sub (by simp) (by simp)⟩
 have f:i=l.length:=by have:=of_decide_eq_false h;omega
 subst f;rw[List.take_length]at I;refine We ?_;refine Wb ?_;apply Wx [] []
 ·conv=>lhs;simp
 ·trivial
 refine Wt ?_;try dsimp only[Q8,Q5]
 apply Qz.ret
 ·rfl
 ·conv=>lhs;simp[Q7,Tryz.results36]
 ·rw[Eu I];rfl
 ·simp[Qq,Q4]
def bi(b:Bool):Int:=if b then 1 else 0
def Wj(p a b:Int):Vl×Int:=
 if p=1 then (.mk false (Qm (a+b)) [],0)else if p=2 then (.mk false (Qm (a-b)) [],0)else if p=3 then (.mk false (Qm (a * b)) [],0)
 else if p=4 then (.mk true (bi (decide (a<b))) [],0)else if p=5 then (.mk true (bi (decide (a=b))) [],0)else (zeroV,1)
theorem UA(n:Int): -9223372036854775808<=Qm n/\Qm n<=9223372036854775807:=by have:=QD n;omega
theorem TW(b:Bool):Qv Tryz.prog 93 [Bv b] (λ_=>Xz2 (.mk true (bi b) [])) none:=by
 refine Qv.of Tryz.func93 rfl rfl rfl (Nat.le_of_ble_eq_true rfl) ?_;show X8 _ _ (Z7 _ Tryz.f93 _ _ _) (Z6 6 _);refine Wb ?_;apply Wx [] []
 ·conv=>lhs;simp
 ·trivial
 refine Wb ?_;apply Wx [] []
 ·conv=>lhs;simp
 ·trivial
 cases b with
 |true=>
  refine Wy ?_;refine Wb ?_;apply Wx [] []
  ·conv=>lhs;simp
  ·trivial
  refine Wt ?_;try dsimp only[Q8,Q5]
  apply Z7.ret
  ·rfl
  ·conv=>lhs;simp[Q7,Tryz.results93]
  ·rfl
 |false=>
  refine Wn ?_;refine Ws ?_;refine Wb ?_;apply Wx [] []
  ·conv=>lhs;simp
  ·trivial
  refine Wt ?_;try dsimp only[Q8,Q5]
  apply Z7.ret
  ·rfl
  ·conv=>lhs;simp[Q7,Tryz.results93]
  ·rfl
theorem AO(p a b:Int):Qv Tryz.prog 81 [Iv p,Iv a,Iv b] (λ_=>.tuple [Xd4 (Wj p a b).1,Iv ((Wj p a b).2)]) none:=by
 refine Qv.of Tryz.func81 rfl rfl rfl (Nat.le_of_ble_eq_true rfl) ?_;show X8 _ _ (Z7 _ Tryz.f81 _ _ _) (Z6 49 _);refine Wr ?_;refine Wr ?_;refine Wr ?_;by_cases i:p=1
 ·refine Wr ?_ (r:=by conv=>lhs;simp[i]);refine Wy ?_;obtain⟨f,g⟩:=UA (a+b);refine Wg [2] [] ?_ (hr:=by conv=>lhs;simp[MC]);refine Wt ?_;rw[show Wj p a b=(.mk false (Qm (a+b)) [],0)by simp[Wj,i]];try dsimp only[Q8,Q5]
  apply Z7.ret
  ·rfl
  ·conv=>lhs;simp[Q7,Tryz.results81]
  ·rfl
 refine Wr ?_ (r:=by conv=>lhs;simp[i]);refine Wn ?_;by_cases j:p=2
 ·refine Wr ?_ (r:=by conv=>lhs;simp[j]);refine Wy ?_;obtain⟨f,g⟩:=UA (a-b);refine Wg [2] [] ?_ (hr:=by conv=>lhs;simp[MC]);refine Wt ?_;rw[show Wj p a b=(.mk false (Qm (a-b)) [],0)by simp[Wj,j]];try dsimp only[Q8,Q5]
  apply Z7.ret
  ·rfl
  ·conv=>lhs;simp[Q7,Tryz.results81]
  ·rfl
 refine Wr ?_ (r:=by conv=>lhs;simp[j]);refine Wn ?_;by_cases l:p=3
 ·refine Wr ?_ (r:=by conv=>lhs;simp[l]);refine Wy ?_;obtain⟨f,g⟩:=UA (a * b);refine Wg [2] [] ?_ (hr:=by conv=>lhs;simp[MC]);refine Wt ?_;rw[show Wj p a b=(.mk false (Qm (a * b)) [],0)by simp[Wj,l]];try dsimp only[Q8,Q5]
  apply Z7.ret
  ·rfl
  ·conv=>lhs;simp[Q7,Tryz.results81]
  ·rfl
 refine Wr ?_ (r:=by conv=>lhs;simp[l]);refine Wn ?_;by_cases o:p=4
 ·refine Wr ?_ (r:=by conv=>lhs;simp[o]);refine Wy ?_;have C:=TW (decide (a<b));refine Wg [] [.p (λ_=>Xz2 (.mk true (bi (decide (a<b))) [])) none] ?_;refine Wt ?_;rw[show Wj p a b=(.mk true (bi (decide (a<b))) [],0)by simp[Wj,o]];try dsimp only[Q8,Q5]
  apply Z7.ret
  ·rfl
  ·conv=>lhs;simp[Q7,Tryz.results81]
  ·rfl
 refine Wr ?_ (r:=by conv=>lhs;simp[o]);refine Wn ?_;by_cases t:p=5
 ·refine Wr ?_ (r:=by conv=>lhs;simp[t]);refine Wy ?_;have C:=TW (decide (a=b));refine Wg [] [.p (λ_=>Xz2 (.mk true (bi (decide (a=b))) [])) none] ?_;refine Wt ?_;rw[show Wj p a b=(.mk true (bi (decide (a=b))) [],0)by simp[Wj,t]];try dsimp only[Q8,Q5]
  apply Z7.ret
  ·rfl
  ·conv=>lhs;simp[Q7,Tryz.results81]
  ·rfl
 refine Wr ?_ (r:=by conv=>lhs;simp[t]);refine Wn ?_;refine Ws ?_;refine Wr ?_;refine Wt ?_;rw[show Wj p a b=(zeroV,1)by simp[Wj,i,j,l,o,t]];try dsimp only[Q8,Q5]
 apply Z7.ret
 ·rfl
 ·conv=>lhs;simp[Q7,Tryz.results81]
 ·rfl
@[simp] theorem tyE_str:H7 Tryz.prog 9=none:=by kernel_rfl
theorem Jr{s:ByteArray}{a:Nat}{c:UInt8}(h:s[a]? =some c):s.data.toList.drop a=c::s.data.toList.drop (a+1):=by
 have f:s.data.toList[a]? =some c:=by
  rw[Array.getElem?_toList];exact h
 obtain⟨g,i⟩:=List.getElem?_eq_some_iff.1 f;rw[List.drop_eq_getElem_cons g,i]
theorem DX{s:ByteArray}{a:Nat}(h:s.size<=a):s.data.toList.drop a=[]:=List.drop_of_length_le (by rw[JM];exact h)
theorem Xj4{s:ByteArray}{a:Nat}{c:UInt8}(h:s[a]? =some c)(f:Uy c=true):Bj s (a+1)=Bj s a:=by
 unfold Bj;rw[Jr h,Ot,if_pos f];omega
theorem Qj8{s:ByteArray}{a:Nat}{c:UInt8}(h:s[a]? =some c)(f:Uy c=false):Bj s a=a:=by
 unfold Bj;rw[Jr h,Ot,if_neg (by rw[f];decide)];omega
theorem Zv1{s:ByteArray}{a:Nat}(h:s.size<=a):Bj s a=a:=by
 unfold Bj;rw[DX h,Ot];omega
def RS(s:ByteArray)(a:Nat):Nat:=a+Zd4 (s.data.toList.drop a)
theorem Xc{s:ByteArray}{a:Nat}(h:s.size<=a):FO s a=a:=by
 unfold FO;rw[DX h,Xd5];omega
theorem Pm{s:ByteArray}{a:Nat}{c:UInt8}(h:s[a]? =some c)(f:XK c=true):FO s a=a+1:=by
 unfold FO;rw[Jr h,Xd5,if_pos f]
theorem Ya{s:ByteArray}{a:Nat}{c:UInt8}(h:s[a]? =some c)(f:XK c=false):FO s a=RS s a:=by
 unfold FO RS;rw[Jr h,Xd5,if_neg (by rw[f];decide)]
theorem Sk{s:ByteArray}{a:Nat}(h:s.size<=a):RS s a=a:=by
 unfold RS;rw[DX h,Zd4];omega
theorem Ph{s:ByteArray}{a:Nat}{c:UInt8}(h:s[a]? =some c)(f:Uy c=false)(g:XK c=false):RS s (a+1)=RS s a:=by
 unfold RS;rw[Jr h,Zd4,if_neg (by rw[f,g];decide)];omega
theorem Nk{s:ByteArray}{a:Nat}{c:UInt8}(h:s[a]? =some c)(f:(Uy c||XK c)=true):RS s a=a:=by
 unfold RS;rw[Jr h,Zd4,if_pos f];omega
theorem Kq{c:UInt8}:XK c=(decide ((c.toNat:Int)=40)||decide ((c.toNat:Int)=41)):=by
 unfold XK;rw[Bool.eq_iff_iff];simp only[Bool.or_eq_true,beq_iff_eq,decide_eq_true_eq];omega
theorem JQ(c:UInt8):Qv Tryz.prog 48 [.d (.num .u8 c.toNat)] (λ_=>Bv (Uy c)) none:=by
 have j:Uy c=(decide ((c.toNat:Int)=32)||(decide ((c.toNat:Int)=9)||decide ((c.toNat:Int)=10))):=by
  unfold Uy;rw[Bool.eq_iff_iff];simp only[Bool.or_eq_true,beq_iff_eq,decide_eq_true_eq];omega
 have l:0<=(c.toNat:Int):=oM;have o:(c.toNat:Int)<=255:=by have:=c.toNat_lt;omega
 rw[j];clear j;generalize(c.toNat:Int)=n at *;by_cases f:n=32
 ·subst f;refine Qv.of Tryz.func48 rfl rfl rfl (Nat.le_of_ble_eq_true rfl) ?_;show X8 _ _ (Z7 _ Tryz.f48 _ _ _) (Z6 13 _);refine Wb ?_;apply Wx [] []
  ·conv=>lhs;simp
  ·trivial
  refine Wr ?_;refine Wt ?_;try dsimp only[Q8,Q5]
  apply Z7.ret
  ·rfl
  ·conv=>lhs;simp[Q7,Tryz.results48]
  rfl
 by_cases g:n=9
 ·subst g;refine Qv.of Tryz.func48 rfl rfl rfl (Nat.le_of_ble_eq_true rfl) ?_;show X8 _ _ (Z7 _ Tryz.f48 _ _ _) (Z6 13 _);refine Wb ?_;apply Wx [] []
  ·conv=>lhs;simp
  ·trivial
  refine Wr ?_;refine Wt ?_;try dsimp only[Q8,Q5]
  apply Z7.ret
  ·rfl
  ·conv=>lhs;simp[Q7,Tryz.results48]
  rfl
 by_cases i:n=10
 ·subst i;refine Qv.of Tryz.func48 rfl rfl rfl (Nat.le_of_ble_eq_true rfl) ?_;show X8 _ _ (Z7 _ Tryz.f48 _ _ _) (Z6 13 _);refine Wb ?_;apply Wx [] []
  ·conv=>lhs;simp
  ·trivial
  refine Wr ?_;refine Wt ?_;try dsimp only[Q8,Q5]
  apply Z7.ret
  ·rfl
  ·conv=>lhs;simp[Q7,Tryz.results48]
  rfl
 rw[show(decide (n=32)||(decide (n=9)||decide (n=10)))=false from by simp[f,g,i]];refine Qv.of Tryz.func48 rfl rfl rfl (Nat.le_of_ble_eq_true rfl) ?_;show X8 _ _ (Z7 _ Tryz.f48 _ _ _) (Z6 13 _);refine Wb ?_;apply Wx [] []
 ·conv=>lhs;simp
 ·trivial
 refine Wr ?_ (r:=by conv=>lhs;simp[f,g,i]);refine Wt ?_;try dsimp only[Q8,Q5]
 apply Z7.ret
 ·rfl
 ·conv=>lhs;simp[Q7,Tryz.results48]
 rfl
abbrev pO(s:ByteArray)(a e:Int):Q9:=.blk 77 [Sv s,Iv a,Iv e]
theorem Yu(s:ByteArray)(a e x:Int):Z0 Tryz.prog 50 [.ptr 1000 0,Iv x] [(1000,pO s a e)] (.tuple []) [(1000,pO s a (ZM e x))]:=by
 unfold pO;by_cases f:e=0
 ·subst f;rw[show ZM 0 x=x from rfl];refine Z0.of Tryz.func50 rfl rfl (Nat.le_of_ble_eq_true rfl) ?_;show X8 _ _ (Qz _ Tryz.f50 _ _) (X7 13 _ _);refine Wr ?_;refine Wy ?_;refine Wr ?_;try dsimp only[Q8,Q5]
  apply Qz.normal
  ·rfl
  ·conv=>lhs;simp[Q7,Tryz.results50]
  ·rfl
  ·simp[Qq,Q4]
 rw[show ZM e x=e from if_neg f];refine Z0.of Tryz.func50 rfl rfl (Nat.le_of_ble_eq_true rfl) ?_;show X8 _ _ (Qz _ Tryz.f50 _ _) (X7 13 _ _);refine Wr ?_ (r:=by conv=>lhs;simp[f]);refine Wn ?_;refine Ws ?_;try dsimp only[Q8,Q5]
 apply Qz.normal
 ·rfl
 ·conv=>lhs;simp[Q7,Tryz.results50]
 ·rfl
 ·simp[Qq,Q4]
theorem Xg(s:ByteArray)(a:Nat)(e:Int)(ha:a<=s.size)(hs:s.size<=1500):Z0 Tryz.prog 27 [.ptr 1000 0] [(1000,pO s a e)] (Sv (Cq s a)) [(1000,pO s (Bj s a) e)]:=by
 unfold pO;obtain⟨N,t⟩:∃N:Int,(s.size:Int)=N:=⟨_,rfl⟩
 obtain⟨W,l⟩:∃W,W=Cq s a:=⟨_,rfl⟩
 rw[<-l];unfold Cq at l;obtain⟨A,hA⟩:∃A,A=Bj s a:=⟨_,rfl⟩
 rw[<-hA]at l⊢;refine Z0.of Tryz.func27 rfl rfl (Nat.le_of_ble_eq_true rfl) ?_;show X8 _ _ (Qz _ Tryz.f27 _ _) (X7 117 _ _);refine Wr ?_;refine Wb ?_;refine Wl (σ:=λu:{u:Nat // (Bj s u=Bj s a/\u<=s.size)}=>⟨117,[(0,.ptr 1000 0)],[(1000,some (.blk 77 [Sv s,Iv (u.1:Int),Iv e]))]⟩)
  (μ:=λu=>s.size-u.1) ⟨a,⟨rfl,ha⟩⟩ (Le.sub (by simp) (by simp)) (λ⟨j,hw⟩=>?_)
 dsimp only;obtain⟨f,a2⟩:=hw;by_cases P:(j:Int)<N
 ·have I:j<s.size:=oM;have g:s[j]? =some s[j]:=by rw[getElem?_pos]
  generalize s[j]=c at g;obtain⟨cn,o⟩:∃n:Int,(c.toNat:Int)=n:=⟨_,rfl⟩
  have U:=JQ c;obtain⟨q,hq⟩:∃q,Uy c=q:=⟨_,rfl⟩
  rw[hq,o]at U;cases q with
  |true=>
   refine Wz [] [.p (λ_=>Bv true) none] mixed ?_ (hr:=by conv=>lhs;simp[t,g,o,P]);refine Wy ?_;refine Ws ?_;refine Wr ?_;refine⟨⟨j+1,⟨by rw[Xj4 g hq];exact f,oM⟩⟩,by dsimp only;omega,?_⟩;dsimp only;exact Le.sub (by simp) (by simp)
  |false=>
   refine Wz [] [.p (λ_=>Bv false) none] mixed ?_ (hr:=by conv=>lhs;simp[t,g,o,P]);refine Wn ?_;refine We ?_;rw[Qj8 g hq]at f;clear hq U g o P I;obtain rfl:A=j:=hA.trans f.symm;clear f;refine Wr ?_;by_cases P:(A:Int)<N
   ·have I:A<s.size:=oM;have J:s[A]? =some s[A]:=by rw[getElem?_pos]
    generalize s[A]=d at J;obtain⟨dn,a1⟩:∃n:Int,(d.toNat:Int)=n:=⟨_,rfl⟩
    by_cases q1:dn=40
    ·refine Wr ?_ (r:=by conv=>lhs;simp[t,J,a1,P,q1]);refine Wy ?_;have C:XK d=true:=by rw[Kq,Bool.or_eq_true,decide_eq_true_eq,decide_eq_true_eq];omega
     rw[Pm J C]at l;rw[l];refine Wr ?_ (r:=by conv=>lhs;simp[t]);refine Wt ?_;try dsimp only[Q8,Q5]
     apply Qz.ret
     ·rfl
     ·conv=>lhs;simp[Q7,Tryz.results27]
     ·first|rfl|simp
     ·simp[Qq,Q4]
    by_cases q2:dn=41
    ·refine Wr ?_ (r:=by conv=>lhs;simp[t,J,a1,P,q2]);refine Wy ?_;have C:XK d=true:=by rw[Kq,Bool.or_eq_true,decide_eq_true_eq,decide_eq_true_eq];omega
     rw[Pm J C]at l;rw[l];refine Wr ?_ (r:=by conv=>lhs;simp[t]);refine Wt ?_;try dsimp only[Q8,Q5]
     apply Qz.ret
     ·rfl
     ·conv=>lhs;simp[Q7,Tryz.results27]
     ·first|rfl|simp
     ·simp[Qq,Q4]
    refine Wr ?_ (r:=by conv=>lhs;simp[t,J,a1,P,q1,q2]);refine Wn ?_;refine Ws ?_;refine Wb ?_;refine Wl (σ:=λu:{u:Nat // (RS s u=RS s A/\A<=u/\u<=s.size)}=>⟨117,[(0,.ptr 1000 0),(3,Iv (u.1:Int))],[(1000,some (.blk 77 [Sv s,Iv (A:Int),Iv e]))]⟩)
     (μ:=λu=>s.size-u.1) ⟨A,⟨rfl,Nat.le_refl _,a2⟩⟩ (Le.sub (by simp) (by simp)) (λ⟨k,hw⟩=>?_)
    dsimp only;obtain⟨f,a3,a4⟩:=hw;by_cases P:(k:Int)<N
    ·have I:k<s.size:=oM;have g:s[k]? =some s[k]:=by rw[getElem?_pos]
     generalize s[k]=c at g;obtain⟨cn,o⟩:∃n:Int,(c.toNat:Int)=n:=⟨_,rfl⟩
     have U:=JQ c;obtain⟨q,hq⟩:∃q,Uy c=q:=⟨_,rfl⟩
     rw[hq,o]at U;cases q with
     |true=>
      refine Wg [] [.p (λ_=>Bv true) none] ?_ (hr:=by conv=>lhs;simp[t,g,o,P]);refine Wn ?_;refine We ?_;have i:=Nk g (by rw[hq];rfl);have C:XK d=false:=by rw[Kq,Bool.or_eq_false_iff,decide_eq_false_iff_not,decide_eq_false_iff_not];omega
      rw[Ya J C]at l;rw[i]at f;rw[<-f]at l;rw[l];refine Wz [] [] mixed ?_ (hr:=by conv=>lhs;simp[t]);refine Wt ?_;try dsimp only[Q8,Q5]
      apply Qz.ret
      ·rfl
      ·conv=>lhs;simp[Q7,Tryz.results27]
      ·first|rfl|simp
      ·simp[Qq,Q4]
     |false=>
      by_cases q3:cn=40
      ·have b1:=eq_true q3;refine Wg [] [.p (λ_=>Bv false) none] ?_ (hr:=by conv=>lhs;simp[t,g,o,P,b1]);refine Wn ?_;refine We ?_;have i:=Nk g (by rw[Bool.or_eq_true,Kq,Bool.or_eq_true,decide_eq_true_eq,decide_eq_true_eq];omega);have C:XK d=false:=by rw[Kq,Bool.or_eq_false_iff,decide_eq_false_iff_not,decide_eq_false_iff_not];omega
       rw[Ya J C]at l;rw[i]at f;rw[<-f]at l;rw[l];refine Wz [] [] mixed ?_ (hr:=by conv=>lhs;simp[t]);refine Wt ?_;try dsimp only[Q8,Q5]
       apply Qz.ret
       ·rfl
       ·conv=>lhs;simp[Q7,Tryz.results27]
       ·first|rfl|simp
       ·simp[Qq,Q4]
      by_cases q4:cn=41
      ·have b2:=eq_true q4;refine Wg [] [.p (λ_=>Bv false) none] ?_ (hr:=by conv=>lhs;simp[t,g,o,P,q3,b2]);refine Wn ?_;refine We ?_;have i:=Nk g (by rw[Bool.or_eq_true,Kq,Bool.or_eq_true,decide_eq_true_eq,decide_eq_true_eq];omega);have C:XK d=false:=by rw[Kq,Bool.or_eq_false_iff,decide_eq_false_iff_not,decide_eq_false_iff_not];omega
       rw[Ya J C]at l;rw[i]at f;rw[<-f]at l;rw[l];refine Wz [] [] mixed ?_ (hr:=by conv=>lhs;simp[t]);refine Wt ?_;try dsimp only[Q8,Q5]
       apply Qz.ret
       ·rfl
       ·conv=>lhs;simp[Q7,Tryz.results27]
       ·first|rfl|simp
       ·simp[Qq,Q4]
      refine Wg [] [.p (λ_=>Bv false) none] ?_ (hr:=by conv=>lhs;simp[t,g,o,P,q3,q4]);refine Wy ?_;refine Ws ?_;refine Wr ?_;refine⟨⟨k+1,⟨by rw[Ph g hq (by rw[Kq,Bool.or_eq_false_iff,decide_eq_false_iff_not,decide_eq_false_iff_not];omega)];exact f,oM,oM⟩⟩,by dsimp only;omega,?_⟩;dsimp only;exact Le.sub (by simp) (by simp)
    have I:s.size<=k:=oM;refine Wr ?_ (r:=by conv=>lhs;simp[t,P]);refine Wn ?_;refine We ?_;have i:=Sk I;have C:XK d=false:=by rw[Kq,Bool.or_eq_false_iff,decide_eq_false_iff_not,decide_eq_false_iff_not];omega
    rw[Ya J C]at l;rw[i]at f;rw[<-f]at l;rw[l];refine Wz [] [] mixed ?_ (hr:=by conv=>lhs;simp[t]);refine Wt ?_;try dsimp only[Q8,Q5]
    apply Qz.ret
    ·rfl
    ·conv=>lhs;simp[Q7,Tryz.results27]
    ·first|rfl|simp
    ·simp[Qq,Q4]
   have I:s.size<=A:=oM;have T:=I;refine Wr ?_ (r:=by conv=>lhs;simp[t,P]);refine Wn ?_;refine Ws ?_;refine Wb ?_;refine Wl (σ:=λu:{u:Nat // (RS s u=RS s A/\A<=u/\u<=s.size)}=>⟨117,[(0,.ptr 1000 0),(3,Iv (u.1:Int))],[(1000,some (.blk 77 [Sv s,Iv (A:Int),Iv e]))]⟩)
    (μ:=λu=>s.size-u.1) ⟨A,⟨rfl,Nat.le_refl _,a2⟩⟩ (Le.sub (by simp) (by simp)) (λ⟨k,hw⟩=>?_)
   dsimp only;obtain⟨f,a3,a4⟩:=hw;by_cases P:(k:Int)<N
   ·have I:k<s.size:=oM;have g:s[k]? =some s[k]:=by rw[getElem?_pos]
    generalize s[k]=c at g;obtain⟨cn,o⟩:∃n:Int,(c.toNat:Int)=n:=⟨_,rfl⟩
    have U:=JQ c;obtain⟨q,hq⟩:∃q,Uy c=q:=⟨_,rfl⟩
    rw[hq,o]at U;cases q with
    |true=>
     refine Wg [] [.p (λ_=>Bv true) none] ?_ (hr:=by conv=>lhs;simp[t,g,o,P]);refine Wn ?_;refine We ?_;have i:=Nk g (by rw[hq];rfl);rw[show FO s A=RS s A from by rw[Xc T,Sk T]]at l;rw[i]at f;rw[<-f]at l;rw[l];refine Wz [] [] mixed ?_ (hr:=by conv=>lhs;simp[t]);refine Wt ?_;try dsimp only[Q8,Q5]
     apply Qz.ret
     ·rfl
     ·conv=>lhs;simp[Q7,Tryz.results27]
     ·first|rfl|simp
     ·simp[Qq,Q4]
    |false=>
     by_cases q5:cn=40
     ·have b3:=eq_true q5;refine Wg [] [.p (λ_=>Bv false) none] ?_ (hr:=by conv=>lhs;simp[t,g,o,P,b3]);refine Wn ?_;refine We ?_;have i:=Nk g (by rw[Bool.or_eq_true,Kq,Bool.or_eq_true,decide_eq_true_eq,decide_eq_true_eq];omega);rw[show FO s A=RS s A from by rw[Xc T,Sk T]]at l;rw[i]at f;rw[<-f]at l;rw[l];refine Wz [] [] mixed ?_ (hr:=by conv=>lhs;simp[t]);refine Wt ?_;try dsimp only[Q8,Q5]
      apply Qz.ret
      ·rfl
      ·conv=>lhs;simp[Q7,Tryz.results27]
      ·first|rfl|simp
      ·simp[Qq,Q4]
     by_cases q6:cn=41
     ·have b4:=eq_true q6;refine Wg [] [.p (λ_=>Bv false) none] ?_ (hr:=by conv=>lhs;simp[t,g,o,P,q5,b4]);refine Wn ?_;refine We ?_;have i:=Nk g (by rw[Bool.or_eq_true,Kq,Bool.or_eq_true,decide_eq_true_eq,decide_eq_true_eq];omega);rw[show FO s A=RS s A from by rw[Xc T,Sk T]]at l;rw[i]at f;rw[<-f]at l;rw[l];refine Wz [] [] mixed ?_ (hr:=by conv=>lhs;simp[t]);refine Wt ?_;try dsimp only[Q8,Q5]
      apply Qz.ret
      ·rfl
      ·conv=>lhs;simp[Q7,Tryz.results27]
      ·first|rfl|simp
      ·simp[Qq,Q4]
     refine Wg [] [.p (λ_=>Bv false) none] ?_ (hr:=by conv=>lhs;simp[t,g,o,P,q5,q6]);refine Wy ?_;refine Ws ?_;refine Wr ?_;refine⟨⟨k+1,⟨by rw[Ph g hq (by rw[Kq,Bool.or_eq_false_iff,decide_eq_false_iff_not,decide_eq_false_iff_not];omega)];exact f,oM,oM⟩⟩,by dsimp only;omega,?_⟩;dsimp only;exact Le.sub (by simp) (by simp)
   have I:s.size<=k:=oM;refine Wr ?_ (r:=by conv=>lhs;simp[t,P]);refine Wn ?_;refine We ?_;have i:=Sk I;rw[show FO s A=RS s A from by rw[Xc T,Sk T]]at l;rw[i]at f;rw[<-f]at l;rw[l];refine Wz [] [] mixed ?_ (hr:=by conv=>lhs;simp[t]);refine Wt ?_;try dsimp only[Q8,Q5]
   apply Qz.ret
   ·rfl
   ·conv=>lhs;simp[Q7,Tryz.results27]
   ·first|rfl|simp
   ·simp[Qq,Q4]
 have I:s.size<=j:=oM;refine Wz [] [] mixed ?_ (hr:=by conv=>lhs;simp[t,P]);refine Wn ?_;refine We ?_;rw[Zv1 I]at f;clear P I;obtain rfl:A=j:=hA.trans f.symm;clear f;refine Wr ?_;by_cases P:(A:Int)<N
 ·have I:A<s.size:=oM;have J:s[A]? =some s[A]:=by rw[getElem?_pos]
  generalize s[A]=d at J;obtain⟨dn,a1⟩:∃n:Int,(d.toNat:Int)=n:=⟨_,rfl⟩
  by_cases q7:dn=40
  ·refine Wr ?_ (r:=by conv=>lhs;simp[t,J,a1,P,q7]);refine Wy ?_;have C:XK d=true:=by rw[Kq,Bool.or_eq_true,decide_eq_true_eq,decide_eq_true_eq];omega
   rw[Pm J C]at l;rw[l];refine Wr ?_ (r:=by conv=>lhs;simp[t]);refine Wt ?_;try dsimp only[Q8,Q5]
   apply Qz.ret
   ·rfl
   ·conv=>lhs;simp[Q7,Tryz.results27]
   ·first|rfl|simp
   ·simp[Qq,Q4]
  by_cases q8:dn=41
  ·refine Wr ?_ (r:=by conv=>lhs;simp[t,J,a1,P,q8]);refine Wy ?_;have C:XK d=true:=by rw[Kq,Bool.or_eq_true,decide_eq_true_eq,decide_eq_true_eq];omega
   rw[Pm J C]at l;rw[l];refine Wr ?_ (r:=by conv=>lhs;simp[t]);refine Wt ?_;try dsimp only[Q8,Q5]
   apply Qz.ret
   ·rfl
   ·conv=>lhs;simp[Q7,Tryz.results27]
   ·first|rfl|simp
   ·simp[Qq,Q4]
  refine Wr ?_ (r:=by conv=>lhs;simp[t,J,a1,P,q7,q8]);refine Wn ?_;refine Ws ?_;refine Wb ?_;refine Wl (σ:=λu:{u:Nat // (RS s u=RS s A/\A<=u/\u<=s.size)}=>⟨117,[(0,.ptr 1000 0),(3,Iv (u.1:Int))],[(1000,some (.blk 77 [Sv s,Iv (A:Int),Iv e]))]⟩)
   (μ:=λu=>s.size-u.1) ⟨A,⟨rfl,Nat.le_refl _,a2⟩⟩ (Le.sub (by simp) (by simp)) (λ⟨k,hw⟩=>?_)
  dsimp only;obtain⟨f,a3,a4⟩:=hw;by_cases P:(k:Int)<N
  ·have I:k<s.size:=oM;have g:s[k]? =some s[k]:=by rw[getElem?_pos]
   generalize s[k]=c at g;obtain⟨cn,o⟩:∃n:Int,(c.toNat:Int)=n:=⟨_,rfl⟩
   have U:=JQ c;obtain⟨q,hq⟩:∃q,Uy c=q:=⟨_,rfl⟩
   rw[hq,o]at U;cases q with
   |true=>
    refine Wg [] [.p (λ_=>Bv true) none] ?_ (hr:=by conv=>lhs;simp[t,g,o,P]);refine Wn ?_;refine We ?_;have i:=Nk g (by rw[hq];rfl);have C:XK d=false:=by rw[Kq,Bool.or_eq_false_iff,decide_eq_false_iff_not,decide_eq_false_iff_not];omega
    rw[Ya J C]at l;rw[i]at f;rw[<-f]at l;rw[l];refine Wz [] [] mixed ?_ (hr:=by conv=>lhs;simp[t]);refine Wt ?_;try dsimp only[Q8,Q5]
    apply Qz.ret
    ·rfl
    ·conv=>lhs;simp[Q7,Tryz.results27]
    ·first|rfl|simp
    ·simp[Qq,Q4]
   |false=>
    by_cases q9:cn=40
    ·have b5:=eq_true q9;refine Wg [] [.p (λ_=>Bv false) none] ?_ (hr:=by conv=>lhs;simp[t,g,o,P,b5]);refine Wn ?_;refine We ?_;have i:=Nk g (by rw[Bool.or_eq_true,Kq,Bool.or_eq_true,decide_eq_true_eq,decide_eq_true_eq];omega);have C:XK d=false:=by rw[Kq,Bool.or_eq_false_iff,decide_eq_false_iff_not,decide_eq_false_iff_not];omega
     rw[Ya J C]at l;rw[i]at f;rw[<-f]at l;rw[l];refine Wz [] [] mixed ?_ (hr:=by conv=>lhs;simp[t]);refine Wt ?_;try dsimp only[Q8,Q5]
     apply Qz.ret
     ·rfl
     ·conv=>lhs;simp[Q7,Tryz.results27]
     ·first|rfl|simp
     ·simp[Qq,Q4]
    by_cases a6:cn=41
    ·have a7:=eq_true a6;refine Wg [] [.p (λ_=>Bv false) none] ?_ (hr:=by conv=>lhs;simp[t,g,o,P,q9,a7]);refine Wn ?_;refine We ?_;have i:=Nk g (by rw[Bool.or_eq_true,Kq,Bool.or_eq_true,decide_eq_true_eq,decide_eq_true_eq];omega);have C:XK d=false:=by rw[Kq,Bool.or_eq_false_iff,decide_eq_false_iff_not,decide_eq_false_iff_not];omega
     rw[Ya J C]at l;rw[i]at f;rw[<-f]at l;rw[l];refine Wz [] [] mixed ?_ (hr:=by conv=>lhs;simp[t]);refine Wt ?_;try dsimp only[Q8,Q5]
     apply Qz.ret
     ·rfl
     ·conv=>lhs;simp[Q7,Tryz.results27]
     ·first|rfl|simp
     ·simp[Qq,Q4]
    refine Wg [] [.p (λ_=>Bv false) none] ?_ (hr:=by conv=>lhs;simp[t,g,o,P,q9,a6]);refine Wy ?_;refine Ws ?_;refine Wr ?_;refine⟨⟨k+1,⟨by rw[Ph g hq (by rw[Kq,Bool.or_eq_false_iff,decide_eq_false_iff_not,decide_eq_false_iff_not];omega)];exact f,oM,oM⟩⟩,by dsimp only;omega,?_⟩;dsimp only;exact Le.sub (by simp) (by simp)
  have I:s.size<=k:=oM;refine Wr ?_ (r:=by conv=>lhs;simp[t,P]);refine Wn ?_;refine We ?_;have i:=Sk I;have C:XK d=false:=by rw[Kq,Bool.or_eq_false_iff,decide_eq_false_iff_not,decide_eq_false_iff_not];omega
  rw[Ya J C]at l;rw[i]at f;rw[<-f]at l;rw[l];refine Wz [] [] mixed ?_ (hr:=by conv=>lhs;simp[t]);refine Wt ?_;try dsimp only[Q8,Q5]
  apply Qz.ret
  ·rfl
  ·conv=>lhs;simp[Q7,Tryz.results27]
  ·first|rfl|simp
  ·simp[Qq,Q4]
 have I:s.size<=A:=oM;have T:=I;refine Wr ?_ (r:=by conv=>lhs;simp[t,P]);refine Wn ?_;refine Ws ?_;refine Wb ?_;refine Wl (σ:=λu:{u:Nat // (RS s u=RS s A/\A<=u/\u<=s.size)}=>⟨117,[(0,.ptr 1000 0),(3,Iv (u.1:Int))],[(1000,some (.blk 77 [Sv s,Iv (A:Int),Iv e]))]⟩)
  (μ:=λu=>s.size-u.1) ⟨A,⟨rfl,Nat.le_refl _,a2⟩⟩ (Le.sub (by simp) (by simp)) (λ⟨k,hw⟩=>?_)
 dsimp only;obtain⟨f,a3,a4⟩:=hw;by_cases P:(k:Int)<N
 ·have I:k<s.size:=oM;have g:s[k]? =some s[k]:=by rw[getElem?_pos]
  generalize s[k]=c at g;obtain⟨cn,o⟩:∃n:Int,(c.toNat:Int)=n:=⟨_,rfl⟩
  have U:=JQ c;obtain⟨q,hq⟩:∃q,Uy c=q:=⟨_,rfl⟩
  rw[hq,o]at U;cases q with
  |true=>
   refine Wg [] [.p (λ_=>Bv true) none] ?_ (hr:=by conv=>lhs;simp[t,g,o,P]);refine Wn ?_;refine We ?_;have i:=Nk g (by rw[hq];rfl);rw[show FO s A=RS s A from by rw[Xc T,Sk T]]at l;rw[i]at f;rw[<-f]at l;rw[l];refine Wz [] [] mixed ?_ (hr:=by conv=>lhs;simp[t]);refine Wt ?_;try dsimp only[Q8,Q5]
   apply Qz.ret
   ·rfl
   ·conv=>lhs;simp[Q7,Tryz.results27]
   ·first|rfl|simp
   ·simp[Qq,Q4]
  |false=>
   by_cases a5:cn=40
   ·have a8:=eq_true a5;refine Wg [] [.p (λ_=>Bv false) none] ?_ (hr:=by conv=>lhs;simp[t,g,o,P,a8]);refine Wn ?_;refine We ?_;have i:=Nk g (by rw[Bool.or_eq_true,Kq,Bool.or_eq_true,decide_eq_true_eq,decide_eq_true_eq];omega);rw[show FO s A=RS s A from by rw[Xc T,Sk T]]at l;rw[i]at f;rw[<-f]at l;rw[l];refine Wz [] [] mixed ?_ (hr:=by conv=>lhs;simp[t]);refine Wt ?_;try dsimp only[Q8,Q5]
    apply Qz.ret
    ·rfl
    ·conv=>lhs;simp[Q7,Tryz.results27]
    ·first|rfl|simp
    ·simp[Qq,Q4]
   by_cases a9:cn=41
   ·have b0:=eq_true a9;refine Wg [] [.p (λ_=>Bv false) none] ?_ (hr:=by conv=>lhs;simp[t,g,o,P,a5,b0]);refine Wn ?_;refine We ?_;have i:=Nk g (by rw[Bool.or_eq_true,Kq,Bool.or_eq_true,decide_eq_true_eq,decide_eq_true_eq];omega);rw[show FO s A=RS s A from by rw[Xc T,Sk T]]at l;rw[i]at f;rw[<-f]at l;rw[l];refine Wz [] [] mixed ?_ (hr:=by conv=>lhs;simp[t]);refine Wt ?_;try dsimp only[Q8,Q5]
    apply Qz.ret
    ·rfl
    ·conv=>lhs;simp[Q7,Tryz.results27]
    ·first|rfl|simp
    ·simp[Qq,Q4]
   refine Wg [] [.p (λ_=>Bv false) none] ?_ (hr:=by conv=>lhs;simp[t,g,o,P,a5,a9]);refine Wy ?_;refine Ws ?_;refine Wr ?_;refine⟨⟨k+1,⟨by rw[Ph g hq (by rw[Kq,Bool.or_eq_false_iff,decide_eq_false_iff_not,decide_eq_false_iff_not];omega)];exact f,oM,oM⟩⟩,by dsimp only;omega,?_⟩;dsimp only;exact Le.sub (by simp) (by simp)
 have I:s.size<=k:=oM;refine Wr ?_ (r:=by conv=>lhs;simp[t,P]);refine Wn ?_;refine We ?_;have i:=Sk I;rw[show FO s A=RS s A from by rw[Xc T,Sk T]]at l;rw[i]at f;rw[<-f]at l;rw[l];refine Wz [] [] mixed ?_ (hr:=by conv=>lhs;simp[t]);refine Wt ?_;try dsimp only[Q8,Q5]
 apply Qz.ret
 ·rfl
 ·conv=>lhs;simp[Q7,Tryz.results27]
 ·first|rfl|simp
 ·simp[Qq,Q4]
theorem WC{b:ByteArray}(h:b.size=0):b=ByteArray.empty:=by
 obtain⟨⟨l⟩⟩:=b;rcases l with _|⟨x,l⟩
 ·rfl
 ·simp[ByteArray.size]at h
@[simp] theorem mk_size (a:Array UInt8):(ByteArray.mk a).size=a.size:=rfl
@[simp] theorem Xw1:1<=maxLen:=by decide
@[simp] theorem Xw0:2<=maxLen:=by decide
@[simp] theorem Xv9:3<=maxLen:=by decide
@[simp] theorem Xv7:5<=maxLen:=by decide
theorem TZ{w:ByteArray}{c:UInt8}(h:w[0]? =some c):sharp w=decide ((c.toNat:Int)=35):=by
 unfold sharp;have f:=Jr h;rw[List.drop_zero]at f;rw[f,Bool.eq_iff_iff,beq_iff_eq,decide_eq_true_eq];omega
theorem I4(s:ByteArray)(a:Nat)(e:Int)(i:a<=s.size)(o:s.size<=1500):Z0 Tryz.prog 49 [.ptr 1000 0] [(1000,pO s a e)] (Sv (Cq s a)) [(1000,pO s (XE s (a,e)).1 (XE s (a,e)).2)]:=by
 have t:=Xg s a e i o;have C:=XB i;have I:=R7 i;have T:=KW I.2;unfold XE;dsimp only;generalize Cq s a=W at *;generalize Bj s a=A at *;generalize FO s A=J at *;have f:(A:Int)+(W.size:Int)=(J:Int):=oM;unfold pO at *;refine Z0.of Tryz.func49 rfl rfl (Nat.le_of_ble_eq_true rfl) ?_;show X8 _ _ (Qz _ Tryz.f49 _ _) (X7 21 _ _);refine Wr ?_;refine Wg [] [.c [] [.ptr 1000 0] [(1000,.blk 77 [Sv s,Iv (a:Int),Iv e])] (Sv W) [(1000,.blk 77 [Sv s,Iv (A:Int),Iv e])]] ?_;by_cases g:W=⟨#[]⟩
 ·have j:=eq_true g;refine Wr ?_ (r:=by conv=>lhs;simp[j]);refine Wy ?_;have l:W.size=0:=by rw[g];rfl
  have P:=Yu s A e 8;rw[if_pos l];refine Wg [] [.c [] [.ptr 1000 0,Iv 8] [(1000,.blk 77 [Sv s,Iv (A:Int),Iv e])] (.tuple []) [(1000,.blk 77 [Sv s,Iv (A:Int),Iv (ZM e 8)])]] ?_;refine Wr ?_ (r:=by conv=>lhs;simp[f]);refine Wr ?_;refine Wt ?_;try dsimp only[Q8,Q5]
  apply Qz.ret
  ·rfl
  ·conv=>lhs;simp[Q7,Tryz.results49]
  ·first|rfl|simp
  ·simp[Qq,Q4]
 refine Wr ?_ (r:=by conv=>lhs;simp[g]);refine Wn ?_;refine Ws ?_;have l:W.size≠0:=λh=>g (WC h)
 rw[if_neg l];refine Wr ?_ (r:=by conv=>lhs;simp[f]);refine Wr ?_;refine Wt ?_;try dsimp only[Q8,Q5]
 apply Qz.ret
 ·rfl
 ·conv=>lhs;simp[Q7,Tryz.results49]
 ·first|rfl|simp
 ·simp[Qq,Q4]
theorem W9(s w:ByteArray)(a:Nat)(e:Int)(o:a<=s.size)(r:s.size<=1500):Z0 Tryz.prog 28 [.ptr 1000 0,Sv w] [(1000,pO s a e)] (.tuple []) [(1000,pO s (Kj s w (a,e)).1 (Kj s w (a,e)).2)]:=by
 have t:=I4 s a e o r;have f:=U0 (s:=s) (p:=(a,e)) o;have C:=f.sz;unfold Kj;dsimp only;generalize Cq s a=W at *;generalize XE s (a,e)=I at *;obtain⟨g,i⟩:=I;dsimp only at *;unfold pO at *;refine Z0.of Tryz.func28 rfl rfl (Nat.le_of_ble_eq_true rfl) ?_;show X8 _ _ (Qz _ Tryz.f28 _ _) (X7 10 _ _);by_cases j:W=w
 ·have l:=eq_true j;refine Wg [] [.c [] [.ptr 1000 0] [(1000,.blk 77 [Sv s,Iv (a:Int),Iv e])] (Sv W) [(1000,.blk 77 [Sv s,Iv (g:Int),Iv i])]] ?_ (hr:=by conv=>lhs;simp[l]);refine Wn ?_;refine Ws ?_;rw[if_pos j];try dsimp only[Q8,Q5]
  apply Qz.normal
  ·rfl
  ·conv=>lhs;simp[Q7,Tryz.results28]
  ·rfl
  ·simp[Qq,Q4]
 refine Wg [] [.c [] [.ptr 1000 0] [(1000,.blk 77 [Sv s,Iv (a:Int),Iv e])] (Sv W) [(1000,.blk 77 [Sv s,Iv (g:Int),Iv i])]] ?_ (hr:=by conv=>lhs;simp[j]);refine Wy ?_;have J:=Yu s g i 2;rw[if_neg j];refine Wg [] [.c [] [.ptr 1000 0,Iv 2] [(1000,.blk 77 [Sv s,Iv (g:Int),Iv i])] (.tuple []) [(1000,.blk 77 [Sv s,Iv (g:Int),Iv (ZM i 2)])]] ?_;try dsimp only[Q8,Q5]
 apply Qz.normal
 ·rfl
 ·conv=>lhs;simp[Q7,Tryz.results28]
 ·rfl
 ·simp[Qq,Q4]
theorem ZF(s:ByteArray)(a:Nat)(e:Int)(g:a<=s.size)(t:s.size<=1500):Z0 Tryz.prog 29 [.ptr 1000 0] [(1000,pO s a e)] (Sv ((U2 s (a,e)).1)) [(1000,pO s (U2 s (a,e)).2.1 (U2 s (a,e)).2.2)]:=by
 have C:=I4 s a e g t;have f:=U0 (s:=s) (p:=(a,e)) g;have I:=f.sz;have l:=XB g;have o:=R7 g;have J:=KW o.2;have r:(Cq s a).size<=1500:=oM;clear l o J;unfold U2;dsimp only;generalize Cq s a=W at *;generalize XE s (a,e)=P at *;obtain⟨i,j⟩:=P;dsimp only at *;unfold pO at *;refine Z0.of Tryz.func29 rfl rfl (Nat.le_of_ble_eq_true rfl) ?_;show X8 _ _ (Qz _ Tryz.f29 _ _) (X7 12 _ _);refine Wr ?_;refine Wg [] [.c [] [.ptr 1000 0] [(1000,.blk 77 [Sv s,Iv (a:Int),Iv e])] (Sv W) [(1000,.blk 77 [Sv s,Iv (i:Int),Iv j])]] ?_;have T:=VQ W oM;generalize F9 W=q at *;cases q with
 |true=>
  refine Wg [] [.p (λ_=>Bv true) none] ?_;refine Wn ?_;refine Ws ?_;refine Wr ?_;refine Wt ?_;try simp only[if_true]
  try dsimp only[Q8,Q5]
  apply Qz.ret
  ·rfl
  ·conv=>lhs;simp[Q7,Tryz.results29]
  ·first|rfl|simp
  ·simp[Qq,Q4]
 |false=>
  refine Wg [] [.p (λ_=>Bv false) none] ?_;refine Wy ?_;have U:=Yu s i j 7;refine Wg [] [.c [] [.ptr 1000 0,Iv 7] [(1000,.blk 77 [Sv s,Iv (i:Int),Iv j])] (.tuple []) [(1000,.blk 77 [Sv s,Iv (i:Int),Iv (ZM j 7)])]] ?_;refine Wr ?_;refine Wt ?_;try simp only[Bool.false_eq_true,if_false]
  try dsimp only[Q8,Q5]
  apply Qz.ret
  ·rfl
  ·conv=>lhs;simp[Q7,Tryz.results29]
  ·first|rfl|simp
  ·simp[Qq,Q4]
theorem Qd1(s:ByteArray)(a:Nat)(e:Int)(C:a<=s.size)(hs:s.size<=1500):Z0 Tryz.prog 53 [.ptr 1000 0] [(1000,pO s a e)] (Iv ((GD false s (a,e)).1)) [(1000,pO s (GD false s (a,e)).2.1 (GD false s (a,e)).2.2)]:=by
 have a3:=I4 s a e C hs;have l:=U0 (s:=s) (p:=(a,e)) C;have a4:=l.sz;have J:=XB C;have h1:=R7 C;have h2:=KW h1.2;have a2:(Cq s a).size<=1500:=oM;clear J h1 h2;rw[Qq0];dsimp only;generalize Cq s a=W at *;generalize XE s (a,e)=p2 at *;obtain⟨f,g⟩:=p2;dsimp only at *;unfold pO at *;refine Z0.of Tryz.func53 rfl rfl (Nat.le_of_ble_eq_true rfl) ?_;show X8 _ _ (Qz _ Tryz.f53 _ _) (X7 26 _ _);refine Wr ?_;refine Wg [] [.c [] [.ptr 1000 0] [(1000,.blk 77 [Sv s,Iv (a:Int),Iv e])] (Sv W) [(1000,.blk 77 [Sv s,Iv (f:Int),Iv g])]] ?_;obtain⟨M,o⟩:∃M:Int,(W.size:Int)=M:=⟨_,rfl⟩
 by_cases P:1<M
 ·have i:W[0]? =some W[0]:=by rw[getElem?_pos]
  generalize W[0]=c at i;rw[TZ i,show decide (1<W.size)=true from decide_eq_true oM,Bool.true_and];obtain⟨T,j⟩:∃n:Int,(c.toNat:Int)=n:=⟨_,rfl⟩
  rw[j];by_cases I:T=35
  ·have U:=eq_true I;refine Wr ?_ (r:=by conv=>lhs;simp[o,i,j,P,U]);refine Wy ?_;rw[show decide (T=35)=true from decide_eq_true I,Bool.true_and];have a5:(W.extract 1 W.size).size<=1500:=by rw[ByteArray.size_extract];omega
   have a1:=Ni (W.extract 1 W.size) oM;have hX:W.extract 1 M.toNat=W.extract 1 W.size:=by rw[<-o,Int.toNat_natCast]
   generalize W.extract 1 W.size=X at *;generalize Kl X=nq at *;obtain⟨n,q⟩:=nq;dsimp only at a1⊢;refine Wg [] [.p (λ_=>.tuple [Iv n,Bv q]) none] ?_ (hr:=by conv=>lhs;simp[o,hX]);cases q with
   |true=>
    refine Wr ?_;refine Wy ?_;refine Wr ?_;refine Wt ?_;try simp only[if_true]
    try dsimp only[Q8,Q5]
    apply Qz.ret
    ·rfl
    ·conv=>lhs;simp[Q7,Tryz.results53]
    ·first|rfl|simp
    ·simp[Qq,Q4]
   |false=>
    refine Wr ?_;refine Wn ?_;refine Ws ?_;have t:=Yu s f g 2;refine Wg [] [.c [] [.ptr 1000 0,Iv 2] [(1000,.blk 77 [Sv s,Iv (f:Int),Iv g])] (.tuple []) [(1000,.blk 77 [Sv s,Iv (f:Int),Iv (ZM g 2)])]] ?_;refine Wr ?_;refine Wt ?_;try simp only[Bool.false_eq_true,if_false]
    try dsimp only[Q8,Q5]
    apply Qz.ret
    ·rfl
    ·conv=>lhs;simp[Q7,Tryz.results53]
    ·first|rfl|simp
    ·simp[Qq,Q4]
  refine Wr ?_ (r:=by conv=>lhs;simp[o,i,j,P,I]);refine Wn ?_;refine Ws ?_;rw[show decide (T=35)=false from decide_eq_false I,Bool.false_and];have t:=Yu s f g 2;refine Wg [] [.c [] [.ptr 1000 0,Iv 2] [(1000,.blk 77 [Sv s,Iv (f:Int),Iv g])] (.tuple []) [(1000,.blk 77 [Sv s,Iv (f:Int),Iv (ZM g 2)])]] ?_;refine Wr ?_;refine Wt ?_;try simp only[Bool.false_eq_true,if_false]
  try dsimp only[Q8,Q5]
  apply Qz.ret
  ·rfl
  ·conv=>lhs;simp[Q7,Tryz.results53]
  ·first|rfl|simp
  ·simp[Qq,Q4]
 rw[show decide (1<W.size)=false from decide_eq_false oM,Bool.false_and,Bool.false_and];refine Wr ?_ (r:=by conv=>lhs;simp[o,P]);refine Wn ?_;refine Ws ?_;have t:=Yu s f g 2;refine Wg [] [.c [] [.ptr 1000 0,Iv 2] [(1000,.blk 77 [Sv s,Iv (f:Int),Iv g])] (.tuple []) [(1000,.blk 77 [Sv s,Iv (f:Int),Iv (ZM g 2)])]] ?_;refine Wr ?_;refine Wt ?_;try simp only[Bool.false_eq_true,if_false]
 try dsimp only[Q8,Q5]
 apply Qz.ret
 ·rfl
 ·conv=>lhs;simp[Q7,Tryz.results53]
 ·first|rfl|simp
 ·simp[Qq,Q4]
theorem YR{f:Type}{s:ByteArray}{one:PS->f×PS}{m c:Nat}{e:Int}{g:List f}{R:List f×PS}(i:e=0)(j:¬Cq s c=XA):(R=(g++(J2 s one (m+1) (c,e)).1,(J2 s one (m+1) (c,e)).2))=(R=(g++((one (Bj s c,e)).1::(J2 s one m (one (Bj s c,e)).2).1),(J2 s one m (one (Bj s c,e)).2).2)):=by
 rw[show J2 s one (m+1) (c,e)=((one (Bj s c,e)).1::(J2 s one m (one (Bj s c,e)).2).1,(J2 s one m (one (Bj s c,e)).2).2)from by rw[J2,if_pos i,if_neg j]]
theorem YT{f:Type}{s:ByteArray}{one:PS->f×PS}{m c:Nat}{e:Int}{g:List f}{R:List f×PS}(i:e=0)(j:Cq s c=XA):(R=(g++(J2 s one (m+1) (c,e)).1,(J2 s one (m+1) (c,e)).2))=(R=(g++[],Kj s XA (Bj s c,e))):=by
 rw[show J2 s one (m+1) (c,e)=([],Kj s XA (Bj s c,e))from by rw[J2,if_pos i,if_pos j]]
theorem YS{f:Type}{s:ByteArray}{one:PS->f×PS}{m c:Nat}{e:Int}{g:List f}{R:List f×PS}(i:¬e=0):(R=(g++(J2 s one (m+1) (c,e)).1,(J2 s one (m+1) (c,e)).2))=(R=(g++[],Kj s XA (c,e))):=by
 rw[show J2 s one (m+1) (c,e)=([],Kj s XA (c,e))from by rw[J2,if_neg i]]
theorem DZ(s:ByteArray)(tk J:Int)(P:ByteArray)(n:Nat)(dp:Int)(a:Nat)(e:Int)(ha:a<=s.size)(hs:s.size<=1500)
  (hF:∀(o:List Tm) (a:Nat) (e:Int),o.length<=1600->a<=s.size->Z0 Tryz.prog 52 [.ptr 1001 0,.ptr 1002 0,.ptr 1003 0] [(1000,.blk 77 [Sv s,Iv (a:Int),Iv e]),(1001,.blk 54 [Iv tk,Iv J,Sv P,Sv .empty,.lit (.slice none 0 0),.arr 500 0 o.length,.lit (.slice none 0 0)]),(1002,.blk 75 [.ptr 1000 0]),(1003,.blk 3 [Iv dp]),(500,.arr 54 7 (o.map Tm.row))] (.tuple []) [(1000,.blk 77 [Sv s,Iv (((Tm.ps false s n) (a,e)).2.1:Int),Iv (((Tm.ps false s n) (a,e)).2.2)]),(1001,.blk 54 [Iv tk,Iv J,Sv P,Sv .empty,.lit (.slice none 0 0),.arr 500 0 ((o++[((Tm.ps false s n) (a,e)).1]).length),.lit (.slice none 0 0)]),(1002,.blk 75 [.ptr 1000 0]),(1003,.blk 3 [Iv dp]),(500,.arr 54 7 ((o++[((Tm.ps false s n) (a,e)).1]).map Tm.row))]):
  Z0 Tryz.prog 30 [.ptr 1000 0,.clo 52 [.ptr 1001 0,.ptr 1002 0,.ptr 1003 0]] [(1000,.blk 77 [Sv s,Iv (a:Int),Iv e]),(1001,.blk 54 [Iv tk,Iv J,Sv P,Sv .empty,.lit (.slice none 0 0),.arr 500 0 (([]:List Tm).length),.lit (.slice none 0 0)]),(1002,.blk 75 [.ptr 1000 0]),(1003,.blk 3 [Iv dp]),(500,.arr 54 7 (([]:List Tm).map Tm.row))] (.tuple []) [(1000,.blk 77 [Sv s,Iv ((J2 s (Tm.ps false s n) (s.size+2) (a,e)).2.1:Int),Iv ((J2 s (Tm.ps false s n) (s.size+2) (a,e)).2.2)]),(1001,.blk 54 [Iv tk,Iv J,Sv P,Sv .empty,.lit (.slice none 0 0),.arr 500 0 ((J2 s (Tm.ps false s n) (s.size+2) (a,e)).1.length),.lit (.slice none 0 0)]),(1002,.blk 75 [.ptr 1000 0]),(1003,.blk 3 [Iv dp]),(500,.arr 54 7 ((J2 s (Tm.ps false s n) (s.size+2) (a,e)).1.map Tm.row))]:=by
 try unfold pO at *
 refine Z0.of Tryz.func30 rfl rfl (Nat.le_of_ble_eq_true rfl) ?_;show X8 _ _ (Qz _ Tryz.f30 _ _) (X7 18 _ _);refine Wb ?_;refine Wl (σ:=λu:{u:List Tm×Nat×Int×Nat // (J2 s (Tm.ps false s n) (s.size+2) (a,e)=(u.1++(J2 s (Tm.ps false s n) u.2.2.2 (u.2.1,u.2.2.1)).1,(J2 s (Tm.ps false s n) u.2.2.2 (u.2.1,u.2.2.1)).2)/\u.2.1<=s.size/\u.1.length+u.2.2.2=s.size+2/\0<u.2.2.2/\(u.2.2.1≠0\/s.size-u.2.1+1<u.2.2.2))}=>⟨18,[(0,.ptr 1000 0),(1,.clo 52 [.ptr 1001 0,.ptr 1002 0,.ptr 1003 0])],[(500,some (.arr 54 7 (u.1.1.map Tm.row))),(1000,some (.blk 77 [Sv s,Iv (u.1.2.1:Int),Iv u.1.2.2.1])),(1001,some (.blk 54 [Iv tk,Iv J,Sv P,Sv .empty,.lit (.slice none 0 0),.arr 500 0 u.1.1.length,.lit (.slice none 0 0)])),(1002,some (.blk 75 [.ptr 1000 0])),(1003,some (.blk 3 [Iv dp]))]⟩)
  (μ:=λu=>u.1.2.2.2) ⟨([],a,e,s.size+2),⟨by simp,ha,by simp,by dsimp only;omega,.inr (by dsimp only;omega)⟩⟩ (Le.sub (by simp) (by simp)) (λ⟨(o,c,i,m),hw⟩=>?_)
 dsimp only at hw⊢;obtain⟨f,g,a7,a8,U⟩:=hw;obtain⟨m,rfl⟩:∃k,m=k+1:=⟨m-1,oM⟩
 have a4:=Xg s c i g hs;obtain⟨W,hW⟩:∃W,W=Cq s c:=⟨_,rfl⟩
 obtain⟨A,hA⟩:∃A,A=Bj s c:=⟨_,rfl⟩
 have a9:c<=A:=by rw[hA];exact(R7 g).1
 have T:A<=s.size:=by rw[hA];exact(R7 g).2
 rw[<-hW,<-hA]at a4;by_cases q1:i=0
 ·have a1:=eq_true q1;by_cases q2:W=⟨#[41]⟩
  ·have a5:=eq_true q2;refine Wg [] [.c [] [.ptr 1000 0] [(1000,.blk 77 [Sv s,Iv (c:Int),Iv i])] (Sv W) [(1000,.blk 77 [Sv s,Iv (A:Int),Iv i])]] ?_ (hr:=by conv=>lhs;simp[a1,a5]);refine Wn ?_;refine We ?_;rw[YT q1 (by rw[<-hW];exact q2)]at f;rw[<-hA]at f;have t:=W9 s XA A i T hs;generalize Kj s XA (A,i)=p3 at f t;obtain⟨A3,e3⟩:=p3;dsimp only at f t;rw[List.append_nil]at f;rw[f];dsimp only;refine Wg [] [.c [] [.ptr 1000 0,Sv (⟨#[41]⟩)] [(1000,.blk 77 [Sv s,Iv (A:Int),Iv i])] (.tuple []) [(1000,.blk 77 [Sv s,Iv (A3:Int),Iv e3])]] ?_;try dsimp only[Q8,Q5]
   apply Qz.normal
   ·rfl
   ·conv=>lhs;simp[Q7,Tryz.results30]
   ·rfl
   ·simp[Qq,Q4]
  refine Wg [] [.c [] [.ptr 1000 0] [(1000,.blk 77 [Sv s,Iv (c:Int),Iv i])] (Sv W) [(1000,.blk 77 [Sv s,Iv (A:Int),Iv i])]] ?_ (hr:=by conv=>lhs;simp[a1,q2]);refine Wy ?_;refine Ws ?_;rw[YR q1 (by rw[<-hW];exact q2)]at f;have j:=((λp h=>Pw n p h):∀p:PS,p.1<=s.size->UW s p ((Tm.ps false s n) p).2) (A,i) T;have g:=hF o A i oM T;rw[<-hA]at f;generalize(Tm.ps false s n) (A,i)=x at f j g;obtain⟨x,c2,e2⟩:=x;have a2:=j.sz;have a3:=j.on;dsimp only at f j g a2 a3;obtain⟨I,C⟩:∃l,l=o++[x]:=⟨_,rfl⟩
  have a6:I.length=o.length+1:=by rw[C];simp
  rw[<-C]at g;refine Wg [] [.c [] [.ptr 1001 0,.ptr 1002 0,.ptr 1003 0] [(1000,.blk 77 [Sv s,Iv (A:Int),Iv i]),(1001,.blk 54 [Iv tk,Iv J,Sv P,Sv .empty,.lit (.slice none 0 0),.arr 500 0 o.length,.lit (.slice none 0 0)]),(1002,.blk 75 [.ptr 1000 0]),(1003,.blk 3 [Iv dp]),(500,.arr 54 7 (o.map Tm.row))] (.tuple []) [(1000,.blk 77 [Sv s,Iv (c2:Int),Iv e2]),(1001,.blk 54 [Iv tk,Iv J,Sv P,Sv .empty,.lit (.slice none 0 0),.arr 500 0 I.length,.lit (.slice none 0 0)]),(1002,.blk 75 [.ptr 1000 0]),(1003,.blk 3 [Iv dp]),(500,.arr 54 7 (I.map Tm.row))]] ?_;refine⟨⟨(I,c2,e2,m),⟨by rw[f,C];simp,a2,by dsimp only;omega,by dsimp only;rcases U with h|h<;> omega,by dsimp only;rcases a3 with h|h;exact .inl h;right;rcases U with h|h<;> omega⟩⟩,by dsimp only;omega,?_⟩;dsimp only;exact Le.sub (by simp) (by simp)
 refine Wr ?_ (r:=by conv=>lhs;simp[q1]);refine Wn ?_;refine We ?_;rw[YS q1]at f;have t:=W9 s XA c i g hs;generalize Kj s XA (c,i)=p3 at f t;obtain⟨A3,e3⟩:=p3;dsimp only at f t;rw[List.append_nil]at f;rw[f];dsimp only;refine Wg [] [.c [] [.ptr 1000 0,Sv (⟨#[41]⟩)] [(1000,.blk 77 [Sv s,Iv (c:Int),Iv i])] (.tuple []) [(1000,.blk 77 [Sv s,Iv (A3:Int),Iv e3])]] ?_;try dsimp only[Q8,Q5]
 apply Qz.normal
 ·rfl
 ·conv=>lhs;simp[Q7,Tryz.results30]
 ·rfl
 ·simp[Qq,Q4]
theorem EN(s:ByteArray)(tk J:Int)(P:ByteArray)(n:Nat)(xs:List Tm)(dp:Int)(a:Nat)(e:Int)(ha:a<=s.size)(hs:s.size<=1500)
  (hF:∀(o:List Cs) (a:Nat) (e:Int),o.length<=1600->a<=s.size->Z0 Tryz.prog 54 [.ptr 1002 0,.ptr 1003 0,.ptr 1001 0] [(1000,.blk 77 [Sv s,Iv (a:Int),Iv e]),(1001,.blk 54 [Iv tk,Iv J,Sv P,Sv .empty,.lit (.slice none 0 0),.arr 500 0 xs.length,.arr 501 0 o.length]),(1002,.blk 75 [.ptr 1000 0]),(1003,.blk 3 [Iv dp]),(500,.arr 54 7 (xs.map Tm.row)),(501,.arr 87 9 (o.map Cs.row))] (.tuple []) [(1000,.blk 77 [Sv s,Iv (((ZK false s (Tm.ps false s n)) (a,e)).2.1:Int),Iv (((ZK false s (Tm.ps false s n)) (a,e)).2.2)]),(1001,.blk 54 [Iv tk,Iv J,Sv P,Sv .empty,.lit (.slice none 0 0),.arr 500 0 xs.length,.arr 501 0 ((o++[((ZK false s (Tm.ps false s n)) (a,e)).1]).length)]),(1002,.blk 75 [.ptr 1000 0]),(1003,.blk 3 [Iv dp]),(500,.arr 54 7 (xs.map Tm.row)),(501,.arr 87 9 ((o++[((ZK false s (Tm.ps false s n)) (a,e)).1]).map Cs.row))]):
  Z0 Tryz.prog 30 [.ptr 1000 0,.clo 54 [.ptr 1002 0,.ptr 1003 0,.ptr 1001 0]] [(1000,.blk 77 [Sv s,Iv (a:Int),Iv e]),(1001,.blk 54 [Iv tk,Iv J,Sv P,Sv .empty,.lit (.slice none 0 0),.arr 500 0 xs.length,.arr 501 0 (([]:List Cs).length)]),(1002,.blk 75 [.ptr 1000 0]),(1003,.blk 3 [Iv dp]),(500,.arr 54 7 (xs.map Tm.row)),(501,.arr 87 9 (([]:List Cs).map Cs.row))] (.tuple []) [(1000,.blk 77 [Sv s,Iv ((J2 s (ZK false s (Tm.ps false s n)) (s.size+2) (a,e)).2.1:Int),Iv ((J2 s (ZK false s (Tm.ps false s n)) (s.size+2) (a,e)).2.2)]),(1001,.blk 54 [Iv tk,Iv J,Sv P,Sv .empty,.lit (.slice none 0 0),.arr 500 0 xs.length,.arr 501 0 ((J2 s (ZK false s (Tm.ps false s n)) (s.size+2) (a,e)).1.length)]),(1002,.blk 75 [.ptr 1000 0]),(1003,.blk 3 [Iv dp]),(500,.arr 54 7 (xs.map Tm.row)),(501,.arr 87 9 ((J2 s (ZK false s (Tm.ps false s n)) (s.size+2) (a,e)).1.map Cs.row))]:=by
 try unfold pO at *
 refine Z0.of Tryz.func30 rfl rfl (Nat.le_of_ble_eq_true rfl) ?_;show X8 _ _ (Qz _ Tryz.f30 _ _) (X7 18 _ _);refine Wb ?_;refine Wl (σ:=λu:{u:List Cs×Nat×Int×Nat // (J2 s (ZK false s (Tm.ps false s n)) (s.size+2) (a,e)=(u.1++(J2 s (ZK false s (Tm.ps false s n)) u.2.2.2 (u.2.1,u.2.2.1)).1,(J2 s (ZK false s (Tm.ps false s n)) u.2.2.2 (u.2.1,u.2.2.1)).2)/\u.2.1<=s.size/\u.1.length+u.2.2.2=s.size+2/\0<u.2.2.2/\(u.2.2.1≠0\/s.size-u.2.1+1<u.2.2.2))}=>⟨18,[(0,.ptr 1000 0),(1,.clo 54 [.ptr 1002 0,.ptr 1003 0,.ptr 1001 0])],[(500,some (.arr 54 7 (xs.map Tm.row))),(501,some (.arr 87 9 (u.1.1.map Cs.row))),(1000,some (.blk 77 [Sv s,Iv (u.1.2.1:Int),Iv u.1.2.2.1])),(1001,some (.blk 54 [Iv tk,Iv J,Sv P,Sv .empty,.lit (.slice none 0 0),.arr 500 0 xs.length,.arr 501 0 u.1.1.length])),(1002,some (.blk 75 [.ptr 1000 0])),(1003,some (.blk 3 [Iv dp]))]⟩)
  (μ:=λu=>u.1.2.2.2) ⟨([],a,e,s.size+2),⟨by simp,ha,by simp,by dsimp only;omega,.inr (by dsimp only;omega)⟩⟩ (Le.sub (by simp) (by simp)) (λ⟨(o,c,i,m),hw⟩=>?_)
 dsimp only at hw⊢;obtain⟨f,g,a7,a8,U⟩:=hw;obtain⟨m,rfl⟩:∃k,m=k+1:=⟨m-1,oM⟩
 have a4:=Xg s c i g hs;obtain⟨W,hW⟩:∃W,W=Cq s c:=⟨_,rfl⟩
 obtain⟨A,hA⟩:∃A,A=Bj s c:=⟨_,rfl⟩
 have a9:c<=A:=by rw[hA];exact(R7 g).1
 have T:A<=s.size:=by rw[hA];exact(R7 g).2
 rw[<-hW,<-hA]at a4;by_cases q1:i=0
 ·have a1:=eq_true q1;by_cases q2:W=⟨#[41]⟩
  ·have a5:=eq_true q2;refine Wg [] [.c [] [.ptr 1000 0] [(1000,.blk 77 [Sv s,Iv (c:Int),Iv i])] (Sv W) [(1000,.blk 77 [Sv s,Iv (A:Int),Iv i])]] ?_ (hr:=by conv=>lhs;simp[a1,a5]);refine Wn ?_;refine We ?_;rw[YT q1 (by rw[<-hW];exact q2)]at f;rw[<-hA]at f;have t:=W9 s XA A i T hs;generalize Kj s XA (A,i)=p3 at f t;obtain⟨A3,e3⟩:=p3;dsimp only at f t;rw[List.append_nil]at f;rw[f];dsimp only;refine Wg [] [.c [] [.ptr 1000 0,Sv (⟨#[41]⟩)] [(1000,.blk 77 [Sv s,Iv (A:Int),Iv i])] (.tuple []) [(1000,.blk 77 [Sv s,Iv (A3:Int),Iv e3])]] ?_;try dsimp only[Q8,Q5]
   apply Qz.normal
   ·rfl
   ·conv=>lhs;simp[Q7,Tryz.results30]
   ·rfl
   ·simp[Qq,Q4]
  refine Wg [] [.c [] [.ptr 1000 0] [(1000,.blk 77 [Sv s,Iv (c:Int),Iv i])] (Sv W) [(1000,.blk 77 [Sv s,Iv (A:Int),Iv i])]] ?_ (hr:=by conv=>lhs;simp[a1,q2]);refine Wy ?_;refine Ws ?_;rw[YR q1 (by rw[<-hW];exact q2)]at f;have j:=((λp h=>ES (λp h=>Pw n p h) h):∀p:PS,p.1<=s.size->UW s p ((ZK false s (Tm.ps false s n)) p).2) (A,i) T;have g:=hF o A i oM T;rw[<-hA]at f;generalize(ZK false s (Tm.ps false s n)) (A,i)=x at f j g;obtain⟨x,c2,e2⟩:=x;have a2:=j.sz;have a3:=j.on;dsimp only at f j g a2 a3;obtain⟨I,C⟩:∃l,l=o++[x]:=⟨_,rfl⟩
  have a6:I.length=o.length+1:=by rw[C];simp
  rw[<-C]at g;refine Wg [] [.c [] [.ptr 1002 0,.ptr 1003 0,.ptr 1001 0] [(1000,.blk 77 [Sv s,Iv (A:Int),Iv i]),(1001,.blk 54 [Iv tk,Iv J,Sv P,Sv .empty,.lit (.slice none 0 0),.arr 500 0 xs.length,.arr 501 0 o.length]),(1002,.blk 75 [.ptr 1000 0]),(1003,.blk 3 [Iv dp]),(500,.arr 54 7 (xs.map Tm.row)),(501,.arr 87 9 (o.map Cs.row))] (.tuple []) [(1000,.blk 77 [Sv s,Iv (c2:Int),Iv e2]),(1001,.blk 54 [Iv tk,Iv J,Sv P,Sv .empty,.lit (.slice none 0 0),.arr 500 0 xs.length,.arr 501 0 I.length]),(1002,.blk 75 [.ptr 1000 0]),(1003,.blk 3 [Iv dp]),(500,.arr 54 7 (xs.map Tm.row)),(501,.arr 87 9 (I.map Cs.row))]] ?_;refine⟨⟨(I,c2,e2,m),⟨by rw[f,C];simp,a2,by dsimp only;omega,by dsimp only;rcases U with h|h<;> omega,by dsimp only;rcases a3 with h|h;exact .inl h;right;rcases U with h|h<;> omega⟩⟩,by dsimp only;omega,?_⟩;dsimp only;exact Le.sub (by simp) (by simp)
 refine Wr ?_ (r:=by conv=>lhs;simp[q1]);refine Wn ?_;refine We ?_;rw[YS q1]at f;have t:=W9 s XA c i g hs;generalize Kj s XA (c,i)=p3 at f t;obtain⟨A3,e3⟩:=p3;dsimp only at f t;rw[List.append_nil]at f;rw[f];dsimp only;refine Wg [] [.c [] [.ptr 1000 0,Sv (⟨#[41]⟩)] [(1000,.blk 77 [Sv s,Iv (c:Int),Iv i])] (.tuple []) [(1000,.blk 77 [Sv s,Iv (A3:Int),Iv e3])]] ?_;try dsimp only[Q8,Q5]
 apply Qz.normal
 ·rfl
 ·conv=>lhs;simp[Q7,Tryz.results30]
 ·rfl
 ·simp[Qq,Q4]
theorem Qd5(s:ByteArray)(J:Int)(a:Nat)(e:Int)(ha:a<=s.size)(hs:s.size<=1500)
  (hF:∀(o:List ByteArray) (a:Nat) (e:Int),o.length<=1600->a<=s.size->Z0 Tryz.prog 55 [.ptr 1001 0,.ptr 1002 0] [(1000,.blk 77 [Sv s,Iv (a:Int),Iv e]),(1001,.blk 87 [Iv J,.arr 500 0 o.length,Iv 0,Iv 0,Sv .empty,Sv .empty,.lit (.slice none 0 0),.lit (.slice none 0 0),.lit (.slice none 0 0)]),(1002,.blk 75 [.ptr 1000 0]),(500,.arr 9 1 (o.map Jj))] (.tuple []) [(1000,.blk 77 [Sv s,Iv (((U2 s) (a,e)).2.1:Int),Iv (((U2 s) (a,e)).2.2)]),(1001,.blk 87 [Iv J,.arr 500 0 ((o++[((U2 s) (a,e)).1]).length),Iv 0,Iv 0,Sv .empty,Sv .empty,.lit (.slice none 0 0),.lit (.slice none 0 0),.lit (.slice none 0 0)]),(1002,.blk 75 [.ptr 1000 0]),(500,.arr 9 1 ((o++[((U2 s) (a,e)).1]).map Jj))]):
  Z0 Tryz.prog 30 [.ptr 1000 0,.clo 55 [.ptr 1001 0,.ptr 1002 0]] [(1000,.blk 77 [Sv s,Iv (a:Int),Iv e]),(1001,.blk 87 [Iv J,.arr 500 0 (([]:List ByteArray).length),Iv 0,Iv 0,Sv .empty,Sv .empty,.lit (.slice none 0 0),.lit (.slice none 0 0),.lit (.slice none 0 0)]),(1002,.blk 75 [.ptr 1000 0]),(500,.arr 9 1 (([]:List ByteArray).map Jj))] (.tuple []) [(1000,.blk 77 [Sv s,Iv ((J2 s (U2 s) (s.size+2) (a,e)).2.1:Int),Iv ((J2 s (U2 s) (s.size+2) (a,e)).2.2)]),(1001,.blk 87 [Iv J,.arr 500 0 ((J2 s (U2 s) (s.size+2) (a,e)).1.length),Iv 0,Iv 0,Sv .empty,Sv .empty,.lit (.slice none 0 0),.lit (.slice none 0 0),.lit (.slice none 0 0)]),(1002,.blk 75 [.ptr 1000 0]),(500,.arr 9 1 ((J2 s (U2 s) (s.size+2) (a,e)).1.map Jj))]:=by
 try unfold pO at *
 refine Z0.of Tryz.func30 rfl rfl (Nat.le_of_ble_eq_true rfl) ?_;show X8 _ _ (Qz _ Tryz.f30 _ _) (X7 18 _ _);refine Wb ?_;refine Wl (σ:=λu:{u:List ByteArray×Nat×Int×Nat // (J2 s (U2 s) (s.size+2) (a,e)=(u.1++(J2 s (U2 s) u.2.2.2 (u.2.1,u.2.2.1)).1,(J2 s (U2 s) u.2.2.2 (u.2.1,u.2.2.1)).2)/\u.2.1<=s.size/\u.1.length+u.2.2.2=s.size+2/\0<u.2.2.2/\(u.2.2.1≠0\/s.size-u.2.1+1<u.2.2.2))}=>⟨18,[(0,.ptr 1000 0),(1,.clo 55 [.ptr 1001 0,.ptr 1002 0])],[(500,some (.arr 9 1 (u.1.1.map Jj))),(1000,some (.blk 77 [Sv s,Iv (u.1.2.1:Int),Iv u.1.2.2.1])),(1001,some (.blk 87 [Iv J,.arr 500 0 u.1.1.length,Iv 0,Iv 0,Sv .empty,Sv .empty,.lit (.slice none 0 0),.lit (.slice none 0 0),.lit (.slice none 0 0)])),(1002,some (.blk 75 [.ptr 1000 0]))]⟩)
  (μ:=λu=>u.1.2.2.2) ⟨([],a,e,s.size+2),⟨by simp,ha,by simp,by dsimp only;omega,.inr (by dsimp only;omega)⟩⟩ (Le.sub (by simp) (by simp)) (λ⟨(o,c,i,m),hw⟩=>?_)
 dsimp only at hw⊢;obtain⟨f,g,a7,a8,T⟩:=hw;obtain⟨m,rfl⟩:∃k,m=k+1:=⟨m-1,oM⟩
 have a4:=Xg s c i g hs;obtain⟨W,hW⟩:∃W,W=Cq s c:=⟨_,rfl⟩
 obtain⟨A,U⟩:∃A,A=Bj s c:=⟨_,rfl⟩
 have a9:c<=A:=by rw[U];exact(R7 g).1
 have P:A<=s.size:=by rw[U];exact(R7 g).2
 rw[<-hW,<-U]at a4;by_cases q1:i=0
 ·have a1:=eq_true q1;by_cases q2:W=⟨#[41]⟩
  ·have a5:=eq_true q2;refine Wg [] [.c [] [.ptr 1000 0] [(1000,.blk 77 [Sv s,Iv (c:Int),Iv i])] (Sv W) [(1000,.blk 77 [Sv s,Iv (A:Int),Iv i])]] ?_ (hr:=by conv=>lhs;simp[a1,a5]);refine Wn ?_;refine We ?_;rw[YT q1 (by rw[<-hW];exact q2)]at f;rw[<-U]at f;have t:=W9 s XA A i P hs;generalize Kj s XA (A,i)=p3 at f t;obtain⟨A3,e3⟩:=p3;dsimp only at f t;rw[List.append_nil]at f;rw[f];dsimp only;refine Wg [] [.c [] [.ptr 1000 0,Sv (⟨#[41]⟩)] [(1000,.blk 77 [Sv s,Iv (A:Int),Iv i])] (.tuple []) [(1000,.blk 77 [Sv s,Iv (A3:Int),Iv e3])]] ?_;try dsimp only[Q8,Q5]
   apply Qz.normal
   ·rfl
   ·conv=>lhs;simp[Q7,Tryz.results30]
   ·rfl
   ·simp[Qq,Q4]
  refine Wg [] [.c [] [.ptr 1000 0] [(1000,.blk 77 [Sv s,Iv (c:Int),Iv i])] (Sv W) [(1000,.blk 77 [Sv s,Iv (A:Int),Iv i])]] ?_ (hr:=by conv=>lhs;simp[a1,q2]);refine Wy ?_;refine Ws ?_;rw[YR q1 (by rw[<-hW];exact q2)]at f;have j:=((λp h=>G8 h):∀p:PS,p.1<=s.size->UW s p ((U2 s) p).2) (A,i) P;have g:=hF o A i oM P;rw[<-U]at f;generalize(U2 s) (A,i)=x at f j g;obtain⟨x,c2,e2⟩:=x;have a2:=j.sz;have a3:=j.on;dsimp only at f j g a2 a3;obtain⟨I,C⟩:∃l,l=o++[x]:=⟨_,rfl⟩
  have a6:I.length=o.length+1:=by rw[C];simp
  rw[<-C]at g;refine Wg [] [.c [] [.ptr 1001 0,.ptr 1002 0] [(1000,.blk 77 [Sv s,Iv (A:Int),Iv i]),(1001,.blk 87 [Iv J,.arr 500 0 o.length,Iv 0,Iv 0,Sv .empty,Sv .empty,.lit (.slice none 0 0),.lit (.slice none 0 0),.lit (.slice none 0 0)]),(1002,.blk 75 [.ptr 1000 0]),(500,.arr 9 1 (o.map Jj))] (.tuple []) [(1000,.blk 77 [Sv s,Iv (c2:Int),Iv e2]),(1001,.blk 87 [Iv J,.arr 500 0 I.length,Iv 0,Iv 0,Sv .empty,Sv .empty,.lit (.slice none 0 0),.lit (.slice none 0 0),.lit (.slice none 0 0)]),(1002,.blk 75 [.ptr 1000 0]),(500,.arr 9 1 (I.map Jj))]] ?_;refine⟨⟨(I,c2,e2,m),⟨by rw[f,C];simp,a2,by dsimp only;omega,by dsimp only;rcases T with h|h<;> omega,by dsimp only;rcases a3 with h|h;exact .inl h;right;rcases T with h|h<;> omega⟩⟩,by dsimp only;omega,?_⟩;dsimp only;exact Le.sub (by simp) (by simp)
 refine Wr ?_ (r:=by conv=>lhs;simp[q1]);refine Wn ?_;refine We ?_;rw[YS q1]at f;have t:=W9 s XA c i g hs;generalize Kj s XA (c,i)=p3 at f t;obtain⟨A3,e3⟩:=p3;dsimp only at f t;rw[List.append_nil]at f;rw[f];dsimp only;refine Wg [] [.c [] [.ptr 1000 0,Sv (⟨#[41]⟩)] [(1000,.blk 77 [Sv s,Iv (c:Int),Iv i])] (.tuple []) [(1000,.blk 77 [Sv s,Iv (A3:Int),Iv e3])]] ?_;try dsimp only[Q8,Q5]
 apply Qz.normal
 ·rfl
 ·conv=>lhs;simp[Q7,Tryz.results30]
 ·rfl
 ·simp[Qq,Q4]
theorem Qd6(s:ByteArray)(J:ByteArray)(a:Nat)(e:Int)(ha:a<=s.size)(hs:s.size<=1500)
  (hF:∀(o:List ByteArray) (a:Nat) (e:Int),o.length<=1600->a<=s.size->Z0 Tryz.prog 31 [.ptr 1001 0,.ptr 1002 0] [(1000,.blk 77 [Sv s,Iv (a:Int),Iv e]),(1001,.blk 56 [Sv J,.arr 500 0 o.length,Iv 0,Iv 0,Sv .empty,Sv .empty,.lit (.slice none 0 0),.lit (.slice none 0 0),.lit (.slice none 0 0)]),(1002,.blk 75 [.ptr 1000 0]),(500,.arr 9 1 (o.map Jj))] (.tuple []) [(1000,.blk 77 [Sv s,Iv (((U2 s) (a,e)).2.1:Int),Iv (((U2 s) (a,e)).2.2)]),(1001,.blk 56 [Sv J,.arr 500 0 ((o++[((U2 s) (a,e)).1]).length),Iv 0,Iv 0,Sv .empty,Sv .empty,.lit (.slice none 0 0),.lit (.slice none 0 0),.lit (.slice none 0 0)]),(1002,.blk 75 [.ptr 1000 0]),(500,.arr 9 1 ((o++[((U2 s) (a,e)).1]).map Jj))]):
  Z0 Tryz.prog 30 [.ptr 1000 0,.clo 31 [.ptr 1001 0,.ptr 1002 0]] [(1000,.blk 77 [Sv s,Iv (a:Int),Iv e]),(1001,.blk 56 [Sv J,.arr 500 0 (([]:List ByteArray).length),Iv 0,Iv 0,Sv .empty,Sv .empty,.lit (.slice none 0 0),.lit (.slice none 0 0),.lit (.slice none 0 0)]),(1002,.blk 75 [.ptr 1000 0]),(500,.arr 9 1 (([]:List ByteArray).map Jj))] (.tuple []) [(1000,.blk 77 [Sv s,Iv ((J2 s (U2 s) (s.size+2) (a,e)).2.1:Int),Iv ((J2 s (U2 s) (s.size+2) (a,e)).2.2)]),(1001,.blk 56 [Sv J,.arr 500 0 ((J2 s (U2 s) (s.size+2) (a,e)).1.length),Iv 0,Iv 0,Sv .empty,Sv .empty,.lit (.slice none 0 0),.lit (.slice none 0 0),.lit (.slice none 0 0)]),(1002,.blk 75 [.ptr 1000 0]),(500,.arr 9 1 ((J2 s (U2 s) (s.size+2) (a,e)).1.map Jj))]:=by
 try unfold pO at *
 refine Z0.of Tryz.func30 rfl rfl (Nat.le_of_ble_eq_true rfl) ?_;show X8 _ _ (Qz _ Tryz.f30 _ _) (X7 18 _ _);refine Wb ?_;refine Wl (σ:=λu:{u:List ByteArray×Nat×Int×Nat // (J2 s (U2 s) (s.size+2) (a,e)=(u.1++(J2 s (U2 s) u.2.2.2 (u.2.1,u.2.2.1)).1,(J2 s (U2 s) u.2.2.2 (u.2.1,u.2.2.1)).2)/\u.2.1<=s.size/\u.1.length+u.2.2.2=s.size+2/\0<u.2.2.2/\(u.2.2.1≠0\/s.size-u.2.1+1<u.2.2.2))}=>⟨18,[(0,.ptr 1000 0),(1,.clo 31 [.ptr 1001 0,.ptr 1002 0])],[(500,some (.arr 9 1 (u.1.1.map Jj))),(1000,some (.blk 77 [Sv s,Iv (u.1.2.1:Int),Iv u.1.2.2.1])),(1001,some (.blk 56 [Sv J,.arr 500 0 u.1.1.length,Iv 0,Iv 0,Sv .empty,Sv .empty,.lit (.slice none 0 0),.lit (.slice none 0 0),.lit (.slice none 0 0)])),(1002,some (.blk 75 [.ptr 1000 0]))]⟩)
  (μ:=λu=>u.1.2.2.2) ⟨([],a,e,s.size+2),⟨by simp,ha,by simp,by dsimp only;omega,.inr (by dsimp only;omega)⟩⟩ (Le.sub (by simp) (by simp)) (λ⟨(o,c,i,m),hw⟩=>?_)
 dsimp only at hw⊢;obtain⟨f,g,a7,a8,T⟩:=hw;obtain⟨m,rfl⟩:∃k,m=k+1:=⟨m-1,oM⟩
 have a4:=Xg s c i g hs;obtain⟨W,hW⟩:∃W,W=Cq s c:=⟨_,rfl⟩
 obtain⟨A,U⟩:∃A,A=Bj s c:=⟨_,rfl⟩
 have a9:c<=A:=by rw[U];exact(R7 g).1
 have P:A<=s.size:=by rw[U];exact(R7 g).2
 rw[<-hW,<-U]at a4;by_cases q1:i=0
 ·have a1:=eq_true q1;by_cases q2:W=⟨#[41]⟩
  ·have a5:=eq_true q2;refine Wg [] [.c [] [.ptr 1000 0] [(1000,.blk 77 [Sv s,Iv (c:Int),Iv i])] (Sv W) [(1000,.blk 77 [Sv s,Iv (A:Int),Iv i])]] ?_ (hr:=by conv=>lhs;simp[a1,a5]);refine Wn ?_;refine We ?_;rw[YT q1 (by rw[<-hW];exact q2)]at f;rw[<-U]at f;have t:=W9 s XA A i P hs;generalize Kj s XA (A,i)=p3 at f t;obtain⟨A3,e3⟩:=p3;dsimp only at f t;rw[List.append_nil]at f;rw[f];dsimp only;refine Wg [] [.c [] [.ptr 1000 0,Sv (⟨#[41]⟩)] [(1000,.blk 77 [Sv s,Iv (A:Int),Iv i])] (.tuple []) [(1000,.blk 77 [Sv s,Iv (A3:Int),Iv e3])]] ?_;try dsimp only[Q8,Q5]
   apply Qz.normal
   ·rfl
   ·conv=>lhs;simp[Q7,Tryz.results30]
   ·rfl
   ·simp[Qq,Q4]
  refine Wg [] [.c [] [.ptr 1000 0] [(1000,.blk 77 [Sv s,Iv (c:Int),Iv i])] (Sv W) [(1000,.blk 77 [Sv s,Iv (A:Int),Iv i])]] ?_ (hr:=by conv=>lhs;simp[a1,q2]);refine Wy ?_;refine Ws ?_;rw[YR q1 (by rw[<-hW];exact q2)]at f;have j:=((λp h=>G8 h):∀p:PS,p.1<=s.size->UW s p ((U2 s) p).2) (A,i) P;have g:=hF o A i oM P;rw[<-U]at f;generalize(U2 s) (A,i)=x at f j g;obtain⟨x,c2,e2⟩:=x;have a2:=j.sz;have a3:=j.on;dsimp only at f j g a2 a3;obtain⟨I,C⟩:∃l,l=o++[x]:=⟨_,rfl⟩
  have a6:I.length=o.length+1:=by rw[C];simp
  rw[<-C]at g;refine Wg [] [.c [] [.ptr 1001 0,.ptr 1002 0] [(1000,.blk 77 [Sv s,Iv (A:Int),Iv i]),(1001,.blk 56 [Sv J,.arr 500 0 o.length,Iv 0,Iv 0,Sv .empty,Sv .empty,.lit (.slice none 0 0),.lit (.slice none 0 0),.lit (.slice none 0 0)]),(1002,.blk 75 [.ptr 1000 0]),(500,.arr 9 1 (o.map Jj))] (.tuple []) [(1000,.blk 77 [Sv s,Iv (c2:Int),Iv e2]),(1001,.blk 56 [Sv J,.arr 500 0 I.length,Iv 0,Iv 0,Sv .empty,Sv .empty,.lit (.slice none 0 0),.lit (.slice none 0 0),.lit (.slice none 0 0)]),(1002,.blk 75 [.ptr 1000 0]),(500,.arr 9 1 (I.map Jj))]] ?_;refine⟨⟨(I,c2,e2,m),⟨by rw[f,C];simp,a2,by dsimp only;omega,by dsimp only;rcases T with h|h<;> omega,by dsimp only;rcases a3 with h|h;exact .inl h;right;rcases T with h|h<;> omega⟩⟩,by dsimp only;omega,?_⟩;dsimp only;exact Le.sub (by simp) (by simp)
 refine Wr ?_ (r:=by conv=>lhs;simp[q1]);refine Wn ?_;refine We ?_;rw[YS q1]at f;have t:=W9 s XA c i g hs;generalize Kj s XA (c,i)=p3 at f t;obtain⟨A3,e3⟩:=p3;dsimp only at f t;rw[List.append_nil]at f;rw[f];dsimp only;refine Wg [] [.c [] [.ptr 1000 0,Sv (⟨#[41]⟩)] [(1000,.blk 77 [Sv s,Iv (c:Int),Iv i])] (.tuple []) [(1000,.blk 77 [Sv s,Iv (A3:Int),Iv e3])]] ?_;try dsimp only[Q8,Q5]
 apply Qz.normal
 ·rfl
 ·conv=>lhs;simp[Q7,Tryz.results30]
 ·rfl
 ·simp[Qq,Q4]
theorem Oe(s:ByteArray)(tk U:Int)(ta:ByteArray)(dp:Int)(o f:List Tm)(a t:Nat)(e C:Int)(I J:Int)(P T:ByteArray)(g:List ByteArray)(i:List Tm)(j:List Cs)(a1:0<=dp)(a2:dp<=24)(a3:o.length<=1600)
  (l:f.length=o.length+1) (r:o.map Tm.row++[[.int I,.int J,.str P,.str T,Q6 g,.sl (i.map Tm.row),.sl (j.map Cs.row)]]=f.map Tm.row)
  (hx:Z0 Tryz.prog 32 [.ptr 1000 0,Iv (dp+1)] [(1000,pO s a e)] (Y3 (.mk I J P T g i j)) [(1000,pO s t C)]):
  Z0 Tryz.prog 52 [.ptr 1001 0,.ptr 1002 0,.ptr 1003 0] [(1000,.blk 77 [Sv s,Iv (a:Int),Iv e]),(1001,.blk 54 [Iv tk,Iv U,Sv ta,Sv .empty,.lit (.slice none 0 0),.arr 500 0 o.length,.lit (.slice none 0 0)]),(1002,.blk 75 [.ptr 1000 0]),(1003,.blk 3 [Iv dp]),(500,.arr 54 7 (o.map Tm.row))] (.tuple []) [(1000,.blk 77 [Sv s,Iv (t:Int),Iv C]),(1001,.blk 54 [Iv tk,Iv U,Sv ta,Sv .empty,.lit (.slice none 0 0),.arr 500 0 f.length,.lit (.slice none 0 0)]),(1002,.blk 75 [.ptr 1000 0]),(1003,.blk 3 [Iv dp]),(500,.arr 54 7 (f.map Tm.row))]:=by
 unfold pO at *;refine Z0.of Tryz.func52 rfl rfl (Nat.le_of_ble_eq_true rfl) ?_;show X8 _ _ (Qz _ Tryz.f52 _ _) (X7 14 _ _);refine Wz [] [.c [] [.ptr 1000 0,Iv (dp+1)] [(1000,.blk 77 [Sv s,Iv (a:Int),Iv e])] (.agg [Iv I,Iv J,Sv P,Sv T,.d (Q6 g),La (i.map Tm.row),La (j.map Cs.row)]) [(1000,.blk 77 [Sv s,Iv (t:Int),Iv C])]] mixed ?_ (hr:=by conv=>lhs;simp[r]);try dsimp only[Q8,Q5]
 apply Qz.normal
 ·rfl
 ·conv=>lhs;simp[Q7,Tryz.results52]
 ·rfl
 ·simp[Qq,Q4,l]
theorem O8(s:ByteArray)(tk g:Int)(i:ByteArray)(dp:Int)(n:Nat)(f:List Tm)(a:Nat)(e:Int)(j:0<=dp)(l:dp<=24)(r:f.length<=1600)
  (J:Z0 Tryz.prog 32 [.ptr 1000 0,Iv (dp+1)] [(1000,pO s a e)] (Y3 (Tm.ps false s n (a,e)).1) [(1000,pO s (Tm.ps false s n (a,e)).2.1 (Tm.ps false s n (a,e)).2.2)]):
  Z0 Tryz.prog 52 [.ptr 1001 0,.ptr 1002 0,.ptr 1003 0] [(1000,.blk 77 [Sv s,Iv (a:Int),Iv e]),(1001,.blk 54 [Iv tk,Iv g,Sv i,Sv .empty,.lit (.slice none 0 0),.arr 500 0 f.length,.lit (.slice none 0 0)]),(1002,.blk 75 [.ptr 1000 0]),(1003,.blk 3 [Iv dp]),(500,.arr 54 7 (f.map Tm.row))] (.tuple []) [(1000,.blk 77 [Sv s,Iv (((Tm.ps false s n (a,e)).2.1:Int)),Iv ((Tm.ps false s n (a,e)).2.2)]),(1001,.blk 54 [Iv tk,Iv g,Sv i,Sv .empty,.lit (.slice none 0 0),.arr 500 0 ((f++[(Tm.ps false s n (a,e)).1]).length),.lit (.slice none 0 0)]),(1002,.blk 75 [.ptr 1000 0]),(1003,.blk 3 [Iv dp]),(500,.arr 54 7 ((f++[(Tm.ps false s n (a,e)).1]).map Tm.row))]:=by
 generalize Tm.ps false s n (a,e)=o at *;obtain⟨⟨P,T,U,xb,t,C,I⟩,c2,e2⟩:=o;dsimp only at *;exact Oe s tk g i dp f _ a c2 e e2 P T U xb t C I j l r (by simp) (by simp[Tm.row,Tm.Q3,Cs.Q3]) J
theorem Qd2(s:ByteArray)(j:Int)(f:List ByteArray)(x:ByteArray)(a g:Nat)(e i:Int)(l:f.length<=1600)
  (o:Z0 Tryz.prog 29 [.ptr 1000 0] [(1000,pO s a e)] (Sv x) [(1000,pO s g i)]):
  Z0 Tryz.prog 55 [.ptr 1001 0,.ptr 1002 0] [(1000,.blk 77 [Sv s,Iv (a:Int),Iv e]),(1001,.blk 87 [Iv j,.arr 500 0 f.length,Iv 0,Iv 0,Sv .empty,Sv .empty,.lit (.slice none 0 0),.lit (.slice none 0 0),.lit (.slice none 0 0)]),(1002,.blk 75 [.ptr 1000 0]),(500,.arr 9 1 (f.map Jj))] (.tuple []) [(1000,.blk 77 [Sv s,Iv (g:Int),Iv i]),(1001,.blk 87 [Iv j,.arr 500 0 ((f++[x]).length),Iv 0,Iv 0,Sv .empty,Sv .empty,.lit (.slice none 0 0),.lit (.slice none 0 0),.lit (.slice none 0 0)]),(1002,.blk 75 [.ptr 1000 0]),(500,.arr 9 1 ((f++[x]).map Jj))]:=by
 unfold pO at *;refine Z0.of Tryz.func55 rfl rfl (Nat.le_of_ble_eq_true rfl) ?_;show X8 _ _ (Qz _ Tryz.f55 _ _) (X7 9 _ _);refine Wz [] [.c [] [.ptr 1000 0] [(1000,.blk 77 [Sv s,Iv (a:Int),Iv e])] (Sv x) [(1000,.blk 77 [Sv s,Iv (g:Int),Iv i])]] mixed ?_;try dsimp only[Q8,Q5]
 apply Qz.normal
 ·rfl
 ·conv=>lhs;simp[Q7,Tryz.results55]
 ·rfl
 ·simp[Qq,Q4]
theorem Jk4(s:ByteArray)(g:Int)(f:List ByteArray)(a:Nat)(e:Int)(i:f.length<=1600)(j:a<=s.size)(l:s.size<=1500):
  Z0 Tryz.prog 55 [.ptr 1001 0,.ptr 1002 0] [(1000,.blk 77 [Sv s,Iv (a:Int),Iv e]),(1001,.blk 87 [Iv g,.arr 500 0 f.length,Iv 0,Iv 0,Sv .empty,Sv .empty,.lit (.slice none 0 0),.lit (.slice none 0 0),.lit (.slice none 0 0)]),(1002,.blk 75 [.ptr 1000 0]),(500,.arr 9 1 (f.map Jj))] (.tuple []) [(1000,.blk 77 [Sv s,Iv (((U2 s (a,e)).2.1:Int)),Iv ((U2 s (a,e)).2.2)]),(1001,.blk 87 [Iv g,.arr 500 0 ((f++[(U2 s (a,e)).1]).length),Iv 0,Iv 0,Sv .empty,Sv .empty,.lit (.slice none 0 0),.lit (.slice none 0 0),.lit (.slice none 0 0)]),(1002,.blk 75 [.ptr 1000 0]),(500,.arr 9 1 ((f++[(U2 s (a,e)).1]).map Jj))]:=by
 have r:=ZF s a e j l;generalize U2 s (a,e)=o at *;obtain⟨x,t,C⟩:=o;dsimp only at *;exact Qd2 s g f x a t e C i r
theorem Qd4(s:ByteArray)(j:ByteArray)(f:List ByteArray)(x:ByteArray)(a g:Nat)(e i:Int)(l:f.length<=1600)
  (o:Z0 Tryz.prog 29 [.ptr 1000 0] [(1000,pO s a e)] (Sv x) [(1000,pO s g i)]):
  Z0 Tryz.prog 31 [.ptr 1001 0,.ptr 1002 0] [(1000,.blk 77 [Sv s,Iv (a:Int),Iv e]),(1001,.blk 56 [Sv j,.arr 500 0 f.length,Iv 0,Iv 0,Sv .empty,Sv .empty,.lit (.slice none 0 0),.lit (.slice none 0 0),.lit (.slice none 0 0)]),(1002,.blk 75 [.ptr 1000 0]),(500,.arr 9 1 (f.map Jj))] (.tuple []) [(1000,.blk 77 [Sv s,Iv (g:Int),Iv i]),(1001,.blk 56 [Sv j,.arr 500 0 ((f++[x]).length),Iv 0,Iv 0,Sv .empty,Sv .empty,.lit (.slice none 0 0),.lit (.slice none 0 0),.lit (.slice none 0 0)]),(1002,.blk 75 [.ptr 1000 0]),(500,.arr 9 1 ((f++[x]).map Jj))]:=by
 unfold pO at *;refine Z0.of Tryz.func31 rfl rfl (Nat.le_of_ble_eq_true rfl) ?_;show X8 _ _ (Qz _ Tryz.f31 _ _) (X7 9 _ _);refine Wz [] [.c [] [.ptr 1000 0] [(1000,.blk 77 [Sv s,Iv (a:Int),Iv e])] (Sv x) [(1000,.blk 77 [Sv s,Iv (g:Int),Iv i])]] mixed ?_;try dsimp only[Q8,Q5]
 apply Qz.normal
 ·rfl
 ·conv=>lhs;simp[Q7,Tryz.results31]
 ·rfl
 ·simp[Qq,Q4]
theorem Jk5(s:ByteArray)(g:ByteArray)(f:List ByteArray)(a:Nat)(e:Int)(i:f.length<=1600)(j:a<=s.size)(l:s.size<=1500):
  Z0 Tryz.prog 31 [.ptr 1001 0,.ptr 1002 0] [(1000,.blk 77 [Sv s,Iv (a:Int),Iv e]),(1001,.blk 56 [Sv g,.arr 500 0 f.length,Iv 0,Iv 0,Sv .empty,Sv .empty,.lit (.slice none 0 0),.lit (.slice none 0 0),.lit (.slice none 0 0)]),(1002,.blk 75 [.ptr 1000 0]),(500,.arr 9 1 (f.map Jj))] (.tuple []) [(1000,.blk 77 [Sv s,Iv (((U2 s (a,e)).2.1:Int)),Iv ((U2 s (a,e)).2.2)]),(1001,.blk 56 [Sv g,.arr 500 0 ((f++[(U2 s (a,e)).1]).length),Iv 0,Iv 0,Sv .empty,Sv .empty,.lit (.slice none 0 0),.lit (.slice none 0 0),.lit (.slice none 0 0)]),(1002,.blk 75 [.ptr 1000 0]),(500,.arr 9 1 ((f++[(U2 s (a,e)).1]).map Jj))]:=by
 have r:=ZF s a e j l;generalize U2 s (a,e)=o at *;obtain⟨x,t,C⟩:=o;dsimp only at *;exact Qd4 s g f x a t e C i r
theorem Od(s:ByteArray)(tk tn:Int)(ta:ByteArray)(dp:Int)(xs:List Tm)(i f:List Cs)(a J P t T U A6:Nat)(e e1 e2 C e4 e5 e6 g:Int)(ws:List ByteArray)(xk xn:Int)(xa xb:ByteArray)(j:List ByteArray)(l:List Tm)(o:List Cs)(a1:0<=dp)(a2:dp<=24)(a3:i.length<=1600)
  (r:f.length=i.length+1) (I:i.map Cs.row++[[.int g,Q6 ws,.int xk,.int xn,.str xa,.str xb,Q6 j,.sl (l.map Tm.row),.sl (o.map Cs.row)]]=f.map Cs.row)
  (a4:Z0 Tryz.prog 28 [.ptr 1000 0,Sv ⟨#[40]⟩] [(1000,pO s a e)] (.tuple []) [(1000,pO s J e1)])
  (a5:Z0 Tryz.prog 53 [.ptr 1000 0] [(1000,pO s J e1)] (Iv g) [(1000,pO s P e2)])
  (a6:Z0 Tryz.prog 28 [.ptr 1000 0,Sv ⟨#[40]⟩] [(1000,pO s P e2)] (.tuple []) [(1000,pO s t C)])
  (a7:Z0 Tryz.prog 30 [.ptr 1000 0,.clo 55 [.ptr 1001 0,.ptr 1002 0]] [(1000,.blk 77 [Sv s,Iv (t:Int),Iv C]),(1001,.blk 87 [Iv g,.arr 500 0 (([]:List ByteArray).length),Iv 0,Iv 0,Sv .empty,Sv .empty,.lit (.slice none 0 0),.lit (.slice none 0 0),.lit (.slice none 0 0)]),(1002,.blk 75 [.ptr 1000 0]),(500,.arr 9 1 (([]:List ByteArray).map Jj))] (.tuple []) [(1000,.blk 77 [Sv s,Iv (T:Int),Iv e4]),(1001,.blk 87 [Iv g,.arr 500 0 ws.length,Iv 0,Iv 0,Sv .empty,Sv .empty,.lit (.slice none 0 0),.lit (.slice none 0 0),.lit (.slice none 0 0)]),(1002,.blk 75 [.ptr 1000 0]),(500,.arr 9 1 (ws.map Jj))])
  (hx:Z0 Tryz.prog 32 [.ptr 1000 0,Iv (dp+1)] [(1000,pO s T e4)] (Y3 (.mk xk xn xa xb j l o)) [(1000,pO s U e5)])
  (a8:Z0 Tryz.prog 28 [.ptr 1000 0,Sv ⟨#[41]⟩] [(1000,pO s U e5)] (.tuple []) [(1000,pO s A6 e6)]):
  Z0 Tryz.prog 54 [.ptr 1002 0,.ptr 1003 0,.ptr 1001 0] [(1000,.blk 77 [Sv s,Iv (a:Int),Iv e]),(1001,.blk 54 [Iv tk,Iv tn,Sv ta,Sv .empty,.lit (.slice none 0 0),.arr 500 0 xs.length,.arr 501 0 i.length]),(1002,.blk 75 [.ptr 1000 0]),(1003,.blk 3 [Iv dp]),(500,.arr 54 7 (xs.map Tm.row)),(501,.arr 87 9 (i.map Cs.row))] (.tuple []) [(1000,.blk 77 [Sv s,Iv (A6:Int),Iv e6]),(1001,.blk 54 [Iv tk,Iv tn,Sv ta,Sv .empty,.lit (.slice none 0 0),.arr 500 0 xs.length,.arr 501 0 f.length]),(1002,.blk 75 [.ptr 1000 0]),(1003,.blk 3 [Iv dp]),(500,.arr 54 7 (xs.map Tm.row)),(501,.arr 87 9 (f.map Cs.row))]:=by
 unfold pO at *;refine Z0.of Tryz.func54 rfl rfl (Nat.le_of_ble_eq_true rfl) ?_;show X8 _ _ (Qz _ Tryz.f54 _ _) (X7 29 _ _);refine Wg [] [.c [] [.ptr 1000 0,Sv (⟨#[40]⟩)] [(1000,.blk 77 [Sv s,Iv (a:Int),Iv e])] (.tuple []) [(1000,.blk 77 [Sv s,Iv (J:Int),Iv e1])]] ?_;refine Wg [] [.c [] [.ptr 1000 0] [(1000,.blk 77 [Sv s,Iv (J:Int),Iv e1])] (Iv g) [(1000,.blk 77 [Sv s,Iv (P:Int),Iv e2])]] ?_;refine Wg [] [.c [] [.ptr 1000 0,Sv (⟨#[40]⟩)] [(1000,.blk 77 [Sv s,Iv (P:Int),Iv e2])] (.tuple []) [(1000,.blk 77 [Sv s,Iv (t:Int),Iv C])]] ?_;refine Wb ?_;refine X8.le (Le.low [400] [] (fr:=[(0,.ptr 1002 0),(1,.ptr 1003 0),(2,.ptr 1001 0),(3,.ptr 3 0)]) (mem:=[(3,some (.blk 87 [Iv g,.arr 400 0 0,Iv 0,Iv 0,Sv .empty,Sv .empty,.lit (.slice none 0 0),.lit (.slice none 0 0),.lit (.slice none 0 0)])),(400,some (.arr 9 1 ([]))),(500,some (.arr 54 7 (xs.map Tm.row))),(501,some (.arr 87 9 (i.map Cs.row))),(1000,some (.blk 77 [Sv s,Iv (t:Int),Iv C])),(1001,some (.blk 54 [Iv tk,Iv tn,Sv ta,Sv .empty,.lit (.slice none 0 0),.arr 500 0 xs.length,.arr 501 0 i.length])),(1002,some (.blk 75 [.ptr 1000 0])),(1003,some (.blk 3 [Iv dp]))]) rfl (by simp) (by simp)) ?_;refine Wg [] [.c [(1001,3),(500,400)] [.ptr 1000 0,.clo 55 [.ptr 1001 0,.ptr 1002 0]] [(1000,.blk 77 [Sv s,Iv (t:Int),Iv C]),(1001,.blk 87 [Iv g,.arr 500 0 0,Iv 0,Iv 0,Sv .empty,Sv .empty,.lit (.slice none 0 0),.lit (.slice none 0 0),.lit (.slice none 0 0)]),(1002,.blk 75 [.ptr 1000 0]),(500,.arr 9 1 ([]))] (.tuple []) [(1000,.blk 77 [Sv s,Iv (T:Int),Iv e4]),(1001,.blk 87 [Iv g,.arr 500 0 ws.length,Iv 0,Iv 0,Sv .empty,Sv .empty,.lit (.slice none 0 0),.lit (.slice none 0 0),.lit (.slice none 0 0)]),(1002,.blk 75 [.ptr 1000 0]),(500,.arr 9 1 (ws.map Jj))]] ?_
 refine Wg [] [.c [] [.ptr 1000 0,Iv (dp+1)] [(1000,.blk 77 [Sv s,Iv (T:Int),Iv e4])] (.agg [Iv xk,Iv xn,Sv xa,Sv xb,.d (Q6 j),La (l.map Tm.row),La (o.map Cs.row)]) [(1000,.blk 77 [Sv s,Iv (U:Int),Iv e5])]] ?_;refine Wg [] [.c [] [.ptr 1000 0,Sv (⟨#[41]⟩)] [(1000,.blk 77 [Sv s,Iv (U:Int),Iv e5])] (.tuple []) [(1000,.blk 77 [Sv s,Iv (A6:Int),Iv e6])]] ?_;apply X8.Hw [400]
 ·conv=>lhs;simp
 refine Wz [] [] mixed ?_ (hr:=by conv=>lhs;simp[I]);try dsimp only[Q8,Q5]
 apply Qz.normal
 ·rfl
 ·conv=>lhs;simp[Q7,Tryz.results54]
 ·rfl
 ·simp[Qq,Q4,r]
theorem Qd3(s:ByteArray)(tk tn:Int)(ta:ByteArray)(dp:Int)(n:Nat)(xs:List Tm)(f:List Cs)(a:Nat)(e:Int)(a3:0<=dp)(a4:dp<=24)(i:f.length<=1600)(ha:a<=s.size)(C:s.size<=1500)
  (hx:∀(a:Nat) (e:Int),a<=s.size->Z0 Tryz.prog 32 [.ptr 1000 0,Iv (dp+1)] [(1000,pO s a e)] (Y3 (Tm.ps false s n (a,e)).1) [(1000,pO s (Tm.ps false s n (a,e)).2.1 (Tm.ps false s n (a,e)).2.2)]):
  Z0 Tryz.prog 54 [.ptr 1002 0,.ptr 1003 0,.ptr 1001 0] [(1000,.blk 77 [Sv s,Iv (a:Int),Iv e]),(1001,.blk 54 [Iv tk,Iv tn,Sv ta,Sv .empty,.lit (.slice none 0 0),.arr 500 0 xs.length,.arr 501 0 f.length]),(1002,.blk 75 [.ptr 1000 0]),(1003,.blk 3 [Iv dp]),(500,.arr 54 7 (xs.map Tm.row)),(501,.arr 87 9 (f.map Cs.row))] (.tuple []) [(1000,.blk 77 [Sv s,Iv (((ZK false s (Tm.ps false s n) (a,e)).2.1:Int)),Iv ((ZK false s (Tm.ps false s n) (a,e)).2.2)]),(1001,.blk 54 [Iv tk,Iv tn,Sv ta,Sv .empty,.lit (.slice none 0 0),.arr 500 0 xs.length,.arr 501 0 ((f++[(ZK false s (Tm.ps false s n) (a,e)).1]).length)]),(1002,.blk 75 [.ptr 1000 0]),(1003,.blk 3 [Iv dp]),(500,.arr 54 7 (xs.map Tm.row)),(501,.arr 87 9 ((f++[(ZK false s (Tm.ps false s n) (a,e)).1]).map Cs.row))]:=by
 unfold ZK;dsimp only;have I:=W9 s FT a e ha C;have h1:=Kw (s:=s) (w:=FT) (p:=(a,e)) ha;generalize Kj s FT (a,e)=p1 at *;obtain⟨A1,e1⟩:=p1;have j:=h1.sz;dsimp only at j I;have J:=Qd1 s A1 e1 j C;have h2:=VN (g:=false) (s:=s) (p:=(A1,e1)) j;generalize GD false s (A1,e1)=t at *;obtain⟨tg,A2,e2⟩:=t;have l:=h2.sz;dsimp only at l J⊢;have P:=W9 s FT A2 e2 l C;have h3:=Kw (s:=s) (w:=FT) (p:=(A2,e2)) l;generalize Kj s FT (A2,e2)=p3 at *;obtain⟨A3,e3⟩:=p3;have o:=h3.sz;dsimp only at o P;have T:=Qd5 s tg A3 e3 o C (λf a e i ha=>Jk4 s tg f a e i ha C);have h4:=(Lj (λp h=>G8 (s:=s) h) (s.size+2) (A3,e3) o).1;generalize J2 s (U2 s) (s.size+2) (A3,e3)=W at *;obtain⟨ws,A4,e4⟩:=W;have r:=h4.sz;dsimp only at r T⊢;have U:=hx A4 e4 r;have h5:=Pw (g:=false) (s:=s) n (A4,e4) r;generalize Tm.ps false s n (A4,e4)=Y at *;obtain⟨⟨xk,xn,xa,xb,a5,a6,a7⟩,A5,e5⟩:=Y;have a1:=h5.sz;dsimp only at a1 U⊢;have a2:=W9 s XA A5 e5 a1 C;generalize Kj s XA (A5,e5)=p6 at *;obtain⟨A6,e6⟩:=p6;dsimp only at a2⊢;exact Od s tk tn ta dp xs f _ a A1 A2 A3 A4 A5 A6 e e1 e2 e3 e4 e5 e6 tg ws xk xn xa xb a5 a6 a7 a3 a4 i (by simp) (by simp[Cs.row,Tm.row,Tm.Q3,Cs.Q3]) I J P T U a2
theorem SY:∀l:List UInt8,Ot (l.drop (Ot l))=0
 |[]=>rfl
 |c::r=>by
  rw[Ot];split
  ·rw[List.drop_succ_cons];exact SY r
  ·rename_i h;rw[List.drop_zero,Ot,if_neg h]
theorem Qj9(s:ByteArray)(a:Nat):Bj s (Bj s a)=Bj s a:=by
 have h:Ot (s.data.toList.drop (Bj s a))=0:=by
  unfold Bj;rw[<-List.drop_drop];exact SY _
 unfold Bj at h⊢;rw[h];rfl
theorem JZ(s:ByteArray)(a:Nat):Cq s (Bj s a)=Cq s a:=by
 unfold Cq;rw[Qj9]
theorem Xj9(s:ByteArray)(a:Nat)(e:Int):XE s (Bj s a,e)=XE s (a,e):=by
 unfold XE;dsimp only;rw[JZ,Qj9]
theorem LF{w:ByteArray}(h:w.size=0):sharp w=false:=by
 rw[WC h];rfl
@[simp] theorem Zd6 (c:UInt8):(⟨#[c]⟩:ByteArray).size<=maxLen:=by show 1<=maxLen;decide
def Xq7(s:ByteArray)(n:Nat):Prop:=∀(a:Nat) (e:Int),a<=s.size->Z0 Tryz.prog 32 [.ptr 1000 0,Iv (25-(n:Int))] [(1000,pO s a e)] (Y3 (Tm.ps false s n (a,e)).1) [(1000,pO s (Tm.ps false s n (a,e)).2.1 (Tm.ps false s n (a,e)).2.2)]
theorem Zq1(s:ByteArray):Xq7 s 0:=by
 intro a e g;rw[Tm.ps];dsimp only;show Z0 Tryz.prog 32 [.ptr 1000 0,Iv 25] _ _ _;unfold pO at *;refine Z0.of Tryz.func32 rfl rfl (Nat.le_of_ble_eq_true rfl) ?_;show X8 _ _ (Qz _ Tryz.f32 _ _) (X7 122 _ _);refine Wr ?_;refine Wr ?_;refine Wy ?_;have f:=Yu s a e 9;refine Wg [] [.c [] [.ptr 1000 0,Iv 9] [(1000,.blk 77 [Sv s,Iv (a:Int),Iv e])] (.tuple []) [(1000,.blk 77 [Sv s,Iv (a:Int),Iv (ZM e 9)])]] ?_;refine Wr ?_;refine Wt ?_;try dsimp only[Q8,Q5]
 apply Qz.ret
 ·rfl
 ·conv=>lhs;simp[Q7,Tryz.results32]
 ·first|rfl|simp[Zv,Y3,Tm.row,Tm.Q3,Cs.Q3,AV.Jk,K5,Q6]
 ·simp[Qq,Q4]
theorem Zq0(s:ByteArray)(n:Nat)(dp:Int)(a:Nat)(e:Int)(ha:a<=s.size)(hs:s.size<=1500)(a7:0<=dp)(a8:dp<=24)
  (hx:∀(a:Nat) (e:Int),a<=s.size->Z0 Tryz.prog 32 [.ptr 1000 0,Iv (dp+1)] [(1000,pO s a e)] (Y3 (Tm.ps false s n (a,e)).1) [(1000,pO s (Tm.ps false s n (a,e)).2.1 (Tm.ps false s n (a,e)).2.2)]):
  Z0 Tryz.prog 32 [.ptr 1000 0,Iv dp] [(1000,pO s a e)] (Y3 (Tm.ps false s (n+1) (a,e)).1) [(1000,pO s (Tm.ps false s (n+1) (a,e)).2.1 (Tm.ps false s (n+1) (a,e)).2.2)]:=by
 have d3:¬24<dp:=oM;obtain⟨R,f⟩:∃R,R=Tm.ps false s (n+1) (a,e):=⟨_,rfl⟩
 rw[<-f];rw[Tm.ps]at f;unfold pO at *;refine Z0.of Tryz.func32 rfl rfl (Nat.le_of_ble_eq_true rfl) ?_;show X8 _ _ (Qz _ Tryz.f32 _ _) (X7 122 _ _);refine Wr ?_;refine Wr ?_ (r:=by conv=>lhs;simp[d3]);refine Wn ?_;refine Ws ?_;have d4:=Xg s a e ha hs;have f1:=XB ha;have c9:=R7 ha;have f2:=KW c9.2;have c4:=JZ s a;have d5:=Xj9 s a e;have f3:(Cq s a).size<=1500:=oM;have c5:Bj s a<=s.size:=c9.2;clear f1 c9 f2;obtain⟨W,hW⟩:∃W,W=Cq s a:=⟨_,rfl⟩
 obtain⟨A,hA⟩:∃A,A=Bj s a:=⟨_,rfl⟩
 rw[<-hA]at d4 c4 d5 c5 f;rw[<-hW]at d4 c4 f3 f;refine Wg [] [.c [] [.ptr 1000 0] [(1000,.blk 77 [Sv s,Iv (a:Int),Iv e])] (Sv W) [(1000,.blk 77 [Sv s,Iv (A:Int),Iv e])]] ?_;by_cases q1:W=⟨#[40]⟩
 ·have f4:=eq_true q1;refine Wr ?_ (r:=by conv=>lhs;simp[f4]);refine Wn ?_;refine Ws ?_;rw[if_pos q1]at f;have b7:=I4 s A e c5 hs;have d0:=U0 (s:=s) (p:=(A,e)) c5;rw[c4]at b7;rw[<-d5]at f;generalize XE s (A,e)=p2 at b7 f d0;obtain⟨A2,U⟩:=p2;have c6:=d0.sz;dsimp only at b7 f c6;have c8:=Xg s A2 U c6 hs;have d6:=XB c6;have c1:=R7 c6;have d7:=KW c1.2;have d8:(Cq s A2).size<=1500:=oM;have C:Bj s A2<=s.size:=c1.2;clear d6 c1 d7 d0;obtain⟨W2,b8⟩:∃W,W=Cq s A2:=⟨_,rfl⟩
  obtain⟨A3,b9⟩:∃A,A=Bj s A2:=⟨_,rfl⟩
  rw[<-b9]at c8 C f;rw[<-b8]at c8 d8 f;refine Wg [] [.c [] [.ptr 1000 0] [(1000,.blk 77 [Sv s,Iv (A:Int),Iv e])] (Sv W) [(1000,.blk 77 [Sv s,Iv (A2:Int),Iv U])]] ?_;refine Wg [] [.c [] [.ptr 1000 0] [(1000,.blk 77 [Sv s,Iv (A2:Int),Iv U])] (Sv W2) [(1000,.blk 77 [Sv s,Iv (A3:Int),Iv U])]] ?_;refine Wr ?_;refine Wr ?_;refine Wr ?_;refine Wg [0] [] ?_;obtain⟨PL,d1⟩:∃PL,PL=Pf:=⟨_,rfl⟩
  have d9:PL.map Jj=[[.str ⟨#[43]⟩],[.str ⟨#[45]⟩],[.str ⟨#[42]⟩],[.str ⟨#[60]⟩],[.str ⟨#[61]⟩]]:=by rw[d1];rfl
  have e0:PL.length=5:=by rw[d1];rfl
  refine Wb ?_;refine X8.le (Le.low [] [] (fr:=[(2,.ptr 2 0),(3,.ptr 3 0),(4,.ptr 4 0),(5,Sv W2),(8,.ptr 8 0),(9,.clo 52 [.ptr 8 0,.ptr 2 0,.ptr 3 0]),(10,Iv 0),(45,.d (Q6 PL)),(46,Iv (PL.length:Int)),(47,Iv 0)]) (mem:=[(2,some (.blk 75 [.ptr 1000 0])),(3,some (.blk 3 [Iv dp])),(4,some (.blk 54 [Iv 0,Iv 0,Sv .empty,Sv .empty,.lit (.slice none 0 0),.lit (.slice none 0 0),.lit (.slice none 0 0)])),(8,some (.blk 54 [Iv 0,Iv 0,Sv .empty,Sv .empty,.lit (.slice none 0 0),.lit (.slice none 0 0),.lit (.slice none 0 0)])),(1000,some (.blk 77 [Sv s,Iv (A3:Int),Iv U]))]) rfl (by simp[d9,e0]) (by simp)) ?_;refine Wb ?_;refine Wl (σ:=λu:{u:Nat×Int // u.1<=PL.length/\GZ W2 Pf 0 0=GZ W2 (PL.drop u.1) (u.1:Int) u.2}=>⟨122,[(2,.ptr 2 0),(3,.ptr 3 0),(4,.ptr 4 0),(5,Sv W2),(8,.ptr 8 0),(9,.clo 52 [.ptr 8 0,.ptr 2 0,.ptr 3 0]),(10,Iv u.1.2),(45,.d (Q6 PL)),(46,Iv (PL.length:Int)),(47,Iv (u.1.1:Int))],[(2,some (.blk 75 [.ptr 1000 0])),(3,some (.blk 3 [Iv dp])),(4,some (.blk 54 [Iv 0,Iv 0,Sv .empty,Sv .empty,.lit (.slice none 0 0),.lit (.slice none 0 0),.lit (.slice none 0 0)])),(8,some (.blk 54 [Iv 0,Iv 0,Sv .empty,Sv .empty,.lit (.slice none 0 0),.lit (.slice none 0 0),.lit (.slice none 0 0)])),(1000,some (.blk 77 [Sv s,Iv (A3:Int),Iv U]))]⟩)
   (μ:=λu=>PL.length-u.1.1) ⟨(0,0),⟨Nat.zero_le _,by rw[d1,List.drop_zero];rfl⟩⟩ (Le.sub (by simp) (by simp)) (λ⟨(i,r),⟨e1,hw⟩⟩=>?_)
  dsimp only at e1 hw⊢;refine Wr ?_;refine Wb ?_;refine Wc rfl (λhc=>?_) (λhc=>?_)
  ·have c0:i<PL.length:=by have:=of_decide_eq_true hc;omega
   clear hc;have e3:PL[i]? =some PL[i]:=List.getElem?_eq_getElem c0;have f5:PL[i]∈PL:=List.getElem_mem c0;have e9:PL.drop i=PL[i]::PL.drop (i+1):=List.drop_eq_getElem_cons c0;generalize PL[i]=x at e3 f5 e9;rw[e9,GZ]at hw;refine Ws ?_;refine Wr ?_ (r:=by conv=>lhs;simp[e3]);by_cases q2:W2=x
   ·have f6:=eq_true q2;refine Wr ?_ (r:=by conv=>lhs;simp[f6]);refine Wy ?_;refine Wr ?_;refine Wr ?_;refine⟨⟨(i+1,((i:Int)+1)),c0,by push_cast;rw[hw,if_pos (q2)]⟩,by simp;omega,?_⟩;dsimp only;exact Le.sub (by simp) (by simp)
   refine Wr ?_ (r:=by conv=>lhs;simp[q2]);refine Wn ?_;refine Ws ?_;refine Wr ?_;refine⟨⟨(i+1,r),c0,by push_cast;rw[hw,if_neg q2]⟩,by simp;omega,?_⟩;dsimp only;exact Le.sub (by simp) (by simp)
  have c0:i=PL.length:=by have:=of_decide_eq_false hc;omega
  subst c0;clear hc;rw[List.drop_length,GZ]at hw;refine We ?_;obtain⟨M,hM⟩:∃M:Int,(W2.size:Int)=M:=⟨_,rfl⟩
  by_cases hl:0<M
  ·have c7:W2[0]? =some W2[0]:=by rw[getElem?_pos]
   generalize W2[0]=c at c7;have a6:=TZ c7;obtain⟨cn,d2⟩:∃n:Int,(c.toNat:Int)=n:=⟨_,rfl⟩
   rw[d2]at a6;by_cases q3:cn=35
   ·have f7:=eq_true q3;refine Wr ?_ (r:=by conv=>lhs;simp[hM,c7,d2,hl,f7]);refine Wy ?_;rw[show decide (cn=35)=true from decide_eq_true q3]at a6;rw[JE]at f;rw[if_pos a6]at f;have f0:=Qd1 s A3 U C hs;have ht:=VN (g:=false) (s:=s) (p:=(A3,U)) C;generalize GD false s (A3,U)=t at f0 ht f;obtain⟨tg,l,o⟩:=t;have j:=ht.sz;dsimp only at f0 j f;have a4:=DZ s 3 tg .empty n dp l o j hs (λus a e b6 ha=>O8 s 3 tg .empty dp n us a e a7 a8 b6 (hx a e ha));simp only[List.length_nil,List.map_nil]at a4;generalize J2 s (Tm.ps false s n) (s.size+2) (l,o)=y at a4 f;obtain⟨us,A5,e5⟩:=y;dsimp only at a4 f;refine Wg [] [.c [] [.ptr 1000 0] [(1000,.blk 77 [Sv s,Iv (A3:Int),Iv U])] (Iv tg) [(1000,.blk 77 [Sv s,Iv (l:Int),Iv o])]] ?_;refine Wb ?_;refine X8.le (Le.low [400] [] (fr:=[(2,.ptr 2 0),(3,.ptr 3 0),(4,.ptr 4 0),(5,Sv W2),(8,.ptr 8 0),(9,.clo 52 [.ptr 8 0,.ptr 2 0,.ptr 3 0])]) (mem:=[(2,some (.blk 75 [.ptr 1000 0])),(3,some (.blk 3 [Iv dp])),(4,some (.blk 54 [Iv 0,Iv 0,Sv .empty,Sv .empty,.lit (.slice none 0 0),.lit (.slice none 0 0),.lit (.slice none 0 0)])),(8,some (.blk 54 [Iv 3,Iv tg,Sv .empty,Sv .empty,.lit (.slice none 0 0),.arr 400 0 0,.lit (.slice none 0 0)])),(400,some (.arr 54 7 ([]))),(1000,some (.blk 77 [Sv s,Iv (l:Int),Iv o]))]) rfl (by simp) (by simp)) ?_
    refine Wg [] [.c [(1001,8),(1002,2),(1003,3),(500,400)] [.ptr 1000 0,.clo 52 [.ptr 1001 0,.ptr 1002 0,.ptr 1003 0]] [(1000,.blk 77 [Sv s,Iv (l:Int),Iv o]),(1001,.blk 54 [Iv 3,Iv tg,Sv .empty,Sv .empty,.lit (.slice none 0 0),.arr 500 0 0,.lit (.slice none 0 0)]),(1002,.blk 75 [.ptr 1000 0]),(1003,.blk 3 [Iv dp]),(500,.arr 54 7 ([]))] (.tuple []) [(1000,.blk 77 [Sv s,Iv (A5:Int),Iv e5]),(1001,.blk 54 [Iv 3,Iv tg,Sv .empty,Sv .empty,.lit (.slice none 0 0),.arr 500 0 us.length,.lit (.slice none 0 0)]),(1002,.blk 75 [.ptr 1000 0]),(1003,.blk 3 [Iv dp]),(500,.arr 54 7 (us.map Tm.row))]] ?_;rw[f];dsimp only;apply X8.Hw [400]
    ·conv=>lhs;simp
    refine Wr ?_;refine Wt ?_;try dsimp only[Q8,Q5]
    apply Qz.ret
    ·rfl
    ·conv=>lhs;simp[Q7,Tryz.results32]
    ·first|rfl|simp[Zv,Y3,Tm.row,Tm.Q3,Cs.Q3,AV.Jk,K5,Q6]
    ·simp[Qq,Q4]
   refine Wr ?_ (r:=by conv=>lhs;simp[hM,c7,d2,hl,q3]);refine Wn ?_;by_cases q4:W2=⟨#[108,101,116]⟩
   ·have f8:=eq_true q4;refine Wr ?_ (r:=by conv=>lhs;simp[f8]);refine Wy ?_;rw[show decide (cn=35)=false from decide_eq_false q3]at a6;rw[JE]at f;rw[if_neg (by rw[a6];exact Bool.false_ne_true),if_pos q4]at f;have a1:=I4 s A3 U C hs;have P:=U0 (s:=s) (p:=(A3,U)) C;rw[show Cq s A3=W2 from by rw[b9,JZ,b8]]at a1;generalize XE s (A3,U)=o4 at a1 P f;obtain⟨l,o⟩:=o4;have j:=P.sz;dsimp only at a1 j f;have b4:=ZF s l o j hs;have b3:=G8 (s:=s) (p:=(l,o)) j;generalize U2 s (l,o)=o5 at b4 b3 f;obtain⟨nm,A5,e5⟩:=o5;have a3:=b3.sz;dsimp only at b4 a3 f;have I:=O8 s 6 0 nm dp n [] A5 e5 a7 a8 (by simp) (hx A5 e5 a3);have T:=Pw (g:=false) (s:=s) n (A5,e5) a3;generalize Tm.ps false s n (A5,e5)=o6 at I T f;obtain⟨x,A6,e6⟩:=o6;have b2:=T.sz;dsimp only at I b2 f;obtain⟨J,a2⟩:∃u,u=([]:List Tm)++[x]:=⟨_,rfl⟩
    rw[<-a2]at I;have b1:J.length=1:=by rw[a2];rfl
    simp only[List.length_nil,List.map_nil]at I;have a9:=O8 s 6 0 nm dp n J A6 e6 a7 a8 oM (hx A6 e6 b2);have a5:=Pw (g:=false) (s:=s) n (A6,e6) b2;generalize Tm.ps false s n (A6,e6)=o7 at a9 a5 f;obtain⟨y,A7,e7⟩:=o7;have c2:=a5.sz;dsimp only at a9 c2 f;obtain⟨u2,b0⟩:∃u,u=J++[y]:=⟨_,rfl⟩
    rw[<-b0]at a9;have c3:u2.length=2:=by rw[b0];rw[List.length_append,b1];rfl
    have b5:=W9 s XA A7 e7 c2 hs;generalize Kj s XA (A7,e7)=o9 at b5 f;obtain⟨A8,e8⟩:=o9;dsimp only at b5 f;rw[show[x,y]=u2 from by rw[b0,a2];rfl]at f;refine Wg [] [.c [] [.ptr 1000 0] [(1000,.blk 77 [Sv s,Iv (A3:Int),Iv U])] (Sv W2) [(1000,.blk 77 [Sv s,Iv (l:Int),Iv o])]] ?_;refine Wg [] [.c [] [.ptr 1000 0] [(1000,.blk 77 [Sv s,Iv (l:Int),Iv o])] (Sv nm) [(1000,.blk 77 [Sv s,Iv (A5:Int),Iv e5])]] ?_;refine Wb ?_;refine X8.le (Le.low [400] [] (fr:=[(2,.ptr 2 0),(3,.ptr 3 0),(4,.ptr 4 0),(5,Sv W2),(8,.ptr 8 0),(9,.clo 52 [.ptr 8 0,.ptr 2 0,.ptr 3 0])]) (mem:=[(2,some (.blk 75 [.ptr 1000 0])),(3,some (.blk 3 [Iv dp])),(4,some (.blk 54 [Iv 0,Iv 0,Sv .empty,Sv .empty,.lit (.slice none 0 0),.lit (.slice none 0 0),.lit (.slice none 0 0)])),(8,some (.blk 54 [Iv 6,Iv 0,Sv nm,Sv .empty,.lit (.slice none 0 0),.arr 400 0 0,.lit (.slice none 0 0)])),(400,some (.arr 54 7 ([]))),(1000,some (.blk 77 [Sv s,Iv (A5:Int),Iv e5]))]) rfl (by simp) (by simp)) ?_;refine Wg [] [.c [(1001,8),(1002,2),(1003,3),(500,400)] [.ptr 1001 0,.ptr 1002 0,.ptr 1003 0] [(1000,.blk 77 [Sv s,Iv (A5:Int),Iv e5]),(1001,.blk 54 [Iv 6,Iv 0,Sv nm,Sv .empty,.lit (.slice none 0 0),.arr 500 0 0,.lit (.slice none 0 0)]),(1002,.blk 75 [.ptr 1000 0]),(1003,.blk 3 [Iv dp]),(500,.arr 54 7 ([]))] (.tuple []) [(1000,.blk 77 [Sv s,Iv (A6:Int),Iv e6]),(1001,.blk 54 [Iv 6,Iv 0,Sv nm,Sv .empty,.lit (.slice none 0 0),.arr 500 0 J.length,.lit (.slice none 0 0)]),(1002,.blk 75 [.ptr 1000 0]),(1003,.blk 3 [Iv dp]),(500,.arr 54 7 (J.map Tm.row))]] ?_
    refine Wg [] [.c [(1001,8),(1002,2),(1003,3),(500,400)] [.ptr 1001 0,.ptr 1002 0,.ptr 1003 0] [(1000,.blk 77 [Sv s,Iv (A6:Int),Iv e6]),(1001,.blk 54 [Iv 6,Iv 0,Sv nm,Sv .empty,.lit (.slice none 0 0),.arr 500 0 J.length,.lit (.slice none 0 0)]),(1002,.blk 75 [.ptr 1000 0]),(1003,.blk 3 [Iv dp]),(500,.arr 54 7 (J.map Tm.row))] (.tuple []) [(1000,.blk 77 [Sv s,Iv (A7:Int),Iv e7]),(1001,.blk 54 [Iv 6,Iv 0,Sv nm,Sv .empty,.lit (.slice none 0 0),.arr 500 0 u2.length,.lit (.slice none 0 0)]),(1002,.blk 75 [.ptr 1000 0]),(1003,.blk 3 [Iv dp]),(500,.arr 54 7 (u2.map Tm.row))]] ?_;refine Wg [] [.c [] [.ptr 1000 0,Sv (⟨#[41]⟩)] [(1000,.blk 77 [Sv s,Iv (A7:Int),Iv e7])] (.tuple []) [(1000,.blk 77 [Sv s,Iv (A8:Int),Iv e8])]] ?_;rw[f];dsimp only;apply X8.Hw [400]
    ·conv=>lhs;simp
    refine Wr ?_;refine Wt ?_;try dsimp only[Q8,Q5]
    apply Qz.ret
    ·rfl
    ·conv=>lhs;simp[Q7,Tryz.results32]
    ·first|rfl|simp[Zv,Y3,Tm.row,Tm.Q3,Cs.Q3,AV.Jk,K5,Q6]
    ·simp[Qq,Q4]
   refine Wr ?_ (r:=by conv=>lhs;simp[q4]);refine Wn ?_;by_cases q5:W2=⟨#[109,97,116,99,104]⟩
   ·have f9:=eq_true q5;refine Wr ?_ (r:=by conv=>lhs;simp[f9]);refine Wy ?_;rw[show decide (cn=35)=false from decide_eq_false q3]at a6;rw[JE]at f;rw[if_neg (by rw[a6];exact Bool.false_ne_true),if_neg q4,if_pos q5]at f;have a1:=I4 s A3 U C hs;have P:=U0 (s:=s) (p:=(A3,U)) C;rw[show Cq s A3=W2 from by rw[b9,JZ,b8]]at a1;generalize XE s (A3,U)=o4 at a1 P f;obtain⟨l,o⟩:=o4;have j:=P.sz;dsimp only at a1 j f;have I:=O8 s 7 0 .empty dp n [] l o a7 a8 (by simp) (hx l o j);have T:=Pw (g:=false) (s:=s) n (l,o) j;generalize Tm.ps false s n (l,o)=o5 at I T f;obtain⟨x,A5,e5⟩:=o5;have a3:=T.sz;dsimp only at I a3 f;obtain⟨J,a2⟩:∃u,u=([]:List Tm)++[x]:=⟨_,rfl⟩
    rw[<-a2]at I;have b1:J.length=1:=by rw[a2];rfl
    simp only[List.length_nil,List.map_nil]at I;rw[show[x]=J from by rw[a2];rfl]at f;have a4:=EN s 7 0 .empty n J dp A5 e5 a3 hs (λus a e b6 ha=>Qd3 s 7 0 .empty dp n J us a e a7 a8 b6 ha hs hx);simp only[List.length_nil,List.map_nil]at a4;generalize J2 s (ZK false s (Tm.ps false s n)) (s.size+2) (A5,e5)=y at a4 f;obtain⟨us,A6,e6⟩:=y;dsimp only at a4 f;refine Wg [] [.c [] [.ptr 1000 0] [(1000,.blk 77 [Sv s,Iv (A3:Int),Iv U])] (Sv W2) [(1000,.blk 77 [Sv s,Iv (l:Int),Iv o])]] ?_;refine Wr ?_;refine Wb ?_;refine X8.le (Le.low [400] [] (fr:=[(2,.ptr 2 0),(3,.ptr 3 0),(4,.ptr 4 0),(5,Sv W2),(8,.ptr 8 0),(9,.clo 52 [.ptr 8 0,.ptr 2 0,.ptr 3 0])]) (mem:=[(2,some (.blk 75 [.ptr 1000 0])),(3,some (.blk 3 [Iv dp])),(4,some (.blk 54 [Iv 0,Iv 0,Sv .empty,Sv .empty,.lit (.slice none 0 0),.lit (.slice none 0 0),.lit (.slice none 0 0)])),(8,some (.blk 54 [Iv 7,Iv 0,Sv .empty,Sv .empty,.lit (.slice none 0 0),.arr 400 0 0,.lit (.slice none 0 0)])),(400,some (.arr 54 7 ([]))),(1000,some (.blk 77 [Sv s,Iv (l:Int),Iv o]))]) rfl (by simp) (by simp)) ?_;refine Wg [] [.c [(1001,8),(1002,2),(1003,3),(500,400)] [.ptr 1001 0,.ptr 1002 0,.ptr 1003 0] [(1000,.blk 77 [Sv s,Iv (l:Int),Iv o]),(1001,.blk 54 [Iv 7,Iv 0,Sv .empty,Sv .empty,.lit (.slice none 0 0),.arr 500 0 0,.lit (.slice none 0 0)]),(1002,.blk 75 [.ptr 1000 0]),(1003,.blk 3 [Iv dp]),(500,.arr 54 7 ([]))] (.tuple []) [(1000,.blk 77 [Sv s,Iv (A5:Int),Iv e5]),(1001,.blk 54 [Iv 7,Iv 0,Sv .empty,Sv .empty,.lit (.slice none 0 0),.arr 500 0 J.length,.lit (.slice none 0 0)]),(1002,.blk 75 [.ptr 1000 0]),(1003,.blk 3 [Iv dp]),(500,.arr 54 7 (J.map Tm.row))]] ?_;refine Wb ?_
    refine X8.le (Le.low [401] [] (fr:=[(2,.ptr 2 0),(3,.ptr 3 0),(4,.ptr 4 0),(5,Sv W2),(8,.ptr 8 0),(9,.clo 52 [.ptr 8 0,.ptr 2 0,.ptr 3 0])]) (mem:=[(2,some (.blk 75 [.ptr 1000 0])),(3,some (.blk 3 [Iv dp])),(4,some (.blk 54 [Iv 0,Iv 0,Sv .empty,Sv .empty,.lit (.slice none 0 0),.lit (.slice none 0 0),.lit (.slice none 0 0)])),(8,some (.blk 54 [Iv 7,Iv 0,Sv .empty,Sv .empty,.lit (.slice none 0 0),.arr 400 0 J.length,.arr 401 0 0])),(400,some (.arr 54 7 (J.map Tm.row))),(401,some (.arr 87 9 ([]))),(1000,some (.blk 77 [Sv s,Iv (A5:Int),Iv e5]))]) rfl (by simp) (by simp)) ?_;refine Wg [] [.c [(1001,8),(1002,2),(1003,3),(500,400),(501,401)] [.ptr 1000 0,.clo 54 [.ptr 1002 0,.ptr 1003 0,.ptr 1001 0]] [(1000,.blk 77 [Sv s,Iv (A5:Int),Iv e5]),(1001,.blk 54 [Iv 7,Iv 0,Sv .empty,Sv .empty,.lit (.slice none 0 0),.arr 500 0 J.length,.arr 501 0 0]),(1002,.blk 75 [.ptr 1000 0]),(1003,.blk 3 [Iv dp]),(500,.arr 54 7 (J.map Tm.row)),(501,.arr 87 9 ([]))] (.tuple []) [(1000,.blk 77 [Sv s,Iv (A6:Int),Iv e6]),(1001,.blk 54 [Iv 7,Iv 0,Sv .empty,Sv .empty,.lit (.slice none 0 0),.arr 500 0 J.length,.arr 501 0 us.length]),(1002,.blk 75 [.ptr 1000 0]),(1003,.blk 3 [Iv dp]),(500,.arr 54 7 (J.map Tm.row)),(501,.arr 87 9 (us.map Cs.row))]] ?_;rw[f];dsimp only;apply X8.Hw [400,401]
    ·conv=>lhs;simp
    refine Wr ?_;refine Wt ?_;try dsimp only[Q8,Q5]
    apply Qz.ret
    ·rfl
    ·conv=>lhs;simp[Q7,Tryz.results32]
    ·first|rfl|simp[Zv,Y3,Tm.row,Tm.Q3,Cs.Q3,AV.Jk,K5,Q6]
    ·simp[Qq,Q4]
   refine Wr ?_ (r:=by conv=>lhs;simp[q5]);refine Wn ?_;by_cases q6:0<r
   ·refine Wr ?_ (r:=by conv=>lhs;simp[q6]);refine Wy ?_;rw[show decide (cn=35)=false from decide_eq_false q3]at a6;rw[JE]at f;rw[if_neg (by rw[a6];exact Bool.false_ne_true),if_neg q4,if_neg q5,hw,if_pos q6]at f;have a1:=I4 s A3 U C hs;have P:=U0 (s:=s) (p:=(A3,U)) C;rw[show Cq s A3=W2 from by rw[b9,JZ,b8]]at a1;generalize XE s (A3,U)=o4 at a1 P f;obtain⟨l,o⟩:=o4;have j:=P.sz;dsimp only at a1 j f;have I:=O8 s 5 r .empty dp n [] l o a7 a8 (by simp) (hx l o j);have T:=Pw (g:=false) (s:=s) n (l,o) j;generalize Tm.ps false s n (l,o)=o5 at I T f;obtain⟨x,A5,e5⟩:=o5;have a3:=T.sz;dsimp only at I a3 f;obtain⟨J,a2⟩:∃u,u=([]:List Tm)++[x]:=⟨_,rfl⟩
    rw[<-a2]at I;have b1:J.length=1:=by rw[a2];rfl
    simp only[List.length_nil,List.map_nil]at I;have a9:=O8 s 5 r .empty dp n J A5 e5 a7 a8 oM (hx A5 e5 a3);have a5:=Pw (g:=false) (s:=s) n (A5,e5) a3;generalize Tm.ps false s n (A5,e5)=o6 at a9 a5 f;obtain⟨y,A6,e6⟩:=o6;have b2:=a5.sz;dsimp only at a9 b2 f;obtain⟨u2,b0⟩:∃u,u=J++[y]:=⟨_,rfl⟩
    rw[<-b0]at a9;have c3:u2.length=2:=by rw[b0];rw[List.length_append,b1];rfl
    have b5:=W9 s XA A6 e6 b2 hs;generalize Kj s XA (A6,e6)=o9 at b5 f;obtain⟨A7,e7⟩:=o9;dsimp only at b5 f;rw[show[x,y]=u2 from by rw[b0,a2];rfl]at f;refine Wg [] [.c [] [.ptr 1000 0] [(1000,.blk 77 [Sv s,Iv (A3:Int),Iv U])] (Sv W2) [(1000,.blk 77 [Sv s,Iv (l:Int),Iv o])]] ?_;refine Wr ?_;refine Wb ?_;refine X8.le (Le.low [400] [] (fr:=[(2,.ptr 2 0),(3,.ptr 3 0),(4,.ptr 4 0),(5,Sv W2),(8,.ptr 8 0),(9,.clo 52 [.ptr 8 0,.ptr 2 0,.ptr 3 0])]) (mem:=[(2,some (.blk 75 [.ptr 1000 0])),(3,some (.blk 3 [Iv dp])),(4,some (.blk 54 [Iv 0,Iv 0,Sv .empty,Sv .empty,.lit (.slice none 0 0),.lit (.slice none 0 0),.lit (.slice none 0 0)])),(8,some (.blk 54 [Iv 5,Iv r,Sv .empty,Sv .empty,.lit (.slice none 0 0),.arr 400 0 0,.lit (.slice none 0 0)])),(400,some (.arr 54 7 ([]))),(1000,some (.blk 77 [Sv s,Iv (l:Int),Iv o]))]) rfl (by simp) (by simp)) ?_;refine Wg [] [.c [(1001,8),(1002,2),(1003,3),(500,400)] [.ptr 1001 0,.ptr 1002 0,.ptr 1003 0] [(1000,.blk 77 [Sv s,Iv (l:Int),Iv o]),(1001,.blk 54 [Iv 5,Iv r,Sv .empty,Sv .empty,.lit (.slice none 0 0),.arr 500 0 0,.lit (.slice none 0 0)]),(1002,.blk 75 [.ptr 1000 0]),(1003,.blk 3 [Iv dp]),(500,.arr 54 7 ([]))] (.tuple []) [(1000,.blk 77 [Sv s,Iv (A5:Int),Iv e5]),(1001,.blk 54 [Iv 5,Iv r,Sv .empty,Sv .empty,.lit (.slice none 0 0),.arr 500 0 J.length,.lit (.slice none 0 0)]),(1002,.blk 75 [.ptr 1000 0]),(1003,.blk 3 [Iv dp]),(500,.arr 54 7 (J.map Tm.row))]] ?_
    refine Wg [] [.c [(1001,8),(1002,2),(1003,3),(500,400)] [.ptr 1001 0,.ptr 1002 0,.ptr 1003 0] [(1000,.blk 77 [Sv s,Iv (A5:Int),Iv e5]),(1001,.blk 54 [Iv 5,Iv r,Sv .empty,Sv .empty,.lit (.slice none 0 0),.arr 500 0 J.length,.lit (.slice none 0 0)]),(1002,.blk 75 [.ptr 1000 0]),(1003,.blk 3 [Iv dp]),(500,.arr 54 7 (J.map Tm.row))] (.tuple []) [(1000,.blk 77 [Sv s,Iv (A6:Int),Iv e6]),(1001,.blk 54 [Iv 5,Iv r,Sv .empty,Sv .empty,.lit (.slice none 0 0),.arr 500 0 u2.length,.lit (.slice none 0 0)]),(1002,.blk 75 [.ptr 1000 0]),(1003,.blk 3 [Iv dp]),(500,.arr 54 7 (u2.map Tm.row))]] ?_;refine Wg [] [.c [] [.ptr 1000 0,Sv (⟨#[41]⟩)] [(1000,.blk 77 [Sv s,Iv (A6:Int),Iv e6])] (.tuple []) [(1000,.blk 77 [Sv s,Iv (A7:Int),Iv e7])]] ?_;rw[f];dsimp only;apply X8.Hw [400]
    ·conv=>lhs;simp
    refine Wr ?_;refine Wt ?_;try dsimp only[Q8,Q5]
    apply Qz.ret
    ·rfl
    ·conv=>lhs;simp[Q7,Tryz.results32]
    ·first|rfl|simp[Zv,Y3,Tm.row,Tm.Q3,Cs.Q3,AV.Jk,K5,Q6]
    ·simp[Qq,Q4]
   refine Wr ?_ (r:=by conv=>lhs;simp[q6]);refine Wn ?_;rw[show decide (cn=35)=false from decide_eq_false q3]at a6;rw[JE]at f;rw[if_neg (by rw[a6];exact Bool.false_ne_true),if_neg q4,if_neg q5,hw,if_neg q6]at f;have b4:=ZF s A3 U C hs;have b3:=G8 (s:=s) (p:=(A3,U)) C;generalize U2 s (A3,U)=o4 at b4 b3 f;obtain⟨nm,l,o⟩:=o4;have j:=b3.sz;dsimp only at b4 j f;have a4:=DZ s 4 0 nm n dp l o j hs (λus a e b6 ha=>O8 s 4 0 nm dp n us a e a7 a8 b6 (hx a e ha));simp only[List.length_nil,List.map_nil]at a4;generalize J2 s (Tm.ps false s n) (s.size+2) (l,o)=y at a4 f;obtain⟨us,A5,e5⟩:=y;dsimp only at a4 f;refine Wg [] [.c [] [.ptr 1000 0] [(1000,.blk 77 [Sv s,Iv (A3:Int),Iv U])] (Sv nm) [(1000,.blk 77 [Sv s,Iv (l:Int),Iv o])]] ?_;refine Wb ?_;refine X8.le (Le.low [400] [] (fr:=[(2,.ptr 2 0),(3,.ptr 3 0),(4,.ptr 4 0),(5,Sv W2),(8,.ptr 8 0),(9,.clo 52 [.ptr 8 0,.ptr 2 0,.ptr 3 0])]) (mem:=[(2,some (.blk 75 [.ptr 1000 0])),(3,some (.blk 3 [Iv dp])),(4,some (.blk 54 [Iv 0,Iv 0,Sv .empty,Sv .empty,.lit (.slice none 0 0),.lit (.slice none 0 0),.lit (.slice none 0 0)])),(8,some (.blk 54 [Iv 4,Iv 0,Sv nm,Sv .empty,.lit (.slice none 0 0),.arr 400 0 0,.lit (.slice none 0 0)])),(400,some (.arr 54 7 ([]))),(1000,some (.blk 77 [Sv s,Iv (l:Int),Iv o]))]) rfl (by simp) (by simp)) ?_
   refine Wg [] [.c [(1001,8),(1002,2),(1003,3),(500,400)] [.ptr 1000 0,.clo 52 [.ptr 1001 0,.ptr 1002 0,.ptr 1003 0]] [(1000,.blk 77 [Sv s,Iv (l:Int),Iv o]),(1001,.blk 54 [Iv 4,Iv 0,Sv nm,Sv .empty,.lit (.slice none 0 0),.arr 500 0 0,.lit (.slice none 0 0)]),(1002,.blk 75 [.ptr 1000 0]),(1003,.blk 3 [Iv dp]),(500,.arr 54 7 ([]))] (.tuple []) [(1000,.blk 77 [Sv s,Iv (A5:Int),Iv e5]),(1001,.blk 54 [Iv 4,Iv 0,Sv nm,Sv .empty,.lit (.slice none 0 0),.arr 500 0 us.length,.lit (.slice none 0 0)]),(1002,.blk 75 [.ptr 1000 0]),(1003,.blk 3 [Iv dp]),(500,.arr 54 7 (us.map Tm.row))]] ?_;rw[f];dsimp only;apply X8.Hw [400]
   ·conv=>lhs;simp
   refine Wr ?_;refine Wt ?_;try dsimp only[Q8,Q5]
   apply Qz.ret
   ·rfl
   ·conv=>lhs;simp[Q7,Tryz.results32]
   ·first|rfl|simp[Zv,Y3,Tm.row,Tm.Q3,Cs.Q3,AV.Jk,K5,Q6]
   ·simp[Qq,Q4]
  have a6:sharp W2=false:=LF oM;refine Wr ?_ (r:=by conv=>lhs;simp[hM,hl]);refine Wn ?_;by_cases q7:W2=⟨#[108,101,116]⟩
  ·have g0:=eq_true q7;refine Wr ?_ (r:=by conv=>lhs;simp[g0]);refine Wy ?_;rw[JE]at f;rw[if_neg (by rw[a6];exact Bool.false_ne_true),if_pos q7]at f;have a1:=I4 s A3 U C hs;have P:=U0 (s:=s) (p:=(A3,U)) C;rw[show Cq s A3=W2 from by rw[b9,JZ,b8]]at a1;generalize XE s (A3,U)=o4 at a1 P f;obtain⟨l,o⟩:=o4;have j:=P.sz;dsimp only at a1 j f;have b4:=ZF s l o j hs;have b3:=G8 (s:=s) (p:=(l,o)) j;generalize U2 s (l,o)=o5 at b4 b3 f;obtain⟨nm,A5,e5⟩:=o5;have a3:=b3.sz;dsimp only at b4 a3 f;have I:=O8 s 6 0 nm dp n [] A5 e5 a7 a8 (by simp) (hx A5 e5 a3);have T:=Pw (g:=false) (s:=s) n (A5,e5) a3;generalize Tm.ps false s n (A5,e5)=o6 at I T f;obtain⟨x,A6,e6⟩:=o6;have b2:=T.sz;dsimp only at I b2 f;obtain⟨J,a2⟩:∃u,u=([]:List Tm)++[x]:=⟨_,rfl⟩
   rw[<-a2]at I;have b1:J.length=1:=by rw[a2];rfl
   simp only[List.length_nil,List.map_nil]at I;have a9:=O8 s 6 0 nm dp n J A6 e6 a7 a8 oM (hx A6 e6 b2);have a5:=Pw (g:=false) (s:=s) n (A6,e6) b2;generalize Tm.ps false s n (A6,e6)=o7 at a9 a5 f;obtain⟨y,A7,e7⟩:=o7;have c2:=a5.sz;dsimp only at a9 c2 f;obtain⟨u2,b0⟩:∃u,u=J++[y]:=⟨_,rfl⟩
   rw[<-b0]at a9;have c3:u2.length=2:=by rw[b0];rw[List.length_append,b1];rfl
   have b5:=W9 s XA A7 e7 c2 hs;generalize Kj s XA (A7,e7)=o9 at b5 f;obtain⟨A8,e8⟩:=o9;dsimp only at b5 f;rw[show[x,y]=u2 from by rw[b0,a2];rfl]at f;refine Wg [] [.c [] [.ptr 1000 0] [(1000,.blk 77 [Sv s,Iv (A3:Int),Iv U])] (Sv W2) [(1000,.blk 77 [Sv s,Iv (l:Int),Iv o])]] ?_;refine Wg [] [.c [] [.ptr 1000 0] [(1000,.blk 77 [Sv s,Iv (l:Int),Iv o])] (Sv nm) [(1000,.blk 77 [Sv s,Iv (A5:Int),Iv e5])]] ?_;refine Wb ?_;refine X8.le (Le.low [400] [] (fr:=[(2,.ptr 2 0),(3,.ptr 3 0),(4,.ptr 4 0),(5,Sv W2),(8,.ptr 8 0),(9,.clo 52 [.ptr 8 0,.ptr 2 0,.ptr 3 0])]) (mem:=[(2,some (.blk 75 [.ptr 1000 0])),(3,some (.blk 3 [Iv dp])),(4,some (.blk 54 [Iv 0,Iv 0,Sv .empty,Sv .empty,.lit (.slice none 0 0),.lit (.slice none 0 0),.lit (.slice none 0 0)])),(8,some (.blk 54 [Iv 6,Iv 0,Sv nm,Sv .empty,.lit (.slice none 0 0),.arr 400 0 0,.lit (.slice none 0 0)])),(400,some (.arr 54 7 ([]))),(1000,some (.blk 77 [Sv s,Iv (A5:Int),Iv e5]))]) rfl (by simp) (by simp)) ?_;refine Wg [] [.c [(1001,8),(1002,2),(1003,3),(500,400)] [.ptr 1001 0,.ptr 1002 0,.ptr 1003 0] [(1000,.blk 77 [Sv s,Iv (A5:Int),Iv e5]),(1001,.blk 54 [Iv 6,Iv 0,Sv nm,Sv .empty,.lit (.slice none 0 0),.arr 500 0 0,.lit (.slice none 0 0)]),(1002,.blk 75 [.ptr 1000 0]),(1003,.blk 3 [Iv dp]),(500,.arr 54 7 ([]))] (.tuple []) [(1000,.blk 77 [Sv s,Iv (A6:Int),Iv e6]),(1001,.blk 54 [Iv 6,Iv 0,Sv nm,Sv .empty,.lit (.slice none 0 0),.arr 500 0 J.length,.lit (.slice none 0 0)]),(1002,.blk 75 [.ptr 1000 0]),(1003,.blk 3 [Iv dp]),(500,.arr 54 7 (J.map Tm.row))]] ?_
   refine Wg [] [.c [(1001,8),(1002,2),(1003,3),(500,400)] [.ptr 1001 0,.ptr 1002 0,.ptr 1003 0] [(1000,.blk 77 [Sv s,Iv (A6:Int),Iv e6]),(1001,.blk 54 [Iv 6,Iv 0,Sv nm,Sv .empty,.lit (.slice none 0 0),.arr 500 0 J.length,.lit (.slice none 0 0)]),(1002,.blk 75 [.ptr 1000 0]),(1003,.blk 3 [Iv dp]),(500,.arr 54 7 (J.map Tm.row))] (.tuple []) [(1000,.blk 77 [Sv s,Iv (A7:Int),Iv e7]),(1001,.blk 54 [Iv 6,Iv 0,Sv nm,Sv .empty,.lit (.slice none 0 0),.arr 500 0 u2.length,.lit (.slice none 0 0)]),(1002,.blk 75 [.ptr 1000 0]),(1003,.blk 3 [Iv dp]),(500,.arr 54 7 (u2.map Tm.row))]] ?_;refine Wg [] [.c [] [.ptr 1000 0,Sv (⟨#[41]⟩)] [(1000,.blk 77 [Sv s,Iv (A7:Int),Iv e7])] (.tuple []) [(1000,.blk 77 [Sv s,Iv (A8:Int),Iv e8])]] ?_;rw[f];dsimp only;apply X8.Hw [400]
   ·conv=>lhs;simp
   refine Wr ?_;refine Wt ?_;try dsimp only[Q8,Q5]
   apply Qz.ret
   ·rfl
   ·conv=>lhs;simp[Q7,Tryz.results32]
   ·first|rfl|simp[Zv,Y3,Tm.row,Tm.Q3,Cs.Q3,AV.Jk,K5,Q6]
   ·simp[Qq,Q4]
  refine Wr ?_ (r:=by conv=>lhs;simp[q7]);refine Wn ?_;by_cases q8:W2=⟨#[109,97,116,99,104]⟩
  ·have g1:=eq_true q8;refine Wr ?_ (r:=by conv=>lhs;simp[g1]);refine Wy ?_;rw[JE]at f;rw[if_neg (by rw[a6];exact Bool.false_ne_true),if_neg q7,if_pos q8]at f;have a1:=I4 s A3 U C hs;have P:=U0 (s:=s) (p:=(A3,U)) C;rw[show Cq s A3=W2 from by rw[b9,JZ,b8]]at a1;generalize XE s (A3,U)=o4 at a1 P f;obtain⟨l,o⟩:=o4;have j:=P.sz;dsimp only at a1 j f;have I:=O8 s 7 0 .empty dp n [] l o a7 a8 (by simp) (hx l o j);have T:=Pw (g:=false) (s:=s) n (l,o) j;generalize Tm.ps false s n (l,o)=o5 at I T f;obtain⟨x,A5,e5⟩:=o5;have a3:=T.sz;dsimp only at I a3 f;obtain⟨J,a2⟩:∃u,u=([]:List Tm)++[x]:=⟨_,rfl⟩
   rw[<-a2]at I;have b1:J.length=1:=by rw[a2];rfl
   simp only[List.length_nil,List.map_nil]at I;rw[show[x]=J from by rw[a2];rfl]at f;have a4:=EN s 7 0 .empty n J dp A5 e5 a3 hs (λus a e b6 ha=>Qd3 s 7 0 .empty dp n J us a e a7 a8 b6 ha hs hx);simp only[List.length_nil,List.map_nil]at a4;generalize J2 s (ZK false s (Tm.ps false s n)) (s.size+2) (A5,e5)=y at a4 f;obtain⟨us,A6,e6⟩:=y;dsimp only at a4 f;refine Wg [] [.c [] [.ptr 1000 0] [(1000,.blk 77 [Sv s,Iv (A3:Int),Iv U])] (Sv W2) [(1000,.blk 77 [Sv s,Iv (l:Int),Iv o])]] ?_;refine Wr ?_;refine Wb ?_;refine X8.le (Le.low [400] [] (fr:=[(2,.ptr 2 0),(3,.ptr 3 0),(4,.ptr 4 0),(5,Sv W2),(8,.ptr 8 0),(9,.clo 52 [.ptr 8 0,.ptr 2 0,.ptr 3 0])]) (mem:=[(2,some (.blk 75 [.ptr 1000 0])),(3,some (.blk 3 [Iv dp])),(4,some (.blk 54 [Iv 0,Iv 0,Sv .empty,Sv .empty,.lit (.slice none 0 0),.lit (.slice none 0 0),.lit (.slice none 0 0)])),(8,some (.blk 54 [Iv 7,Iv 0,Sv .empty,Sv .empty,.lit (.slice none 0 0),.arr 400 0 0,.lit (.slice none 0 0)])),(400,some (.arr 54 7 ([]))),(1000,some (.blk 77 [Sv s,Iv (l:Int),Iv o]))]) rfl (by simp) (by simp)) ?_;refine Wg [] [.c [(1001,8),(1002,2),(1003,3),(500,400)] [.ptr 1001 0,.ptr 1002 0,.ptr 1003 0] [(1000,.blk 77 [Sv s,Iv (l:Int),Iv o]),(1001,.blk 54 [Iv 7,Iv 0,Sv .empty,Sv .empty,.lit (.slice none 0 0),.arr 500 0 0,.lit (.slice none 0 0)]),(1002,.blk 75 [.ptr 1000 0]),(1003,.blk 3 [Iv dp]),(500,.arr 54 7 ([]))] (.tuple []) [(1000,.blk 77 [Sv s,Iv (A5:Int),Iv e5]),(1001,.blk 54 [Iv 7,Iv 0,Sv .empty,Sv .empty,.lit (.slice none 0 0),.arr 500 0 J.length,.lit (.slice none 0 0)]),(1002,.blk 75 [.ptr 1000 0]),(1003,.blk 3 [Iv dp]),(500,.arr 54 7 (J.map Tm.row))]] ?_;refine Wb ?_
   refine X8.le (Le.low [401] [] (fr:=[(2,.ptr 2 0),(3,.ptr 3 0),(4,.ptr 4 0),(5,Sv W2),(8,.ptr 8 0),(9,.clo 52 [.ptr 8 0,.ptr 2 0,.ptr 3 0])]) (mem:=[(2,some (.blk 75 [.ptr 1000 0])),(3,some (.blk 3 [Iv dp])),(4,some (.blk 54 [Iv 0,Iv 0,Sv .empty,Sv .empty,.lit (.slice none 0 0),.lit (.slice none 0 0),.lit (.slice none 0 0)])),(8,some (.blk 54 [Iv 7,Iv 0,Sv .empty,Sv .empty,.lit (.slice none 0 0),.arr 400 0 J.length,.arr 401 0 0])),(400,some (.arr 54 7 (J.map Tm.row))),(401,some (.arr 87 9 ([]))),(1000,some (.blk 77 [Sv s,Iv (A5:Int),Iv e5]))]) rfl (by simp) (by simp)) ?_;refine Wg [] [.c [(1001,8),(1002,2),(1003,3),(500,400),(501,401)] [.ptr 1000 0,.clo 54 [.ptr 1002 0,.ptr 1003 0,.ptr 1001 0]] [(1000,.blk 77 [Sv s,Iv (A5:Int),Iv e5]),(1001,.blk 54 [Iv 7,Iv 0,Sv .empty,Sv .empty,.lit (.slice none 0 0),.arr 500 0 J.length,.arr 501 0 0]),(1002,.blk 75 [.ptr 1000 0]),(1003,.blk 3 [Iv dp]),(500,.arr 54 7 (J.map Tm.row)),(501,.arr 87 9 ([]))] (.tuple []) [(1000,.blk 77 [Sv s,Iv (A6:Int),Iv e6]),(1001,.blk 54 [Iv 7,Iv 0,Sv .empty,Sv .empty,.lit (.slice none 0 0),.arr 500 0 J.length,.arr 501 0 us.length]),(1002,.blk 75 [.ptr 1000 0]),(1003,.blk 3 [Iv dp]),(500,.arr 54 7 (J.map Tm.row)),(501,.arr 87 9 (us.map Cs.row))]] ?_;rw[f];dsimp only;apply X8.Hw [400,401]
   ·conv=>lhs;simp
   refine Wr ?_;refine Wt ?_;try dsimp only[Q8,Q5]
   apply Qz.ret
   ·rfl
   ·conv=>lhs;simp[Q7,Tryz.results32]
   ·first|rfl|simp[Zv,Y3,Tm.row,Tm.Q3,Cs.Q3,AV.Jk,K5,Q6]
   ·simp[Qq,Q4]
  refine Wr ?_ (r:=by conv=>lhs;simp[q8]);refine Wn ?_;by_cases q9:0<r
  ·refine Wr ?_ (r:=by conv=>lhs;simp[q9]);refine Wy ?_;rw[JE]at f;rw[if_neg (by rw[a6];exact Bool.false_ne_true),if_neg q7,if_neg q8,hw,if_pos q9]at f;have a1:=I4 s A3 U C hs;have P:=U0 (s:=s) (p:=(A3,U)) C;rw[show Cq s A3=W2 from by rw[b9,JZ,b8]]at a1;generalize XE s (A3,U)=o4 at a1 P f;obtain⟨l,o⟩:=o4;have j:=P.sz;dsimp only at a1 j f;have I:=O8 s 5 r .empty dp n [] l o a7 a8 (by simp) (hx l o j);have T:=Pw (g:=false) (s:=s) n (l,o) j;generalize Tm.ps false s n (l,o)=o5 at I T f;obtain⟨x,A5,e5⟩:=o5;have a3:=T.sz;dsimp only at I a3 f;obtain⟨J,a2⟩:∃u,u=([]:List Tm)++[x]:=⟨_,rfl⟩
   rw[<-a2]at I;have b1:J.length=1:=by rw[a2];rfl
   simp only[List.length_nil,List.map_nil]at I;have a9:=O8 s 5 r .empty dp n J A5 e5 a7 a8 oM (hx A5 e5 a3);have a5:=Pw (g:=false) (s:=s) n (A5,e5) a3;generalize Tm.ps false s n (A5,e5)=o6 at a9 a5 f;obtain⟨y,A6,e6⟩:=o6;have b2:=a5.sz;dsimp only at a9 b2 f;obtain⟨u2,b0⟩:∃u,u=J++[y]:=⟨_,rfl⟩
   rw[<-b0]at a9;have c3:u2.length=2:=by rw[b0];rw[List.length_append,b1];rfl
   have b5:=W9 s XA A6 e6 b2 hs;generalize Kj s XA (A6,e6)=o9 at b5 f;obtain⟨A7,e7⟩:=o9;dsimp only at b5 f;rw[show[x,y]=u2 from by rw[b0,a2];rfl]at f;refine Wg [] [.c [] [.ptr 1000 0] [(1000,.blk 77 [Sv s,Iv (A3:Int),Iv U])] (Sv W2) [(1000,.blk 77 [Sv s,Iv (l:Int),Iv o])]] ?_;refine Wr ?_;refine Wb ?_;refine X8.le (Le.low [400] [] (fr:=[(2,.ptr 2 0),(3,.ptr 3 0),(4,.ptr 4 0),(5,Sv W2),(8,.ptr 8 0),(9,.clo 52 [.ptr 8 0,.ptr 2 0,.ptr 3 0])]) (mem:=[(2,some (.blk 75 [.ptr 1000 0])),(3,some (.blk 3 [Iv dp])),(4,some (.blk 54 [Iv 0,Iv 0,Sv .empty,Sv .empty,.lit (.slice none 0 0),.lit (.slice none 0 0),.lit (.slice none 0 0)])),(8,some (.blk 54 [Iv 5,Iv r,Sv .empty,Sv .empty,.lit (.slice none 0 0),.arr 400 0 0,.lit (.slice none 0 0)])),(400,some (.arr 54 7 ([]))),(1000,some (.blk 77 [Sv s,Iv (l:Int),Iv o]))]) rfl (by simp) (by simp)) ?_;refine Wg [] [.c [(1001,8),(1002,2),(1003,3),(500,400)] [.ptr 1001 0,.ptr 1002 0,.ptr 1003 0] [(1000,.blk 77 [Sv s,Iv (l:Int),Iv o]),(1001,.blk 54 [Iv 5,Iv r,Sv .empty,Sv .empty,.lit (.slice none 0 0),.arr 500 0 0,.lit (.slice none 0 0)]),(1002,.blk 75 [.ptr 1000 0]),(1003,.blk 3 [Iv dp]),(500,.arr 54 7 ([]))] (.tuple []) [(1000,.blk 77 [Sv s,Iv (A5:Int),Iv e5]),(1001,.blk 54 [Iv 5,Iv r,Sv .empty,Sv .empty,.lit (.slice none 0 0),.arr 500 0 J.length,.lit (.slice none 0 0)]),(1002,.blk 75 [.ptr 1000 0]),(1003,.blk 3 [Iv dp]),(500,.arr 54 7 (J.map Tm.row))]] ?_
   refine Wg [] [.c [(1001,8),(1002,2),(1003,3),(500,400)] [.ptr 1001 0,.ptr 1002 0,.ptr 1003 0] [(1000,.blk 77 [Sv s,Iv (A5:Int),Iv e5]),(1001,.blk 54 [Iv 5,Iv r,Sv .empty,Sv .empty,.lit (.slice none 0 0),.arr 500 0 J.length,.lit (.slice none 0 0)]),(1002,.blk 75 [.ptr 1000 0]),(1003,.blk 3 [Iv dp]),(500,.arr 54 7 (J.map Tm.row))] (.tuple []) [(1000,.blk 77 [Sv s,Iv (A6:Int),Iv e6]),(1001,.blk 54 [Iv 5,Iv r,Sv .empty,Sv .empty,.lit (.slice none 0 0),.arr 500 0 u2.length,.lit (.slice none 0 0)]),(1002,.blk 75 [.ptr 1000 0]),(1003,.blk 3 [Iv dp]),(500,.arr 54 7 (u2.map Tm.row))]] ?_;refine Wg [] [.c [] [.ptr 1000 0,Sv (⟨#[41]⟩)] [(1000,.blk 77 [Sv s,Iv (A6:Int),Iv e6])] (.tuple []) [(1000,.blk 77 [Sv s,Iv (A7:Int),Iv e7])]] ?_;rw[f];dsimp only;apply X8.Hw [400]
   ·conv=>lhs;simp
   refine Wr ?_;refine Wt ?_;try dsimp only[Q8,Q5]
   apply Qz.ret
   ·rfl
   ·conv=>lhs;simp[Q7,Tryz.results32]
   ·first|rfl|simp[Zv,Y3,Tm.row,Tm.Q3,Cs.Q3,AV.Jk,K5,Q6]
   ·simp[Qq,Q4]
  refine Wr ?_ (r:=by conv=>lhs;simp[q9]);refine Wn ?_;rw[JE]at f;rw[if_neg (by rw[a6];exact Bool.false_ne_true),if_neg q7,if_neg q8,hw,if_neg q9]at f;have b4:=ZF s A3 U C hs;have b3:=G8 (s:=s) (p:=(A3,U)) C;generalize U2 s (A3,U)=o4 at b4 b3 f;obtain⟨nm,l,o⟩:=o4;have j:=b3.sz;dsimp only at b4 j f;have a4:=DZ s 4 0 nm n dp l o j hs (λus a e b6 ha=>O8 s 4 0 nm dp n us a e a7 a8 b6 (hx a e ha));simp only[List.length_nil,List.map_nil]at a4;generalize J2 s (Tm.ps false s n) (s.size+2) (l,o)=y at a4 f;obtain⟨us,A5,e5⟩:=y;dsimp only at a4 f;refine Wg [] [.c [] [.ptr 1000 0] [(1000,.blk 77 [Sv s,Iv (A3:Int),Iv U])] (Sv nm) [(1000,.blk 77 [Sv s,Iv (l:Int),Iv o])]] ?_;refine Wb ?_;refine X8.le (Le.low [400] [] (fr:=[(2,.ptr 2 0),(3,.ptr 3 0),(4,.ptr 4 0),(5,Sv W2),(8,.ptr 8 0),(9,.clo 52 [.ptr 8 0,.ptr 2 0,.ptr 3 0])]) (mem:=[(2,some (.blk 75 [.ptr 1000 0])),(3,some (.blk 3 [Iv dp])),(4,some (.blk 54 [Iv 0,Iv 0,Sv .empty,Sv .empty,.lit (.slice none 0 0),.lit (.slice none 0 0),.lit (.slice none 0 0)])),(8,some (.blk 54 [Iv 4,Iv 0,Sv nm,Sv .empty,.lit (.slice none 0 0),.arr 400 0 0,.lit (.slice none 0 0)])),(400,some (.arr 54 7 ([]))),(1000,some (.blk 77 [Sv s,Iv (l:Int),Iv o]))]) rfl (by simp) (by simp)) ?_;refine Wg [] [.c [(1001,8),(1002,2),(1003,3),(500,400)] [.ptr 1000 0,.clo 52 [.ptr 1001 0,.ptr 1002 0,.ptr 1003 0]] [(1000,.blk 77 [Sv s,Iv (l:Int),Iv o]),(1001,.blk 54 [Iv 4,Iv 0,Sv nm,Sv .empty,.lit (.slice none 0 0),.arr 500 0 0,.lit (.slice none 0 0)]),(1002,.blk 75 [.ptr 1000 0]),(1003,.blk 3 [Iv dp]),(500,.arr 54 7 ([]))] (.tuple []) [(1000,.blk 77 [Sv s,Iv (A5:Int),Iv e5]),(1001,.blk 54 [Iv 4,Iv 0,Sv nm,Sv .empty,.lit (.slice none 0 0),.arr 500 0 us.length,.lit (.slice none 0 0)]),(1002,.blk 75 [.ptr 1000 0]),(1003,.blk 3 [Iv dp]),(500,.arr 54 7 (us.map Tm.row))]] ?_;rw[f];dsimp only;apply X8.Hw [400]
  ·conv=>lhs;simp
  refine Wr ?_;refine Wt ?_;try dsimp only[Q8,Q5]
  apply Qz.ret
  ·rfl
  ·conv=>lhs;simp[Q7,Tryz.results32]
  ·first|rfl|simp[Zv,Y3,Tm.row,Tm.Q3,Cs.Q3,AV.Jk,K5,Q6]
  ·simp[Qq,Q4]
 refine Wr ?_ (r:=by conv=>lhs;simp[q1]);refine Wy ?_;rw[if_neg q1]at f;unfold Zq8 at f;dsimp only at f;have b7:=I4 s A e c5 hs;rw[c4]at f b7;generalize XE s (A,e)=p2 at b7 f;obtain⟨A2,U⟩:=p2;dsimp only at b7 f;refine Wg [] [.c [] [.ptr 1000 0] [(1000,.blk 77 [Sv s,Iv (A:Int),Iv e])] (Sv W) [(1000,.blk 77 [Sv s,Iv (A2:Int),Iv U])]] ?_;have g2:=Ni W oM;generalize Kl W=nq at *;obtain⟨nn,q⟩:=nq;dsimp only at g2 f;refine Wg [] [.p (λ_=>.tuple [Iv nn,Bv q]) none] ?_;cases q with
 |true=>
  refine Wr ?_;refine Wy ?_;rw[if_pos rfl]at f;rw[f];dsimp only;refine Wr ?_;refine Wt ?_;try dsimp only[Q8,Q5]
  apply Qz.ret
  ·rfl
  ·conv=>lhs;simp[Q7,Tryz.results32]
  ·first|rfl|simp[Zv,Y3,Tm.row,Tm.Q3,Cs.Q3,AV.Jk,K5,Q6]
  ·simp[Qq,Q4]
 |false=>
  refine Wr ?_;refine Wn ?_;refine Ws ?_;rw[if_neg Bool.false_ne_true]at f;have b3:=VQ W oM;generalize F9 W=q2 at *;cases q2 with
  |true=>
   refine Wg [] [.p (λ_=>Bv true) none] ?_;refine Wn ?_;refine Ws ?_;rw[if_pos rfl]at f;rw[f];dsimp only;refine Wr ?_;refine Wt ?_;try dsimp only[Q8,Q5]
   apply Qz.ret
   ·rfl
   ·conv=>lhs;simp[Q7,Tryz.results32]
   ·first|rfl|simp[Zv,Y3,Tm.row,Tm.Q3,Cs.Q3,AV.Jk,K5,Q6]
   ·simp[Qq,Q4]
  |false=>
   refine Wg [] [.p (λ_=>Bv false) none] ?_;refine Wy ?_;have g3:=Yu s A2 U 7;refine Wg [] [.c [] [.ptr 1000 0,Iv 7] [(1000,.blk 77 [Sv s,Iv (A2:Int),Iv U])] (.tuple []) [(1000,.blk 77 [Sv s,Iv (A2:Int),Iv (ZM U 7)])]] ?_;rw[if_neg Bool.false_ne_true]at f;rw[f];dsimp only;refine Wr ?_;refine Wt ?_;try dsimp only[Q8,Q5]
   apply Qz.ret
   ·rfl
   ·conv=>lhs;simp[Q7,Tryz.results32]
   ·first|rfl|simp[Zv,Y3,Tm.row,Tm.Q3,Cs.Q3,AV.Jk,K5,Q6]
   ·simp[Qq,Q4]
theorem Zg9(s:ByteArray)(g:s.size<=1500):∀n:Nat,n<=25->Xq7 s n:=by
 intro n;induction n with
 |zero=>intro _;exact Zq1 s
 |succ n i=>
  intro h a e f;refine Zq0 s n _ a e f g (by push_cast;omega) (by push_cast;omega) λa e f=>?_
  have:=i oM a e f;rw[show 25-((n+1:Nat):Int)+1=25-(n:Int)from by push_cast;omega];exact this
end Go.Proofs.YtnddiddkmhiclaaGreatDoor
