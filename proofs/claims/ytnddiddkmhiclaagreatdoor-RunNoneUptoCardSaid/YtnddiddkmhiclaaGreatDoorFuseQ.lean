import Derived.Test.YtnddiddkmhiclaaGreatDoorParseE
set_option maxRecDepth 20000
set_option maxHeartbeats 16000000
set_option linter.unusedVariables false
set_option linter.unusedSimpArgs false
namespace Go.Proofs.YtnddiddkmhiclaaGreatDoor
section
open Go.RowKit
attribute [local simp] Jb WL WQ WA VO QA Zo Pv Uw Wv Vk Vj Y4 V8 Xo V5 Gj O1 Value.oneCell' X4 Q4 Z6 Yn Nv Z5 AS.after Zz Uj K7 AV.ids ZB Q9.ids UC Qy E5 Nw Lx Kk V9 Gz D8 D6 U4 KI ZQ setAt Fz Je O4 XT L8 XU WY AV.cells Yv K9 L6 M6 AV.kill Q9.kill AV.has AV.Uv Op.operands Call.operands Qf QB X3 Km Zw Jv ZV NE Qt Mj Vv AV.ren ZU Q9.ren Q9.like kept X7 Zr AV.F7 ZC Jp JD Qo Hw AS.F7 Xf T9 Q9.F7 Sz FV Nat.ble_eq Ez E9 U6 D.U7 Xa Ij Rw H6 Ki XM O5 Bw Fx R8 Low ZX
theorem Qq9(s:ByteArray):Qv Tryz.prog 11 [Sv s] (λ_=>.tuple [F4 (WI false s).1,Iv ((WI false s).2)]) none:=by
 obtain⟨R,j⟩:∃R,R=WI false s:=⟨_,rfl⟩
 rw[<-j];unfold WI at j;obtain⟨F,hF⟩:∃F,F=PW false s (s.size+2) (0,0):=⟨_,rfl⟩
 rw[<-hF]at j;obtain⟨N,hN⟩:∃N:Int,(s.size:Int)=N:=⟨_,rfl⟩
 try unfold pO at *
 refine Qv.of Tryz.func11 rfl rfl rfl (Nat.le_of_ble_eq_true rfl) ?_;show X8 _ _ (Z7 _ Tryz.f11 _ _ _) (Z6 54 _);refine Wr ?_;by_cases q1:1500<N
 ·refine Wr ?_ (r:=by conv=>lhs;simp[hN,q1]);refine Wy ?_;rw[if_pos oM]at j;subst j;refine Wr ?_;refine Wt ?_;try dsimp only[Q8,Q5]
  apply Z7.ret
  ·rfl
  ·conv=>lhs;simp[Q7,Tryz.results11]
  first|rfl|simp[Zv,AV.Jk]
 refine Wr ?_ (r:=by conv=>lhs;simp[hN,q1]);refine Wn ?_;refine Ws ?_;rw[if_neg oM]at j;have C:s.size<=1500:=oM;refine Wr ?_;refine Wr ?_;refine Wb ?_;refine X8.le (Le.low [400] [] (fr:=[(4,.ptr 4 0),(5,.arr 400 0 ([]:List Fn).length)]) (mem:=[(4,some (.blk 75 [.ptr 12 0])),(12,some (.blk 77 [Sv s,Iv ((0:Nat):Int),Iv (0:Int)])),(400,some (.arr 56 9 (([]:List Fn).map Fn.row)))]) rfl (by simp) (by simp)) ?_;refine Wl (σ:=λu:{u:List Fn×Nat×Int×Nat // (F=(u.1++(PW false s u.2.2.2 (u.2.1,u.2.2.1)).1,(PW false s u.2.2.2 (u.2.1,u.2.2.1)).2)/\u.2.1<=s.size/\u.1.length+u.2.2.2=s.size+2/\0<u.2.2.2/\(u.2.2.1≠0\/s.size-u.2.1+1<u.2.2.2))}=>⟨54,[(4,.ptr 4 0),(5,.arr 400 0 u.1.1.length)],[(4,some (.blk 75 [.ptr 12 0])),(12,some (.blk 77 [Sv s,Iv (u.1.2.1:Int),Iv u.1.2.2.1])),(400,some (.arr 56 9 (u.1.1.map Fn.row)))]⟩)
  (μ:=λu=>u.1.2.2.2) ⟨([],0,0,s.size+2),⟨by rw[hF];simp,Nat.zero_le _,by simp,by dsimp only;omega,.inr (by dsimp only;omega)⟩⟩ (Le.sub (by simp) (by simp)) (λ⟨(fs,c,o,m),hw⟩=>?_)
 dsimp only at hw⊢;obtain⟨f,P,c6,c7,b4⟩:=hw;obtain⟨m,rfl⟩:∃k,m=k+1:=⟨m-1,oM⟩
 have b5:=Xg s c o P C;rw[PW]at f;obtain⟨W,hW⟩:∃W,W=Cq s c:=⟨_,rfl⟩
 obtain⟨A,hA⟩:∃A,A=Bj s c:=⟨_,rfl⟩
 have c8:c<=A:=by rw[hA];exact(R7 P).1
 have T:A<=s.size:=by rw[hA];exact(R7 P).2
 rw[<-hA]at b5;rw[<-hW]at b5;dsimp only at f;rw[<-hW,<-hA]at f;by_cases I:o=0
 ·have U:=eq_true I;by_cases q3:W=⟨#[]⟩
  ·have c4:=eq_true q3;refine Wg [] [.c [(1000,12)] [.ptr 1000 0] [(1000,.blk 77 [Sv s,Iv (c:Int),Iv o])] (Sv W) [(1000,.blk 77 [Sv s,Iv (A:Int),Iv o])]] ?_ (hr:=by conv=>lhs;simp[U,c4]);refine Wn ?_;refine We ?_;rw[if_pos I,if_pos (by rw[q3];rfl),List.append_nil]at f;rw[f]at j;dsimp only at j;refine Wr ?_ (r:=by conv=>lhs;simp[U]);refine Wn ?_;refine Ws ?_;rw[if_pos I]at j;subst j;refine Wr ?_;refine Wt ?_;try dsimp only[Q8,Q5]
   apply Z7.JW [400]
   ·rfl
   ·conv=>lhs;simp
   ·conv=>lhs;simp[Q7,Tryz.results11]
   simp[Zv,AV.Jk, *]
  refine Wg [] [.c [(1000,12)] [.ptr 1000 0] [(1000,.blk 77 [Sv s,Iv (c:Int),Iv o])] (Sv W) [(1000,.blk 77 [Sv s,Iv (A:Int),Iv o])]] ?_ (hr:=by conv=>lhs;simp[U,q3]);refine Wy ?_;refine Ws ?_;rw[if_pos I,if_neg (λh=>q3 (WC h))]at f;have i:=Zg1 (g:=false) (s:=s) (p:=(A,o)) T;unfold Xd7 at f i;dsimp only at f i;have b6:=W9 s FT A o T C;have h1:=Kw (s:=s) (w:=FT) (p:=(A,o)) T;generalize Kj s FT (A,o)=p1 at b6 h1 f i;obtain⟨A1,e1⟩:=p1;have a1:=h1.sz;dsimp only at a1 b6;have b7:=W9 s Jq0 A1 e1 a1 C;have h2:=Kw (s:=s) (w:=Jq0) (p:=(A1,e1)) a1;generalize Kj s Jq0 (A1,e1)=p2 at b7 h2 f i;obtain⟨A2,e2⟩:=p2;have a2:=h2.sz;dsimp only at a2 b7;have b8:=ZF s A2 e2 a2 C;have h3:=G8 (s:=s) (p:=(A2,e2)) a2;generalize U2 s (A2,e2)=t3 at b8 h3 f i;obtain⟨J,A3,e3⟩:=t3;have a3:=h3.sz;dsimp only at a3 b8 f i;have b9:=W9 s FT A3 e3 a3 C;have h4:=Kw (s:=s) (w:=FT) (p:=(A3,e3)) a3;generalize Kj s FT (A3,e3)=p4 at b9 h4 f i;obtain⟨A4,e4⟩:=p4;have a4:=h4.sz;dsimp only at a4 b9;have a5:=Qd6 s J A4 e4 a4 C (λus a e c5 ha=>Jk5 s J us a e c5 ha C);simp only[List.length_nil,List.map_nil]at a5;have h5:=(Lj (λp h=>G8 (s:=s) h) (s.size+2) (A4,e4) a4).1;generalize J2 s (U2 s) (s.size+2) (A4,e4)=t5 at a5 h5 f i;obtain⟨ws,A5,e5⟩:=t5;have a6:=h5.sz;dsimp only at a6 a5 f i;have a7:=Zg9 s C 25 (Nat.le_refl _) A5 e5 a6;have h6:=Pw (g:=false) (s:=s) 25 (A5,e5) a6;generalize Tm.ps false s 25 (A5,e5)=t6 at a7 h6 f i;obtain⟨⟨xk,xn,xa,xb,a8,a9,b0⟩,A6,e6⟩:=t6;have c0:=h6.sz;dsimp only at c0 a7 f i;have c1:=W9 s XA A6 e6 c0 C;generalize Kj s XA (A6,e6)=p7 at c1 f i;obtain⟨A7,e7⟩:=p7;have c2:=i.sz;have c3:=i.on;dsimp only at c2 c3 c1 f;obtain⟨b1,t⟩:∃l,l=fs++[Fn.mk J ws (.mk xk xn xa xb a8 a9 b0)]:=⟨_,rfl⟩
  have b2:b1.length=fs.length+1:=by rw[t];simp
  have b3:fs.map Fn.row++[[.str J,Q6 ws,.int xk,.int xn,.str xa,.str xb,Q6 a8,.sl (a9.map Tm.row),.sl (b0.map Cs.row)]]=b1.map Fn.row:=by rw[t];simp[Fn.row,Tm.row,Tm.Q3,Cs.Q3]
  rw[show(25:Int)-((25:Nat):Int)=0 from rfl]at a7;refine Wg [] [.c [(1000,12)] [.ptr 1000 0,Sv (⟨#[40]⟩)] [(1000,.blk 77 [Sv s,Iv (A:Int),Iv o])] (.tuple []) [(1000,.blk 77 [Sv s,Iv (A1:Int),Iv e1])]] ?_;refine Wg [] [.c [(1000,12)] [.ptr 1000 0,Sv (⟨#[102,110]⟩)] [(1000,.blk 77 [Sv s,Iv (A1:Int),Iv e1])] (.tuple []) [(1000,.blk 77 [Sv s,Iv (A2:Int),Iv e2])]] ?_;refine Wg [] [.c [(1000,12)] [.ptr 1000 0] [(1000,.blk 77 [Sv s,Iv (A2:Int),Iv e2])] (Sv J) [(1000,.blk 77 [Sv s,Iv (A3:Int),Iv e3])]] ?_;refine Wg [] [.c [(1000,12)] [.ptr 1000 0,Sv (⟨#[40]⟩)] [(1000,.blk 77 [Sv s,Iv (A3:Int),Iv e3])] (.tuple []) [(1000,.blk 77 [Sv s,Iv (A4:Int),Iv e4])]] ?_;refine Wb ?_;refine X8.le (Le.low [401] [] (fr:=[(4,.ptr 4 0),(5,.arr 400 0 fs.length),(6,.ptr 6 0)]) (mem:=[(4,some (.blk 75 [.ptr 12 0])),(6,some (.blk 56 [Sv J,.arr 401 0 0,Iv 0,Iv 0,Sv .empty,Sv .empty,.lit (.slice none 0 0),.lit (.slice none 0 0),.lit (.slice none 0 0)])),(12,some (.blk 77 [Sv s,Iv (A4:Int),Iv e4])),(400,some (.arr 56 9 (fs.map Fn.row))),(401,some (.arr 9 1 ([])))]) rfl (by simp) (by simp)) ?_;refine Wg [] [.c [(1000,12),(1001,6),(1002,4),(500,401)] [.ptr 1000 0,.clo 31 [.ptr 1001 0,.ptr 1002 0]] [(1000,.blk 77 [Sv s,Iv (A4:Int),Iv e4]),(1001,.blk 56 [Sv J,.arr 500 0 0,Iv 0,Iv 0,Sv .empty,Sv .empty,.lit (.slice none 0 0),.lit (.slice none 0 0),.lit (.slice none 0 0)]),(1002,.blk 75 [.ptr 1000 0]),(500,.arr 9 1 ([]))] (.tuple []) [(1000,.blk 77 [Sv s,Iv (A5:Int),Iv e5]),(1001,.blk 56 [Sv J,.arr 500 0 ws.length,Iv 0,Iv 0,Sv .empty,Sv .empty,.lit (.slice none 0 0),.lit (.slice none 0 0),.lit (.slice none 0 0)]),(1002,.blk 75 [.ptr 1000 0]),(500,.arr 9 1 (ws.map Jj))]] ?_
  refine Wg [] [.c [(1000,12)] [.ptr 1000 0,Iv 0] [(1000,.blk 77 [Sv s,Iv (A5:Int),Iv e5])] (.agg [Iv xk,Iv xn,Sv xa,Sv xb,.d (Q6 a8),La (a9.map Tm.row),La (b0.map Cs.row)]) [(1000,.blk 77 [Sv s,Iv (A6:Int),Iv e6])]] ?_;refine Wg [] [.c [(1000,12)] [.ptr 1000 0,Sv (⟨#[41]⟩)] [(1000,.blk 77 [Sv s,Iv (A6:Int),Iv e6])] (.tuple []) [(1000,.blk 77 [Sv s,Iv (A7:Int),Iv e7])]] ?_;apply X8.Hw [401]
  ·conv=>lhs;simp
  refine Wr ?_;refine⟨⟨(b1,A7,e7,m),⟨by rw[f,t];simp,c2,by dsimp only;omega,by dsimp only;rcases b4 with h|h<;> omega,by dsimp only;rcases c3 with h|h;exact .inl h;right;rcases b4 with h|h<;> omega⟩⟩,by dsimp only;omega,?_⟩;dsimp only;exact Le.sub (by simp[b2]) (by simp[b3])
 refine Wr ?_ (r:=by conv=>lhs;simp[I]);refine Wn ?_;refine We ?_;rw[if_neg I,List.append_nil]at f;rw[f]at j;dsimp only at j;refine Wr ?_ (r:=by conv=>lhs;simp[I]);refine Wy ?_;rw[if_neg I]at j;subst j;refine Wz [] [] mixed ?_;refine Wt ?_;try dsimp only[Q8,Q5]
 apply Z7.ret
 ·rfl
 ·conv=>lhs;simp[Q7,Tryz.results11]
 first|rfl|simp[Zv,AV.Jk]
def Zh3(f:X6):List (D×List D):=f.map λx=>(.str x.1,[.int x.2])
theorem UU(f:X6)(s:ByteArray):D.JI (.str s) (Zh3 f)=(f.get s).map λn=>[.int n]:=by
 unfold Zh3 X6.get;induction f with
 |nil=>simp[D.JI]
 |cons x r g=>
  simp only[List.map_cons,List.find?_cons];by_cases h:x.1=s
  ·simp[D.JI,D.Ut,h]
  ·have h':¬s=x.1:=λe=>h e.symm
   simp only[h,decide_false];rw[<-g];simp[D.JI,D.Ut,h]
def RG(g:Int)(ws:List ByteArray)(k n:Int)(a b:ByteArray)(vs:List ByteArray)(xs:List Tm)(cs:List Cs):Option Q9:=some (.blk 87 (Iv g:: .d (Q6 ws)::Bh k n a b vs xs cs))
abbrev Cz(f:X6):Q9:=Xh0 (Zh3 f)
theorem EQ(f:X6):∀(N:Nat) (t:Tm) (names:List ByteArray) (o:Int),t.sz<N->t.Ok->0<=o->o<=25->(names.length:Int)<=1048576+8 * o->
  Z0 Tryz.prog 17 [.mp 1000,Y3 t,Xw names,Iv o] [(1000,Cz f)] (Iv (t.wrong f names o)) [(1000,Cz f)]:=by
 intro N;induction N with
 |zero=>intro t _ _ h;omega
 |succ N ih=>
 intro t names o hN hO d6 d7 d8;obtain⟨k,n,a,b,vs,xs,cs⟩:=t;obtain⟨o1,o2,o3,o4,o5⟩:=hO.vars;refine Z0.of Tryz.func17 rfl rfl (Nat.le_of_ble_eq_true rfl) ?_;show X8 _ _ (Qz _ Tryz.f17 _ _) (X7 235 _ _);refine Wb ?_;apply Wx [] []
 ·conv=>lhs;simp
 ·trivial
 by_cases l:24<o
 ·refine Wb ?_;apply Wx [] []
  ·conv=>lhs;simp[l]
  ·trivial
  refine Wy ?_;refine Wb ?_;apply Wx [] []
  ·conv=>lhs;simp
  ·trivial
  refine Wt ?_;try dsimp only[Q8,Q5]
  apply Qz.ret
  ·rfl
  ·conv=>lhs;simp[Q7,Tryz.results17]
  ·simp only[Tm.wrong,if_pos l];rfl
  ·simp[Qq,Q4]
 refine Wb ?_;apply Wx [] []
 ·conv=>lhs;simp[l]
 ·trivial
 refine Wn ?_;refine Ws ?_;by_cases b1:k<1
 ·refine Wb ?_;apply Wx [] []
  ·conv=>lhs;simp[b1]
  ·trivial
  refine Wy ?_;refine Wb ?_;apply Wx [] []
  ·conv=>lhs;simp
  ·trivial
  refine Wt ?_;try dsimp only[Q8,Q5]
  apply Qz.ret
  ·rfl
  ·conv=>lhs;simp[Q7,Tryz.results17]
  ·simp only[Tm.wrong,if_neg l,if_pos (Or.inl b1:k<1\/7<k)];rfl
  ·simp[Qq,Q4]
 by_cases b5:7<k
 ·refine Wb ?_;apply Wx [] []
  ·conv=>lhs;simp[b1,b5]
  ·trivial
  refine Wy ?_;refine Wb ?_;apply Wx [] []
  ·conv=>lhs;simp
  ·trivial
  refine Wt ?_;try dsimp only[Q8,Q5]
  apply Qz.ret
  ·rfl
  ·conv=>lhs;simp[Q7,Tryz.results17]
  ·simp only[Tm.wrong,if_neg l,if_pos (Or.inr b5:k<1\/7<k)];rfl
  ·simp[Qq,Q4]
 refine Wb ?_;apply Wx [] []
 ·conv=>lhs;simp[b1,b5]
 ·trivial
 refine Wn ?_;refine Ws ?_;have I:¬(k<1\/7<k):=oM;have hk:k=1\/k=2\/k=3\/k=4\/k=5\/k=6\/k=7:=oM;obtain⟨A,hA⟩:∃A:Int,(xs.length:Int)=A:=⟨_,rfl⟩
 obtain⟨C,hC⟩:∃C:Int,(cs.length:Int)=C:=⟨_,rfl⟩
 obtain⟨na,J⟩:∃na:Nat,xs.length=na:=⟨_,rfl⟩
 obtain⟨nc,P⟩:∃nc:Nat,cs.length=nc:=⟨_,rfl⟩
 have d9:A=na:=oM;have e0:C=nc:=oM;by_cases T:Xx k na nc=true
 ·rcases hk with rfl|rfl|rfl|rfl|rfl|rfl|rfl
  ·refine Wr ?_;by_cases U:0<A
   ·refine Wr ?_ (r:=by conv=>lhs;simp[hA,U]);refine Wy ?_;refine Wr ?_;refine Wt ?_;try dsimp only[Q8,Q5]
    apply Qz.ret
    ·rfl
    ·conv=>lhs;simp[Q7,Tryz.results17]
    ·simp only[Tm.wrong,if_neg l,if_neg I,J,P,if_pos T];rfl
    ·simp[Qq,Q4]
   by_cases c2:A=0
   ·have c3:0<C:=by simp[Xx]at T;omega
    refine Wr ?_ (r:=by conv=>lhs;simp[hA,hC,c2,c3]);refine Wy ?_;refine Wr ?_;refine Wt ?_;try dsimp only[Q8,Q5]
    apply Qz.ret
    ·rfl
    ·conv=>lhs;simp[Q7,Tryz.results17]
    ·simp only[Tm.wrong,if_neg l,if_neg I,J,P,if_pos T];rfl
    ·simp[Qq,Q4]
   refine Wr ?_ (r:=by conv=>lhs;simp[hA,U,c2]);refine Wy ?_;refine Wr ?_;refine Wt ?_;try dsimp only[Q8,Q5]
   apply Qz.ret
   ·rfl
   ·conv=>lhs;simp[Q7,Tryz.results17]
   ·simp only[Tm.wrong,if_neg l,if_neg I,J,P,if_pos T];rfl
   ·simp[Qq,Q4]
  ·refine Wr ?_;by_cases U:0<A
   ·refine Wr ?_ (r:=by conv=>lhs;simp[hA,U]);refine Wy ?_;refine Wr ?_;refine Wt ?_;try dsimp only[Q8,Q5]
    apply Qz.ret
    ·rfl
    ·conv=>lhs;simp[Q7,Tryz.results17]
    ·simp only[Tm.wrong,if_neg l,if_neg I,J,P,if_pos T];rfl
    ·simp[Qq,Q4]
   by_cases c2:A=0
   ·have c3:0<C:=by simp[Xx]at T;omega
    refine Wr ?_ (r:=by conv=>lhs;simp[hA,hC,c2,c3]);refine Wy ?_;refine Wr ?_;refine Wt ?_;try dsimp only[Q8,Q5]
    apply Qz.ret
    ·rfl
    ·conv=>lhs;simp[Q7,Tryz.results17]
    ·simp only[Tm.wrong,if_neg l,if_neg I,J,P,if_pos T];rfl
    ·simp[Qq,Q4]
   refine Wr ?_ (r:=by conv=>lhs;simp[hA,U,c2]);refine Wy ?_;refine Wr ?_;refine Wt ?_;try dsimp only[Q8,Q5]
   apply Qz.ret
   ·rfl
   ·conv=>lhs;simp[Q7,Tryz.results17]
   ·simp only[Tm.wrong,if_neg l,if_neg I,J,P,if_pos T];rfl
   ·simp[Qq,Q4]
  ·refine Wr ?_;by_cases U:6<A
   ·refine Wr ?_ (r:=by conv=>lhs;simp[hA,U]);refine Wy ?_;refine Wr ?_;refine Wt ?_;try dsimp only[Q8,Q5]
    apply Qz.ret
    ·rfl
    ·conv=>lhs;simp[Q7,Tryz.results17]
    ·simp only[Tm.wrong,if_neg l,if_neg I,J,P,if_pos T];rfl
    ·simp[Qq,Q4]
   have c3:0<C:=by simp[Xx]at T;omega
   refine Wr ?_ (r:=by conv=>lhs;simp[hA,hC,U,c3]);refine Wy ?_;refine Wr ?_;refine Wt ?_;try dsimp only[Q8,Q5]
   apply Qz.ret
   ·rfl
   ·conv=>lhs;simp[Q7,Tryz.results17]
   ·simp only[Tm.wrong,if_neg l,if_neg I,J,P,if_pos T];rfl
   ·simp[Qq,Q4]
  ·refine Wr ?_;by_cases U:6<A
   ·refine Wr ?_ (r:=by conv=>lhs;simp[hA,U]);refine Wy ?_;refine Wr ?_;refine Wt ?_;try dsimp only[Q8,Q5]
    apply Qz.ret
    ·rfl
    ·conv=>lhs;simp[Q7,Tryz.results17]
    ·simp only[Tm.wrong,if_neg l,if_neg I,J,P,if_pos T];rfl
    ·simp[Qq,Q4]
   have c3:0<C:=by simp[Xx]at T;omega
   refine Wr ?_ (r:=by conv=>lhs;simp[hA,hC,U,c3]);refine Wy ?_;refine Wr ?_;refine Wt ?_;try dsimp only[Q8,Q5]
   apply Qz.ret
   ·rfl
   ·conv=>lhs;simp[Q7,Tryz.results17]
   ·simp only[Tm.wrong,if_neg l,if_neg I,J,P,if_pos T];rfl
   ·simp[Qq,Q4]
  ·refine Wr ?_;by_cases U:2<A
   ·refine Wr ?_ (r:=by conv=>lhs;simp[hA,U]);refine Wy ?_;refine Wr ?_;refine Wt ?_;try dsimp only[Q8,Q5]
    apply Qz.ret
    ·rfl
    ·conv=>lhs;simp[Q7,Tryz.results17]
    ·simp only[Tm.wrong,if_neg l,if_neg I,J,P,if_pos T];rfl
    ·simp[Qq,Q4]
   by_cases c2:A=2
   ·have c3:0<C:=by simp[Xx]at T;omega
    refine Wr ?_ (r:=by conv=>lhs;simp[hA,hC,c2,c3]);refine Wy ?_;refine Wr ?_;refine Wt ?_;try dsimp only[Q8,Q5]
    apply Qz.ret
    ·rfl
    ·conv=>lhs;simp[Q7,Tryz.results17]
    ·simp only[Tm.wrong,if_neg l,if_neg I,J,P,if_pos T];rfl
    ·simp[Qq,Q4]
   refine Wr ?_ (r:=by conv=>lhs;simp[hA,U,c2]);refine Wy ?_;refine Wr ?_;refine Wt ?_;try dsimp only[Q8,Q5]
   apply Qz.ret
   ·rfl
   ·conv=>lhs;simp[Q7,Tryz.results17]
   ·simp only[Tm.wrong,if_neg l,if_neg I,J,P,if_pos T];rfl
   ·simp[Qq,Q4]
  ·refine Wr ?_;by_cases U:2<A
   ·refine Wr ?_ (r:=by conv=>lhs;simp[hA,U]);refine Wy ?_;refine Wr ?_;refine Wt ?_;try dsimp only[Q8,Q5]
    apply Qz.ret
    ·rfl
    ·conv=>lhs;simp[Q7,Tryz.results17]
    ·simp only[Tm.wrong,if_neg l,if_neg I,J,P,if_pos T];rfl
    ·simp[Qq,Q4]
   by_cases c2:A=2
   ·have c3:0<C:=by simp[Xx]at T;omega
    refine Wr ?_ (r:=by conv=>lhs;simp[hA,hC,c2,c3]);refine Wy ?_;refine Wr ?_;refine Wt ?_;try dsimp only[Q8,Q5]
    apply Qz.ret
    ·rfl
    ·conv=>lhs;simp[Q7,Tryz.results17]
    ·simp only[Tm.wrong,if_neg l,if_neg I,J,P,if_pos T];rfl
    ·simp[Qq,Q4]
   refine Wr ?_ (r:=by conv=>lhs;simp[hA,U,c2]);refine Wy ?_;refine Wr ?_;refine Wt ?_;try dsimp only[Q8,Q5]
   apply Qz.ret
   ·rfl
   ·conv=>lhs;simp[Q7,Tryz.results17]
   ·simp only[Tm.wrong,if_neg l,if_neg I,J,P,if_pos T];rfl
   ·simp[Qq,Q4]
  ·refine Wr ?_;by_cases U:1<A
   ·refine Wr ?_ (r:=by conv=>lhs;simp[hA,U]);refine Wy ?_;refine Wr ?_;refine Wt ?_;try dsimp only[Q8,Q5]
    apply Qz.ret
    ·rfl
    ·conv=>lhs;simp[Q7,Tryz.results17]
    ·simp only[Tm.wrong,if_neg l,if_neg I,J,P,if_pos T];rfl
    ·simp[Qq,Q4]
   have c2:¬A=1:=by simp[Xx]at T;omega
   refine Wr ?_ (r:=by conv=>lhs;simp[hA,U,c2]);refine Wy ?_;refine Wr ?_;refine Wt ?_;try dsimp only[Q8,Q5]
   apply Qz.ret
   ·rfl
   ·conv=>lhs;simp[Q7,Tryz.results17]
   ·simp only[Tm.wrong,if_neg l,if_neg I,J,P,if_pos T];rfl
   ·simp[Qq,Q4]
 refine X8.Jz0 ⟨235,[(0,.mp 1000),(2,Xw names),(3,Iv o),(5,.ptr 5 0)],[(5,X0 k n a b vs xs cs),(1000,some (Cz f))]⟩ ?_ (λW hW=>?_);rotate_left
 ·rcases hk with rfl|rfl|rfl|rfl|rfl|rfl|rfl
  ·have U:¬0<A:=by simp[Xx]at T;omega
   have c2:A=0:=by simp[Xx]at T;omega
   have c3:¬0<C:=by simp[Xx]at T;omega
   refine Wr ?_;refine Wr ?_ (r:=by conv=>lhs;simp[hA,hC,c2,c3]);refine Wn ?_;refine Ws ?_;exact hW _ (Le.sub (by simp) (by simp[X0]))
  ·have U:¬0<A:=by simp[Xx]at T;omega
   have c2:A=0:=by simp[Xx]at T;omega
   have c3:¬0<C:=by simp[Xx]at T;omega
   refine Wr ?_;refine Wr ?_ (r:=by conv=>lhs;simp[hA,hC,c2,c3]);refine Wn ?_;refine Ws ?_;exact hW _ (Le.sub (by simp) (by simp[X0]))
  ·have U:¬6<A:=by simp[Xx]at T;omega
   have c3:¬0<C:=by simp[Xx]at T;omega
   refine Wr ?_;refine Wr ?_ (r:=by conv=>lhs;simp[hA,hC,U,c3]);refine Wn ?_;refine Ws ?_;exact hW _ (Le.sub (by simp) (by simp[X0]))
  ·have U:¬6<A:=by simp[Xx]at T;omega
   have c3:¬0<C:=by simp[Xx]at T;omega
   refine Wr ?_;refine Wr ?_ (r:=by conv=>lhs;simp[hA,hC,U,c3]);refine Wn ?_;refine Ws ?_;exact hW _ (Le.sub (by simp) (by simp[X0]))
  ·have U:¬2<A:=by simp[Xx]at T;omega
   have c2:A=2:=by simp[Xx]at T;omega
   have c3:¬0<C:=by simp[Xx]at T;omega
   refine Wr ?_;refine Wr ?_ (r:=by conv=>lhs;simp[hA,hC,c2,c3]);refine Wn ?_;refine Ws ?_;exact hW _ (Le.sub (by simp) (by simp[X0]))
  ·have U:¬2<A:=by simp[Xx]at T;omega
   have c2:A=2:=by simp[Xx]at T;omega
   have c3:¬0<C:=by simp[Xx]at T;omega
   refine Wr ?_;refine Wr ?_ (r:=by conv=>lhs;simp[hA,hC,c2,c3]);refine Wn ?_;refine Ws ?_;exact hW _ (Le.sub (by simp) (by simp[X0]))
  ·have U:¬1<A:=by simp[Xx]at T;omega
   have c2:A=1:=by simp[Xx]at T;omega
   refine Wr ?_;refine Wr ?_ (r:=by conv=>lhs;simp[hA,c2]);refine Wn ?_;refine Ws ?_;exact hW _ (Le.sub (by simp) (by simp[X0]))
 have c6:Xx k na nc=false:=by simpa using T
 have e1:na<=6:=by
  rcases hk with rfl|rfl|rfl|rfl|rfl|rfl|rfl<;> simp[Xx]at c6<;> omega
 have a7:=JR names a oM;have b2:=VQ a oM;by_cases hh:Y2 f k n a names na=0;rotate_left
 ·rcases hk with rfl|rfl|rfl|rfl|rfl|rfl|rfl
  ·refine Wr ?_ (r:=by conv=>lhs;simp[X0]);refine Wr ?_;refine Wy ?_;have hv:hasB names a=false:=by simp[Y2]at hh;exact hh
   rw[hv]at a7;refine Wb ?_;apply Wx [] [.p (λ_=>Bv false) none]
   ·conv=>lhs;simp
   ·exact a7
   refine Wy ?_;refine Wr ?_;refine Wt ?_;try dsimp only[Q8,Q5]
   apply Qz.ret
   ·rfl
   ·conv=>lhs;simp[Q7,Tryz.results17]
   ·simp only[Tm.wrong,if_neg l,if_neg I,J,P,if_neg T,Y2,hv];rfl
   ·simp[Qq,Q4]
  ·refine Wr ?_ (r:=by conv=>lhs;simp[X0]);refine Wr ?_;refine Wn ?_;refine Wr ?_;refine Wy ?_;by_cases U:n< -2147483648
   ·refine Wr ?_ (r:=by conv=>lhs;simp[U]);refine Wy ?_;refine Wr ?_;refine Wt ?_;try dsimp only[Q8,Q5]
    apply Qz.ret
    ·rfl
    ·conv=>lhs;simp[Q7,Tryz.results17]
    ·simp only[Tm.wrong,if_neg l,if_neg I,J,P,if_neg T,Y2,U];rfl
    ·simp[Qq,Q4]
   have c2:2147483647<n:=by simp[Y2]at hh;omega
   refine Wr ?_ (r:=by conv=>lhs;simp[U,c2]);refine Wy ?_;refine Wr ?_;refine Wt ?_;try dsimp only[Q8,Q5]
   apply Qz.ret
   ·rfl
   ·conv=>lhs;simp[Q7,Tryz.results17]
   ·simp only[Tm.wrong,if_neg l,if_neg I,J,P,if_neg T,Y2,U,c2];rfl
   ·simp[Qq,Q4]
  ·refine Wr ?_ (r:=by conv=>lhs;simp[X0]);refine Wr ?_;refine Wn ?_;refine Wr ?_;refine Wn ?_;refine Wr ?_;refine Wy ?_;by_cases U:n<0
   ·refine Wr ?_ (r:=by conv=>lhs;simp[U]);refine Wy ?_;refine Wr ?_;refine Wt ?_;try dsimp only[Q8,Q5]
    apply Qz.ret
    ·rfl
    ·conv=>lhs;simp[Q7,Tryz.results17]
    ·simp only[Tm.wrong,if_neg l,if_neg I,J,P,if_neg T,Y2,U];rfl
    ·simp[Qq,Q4]
   have c2:9<n:=by simp[Y2]at hh;omega
   refine Wr ?_ (r:=by conv=>lhs;simp[U,c2]);refine Wy ?_;refine Wr ?_;refine Wt ?_;try dsimp only[Q8,Q5]
   apply Qz.ret
   ·rfl
   ·conv=>lhs;simp[Q7,Tryz.results17]
   ·simp only[Tm.wrong,if_neg l,if_neg I,J,P,if_neg T,Y2,U,c2];rfl
   ·simp[Qq,Q4]
  ·refine Wr ?_ (r:=by conv=>lhs;simp[X0]);refine Wr ?_;refine Wn ?_;refine Wr ?_;refine Wn ?_;refine Wr ?_;refine Wn ?_;refine Wr ?_;refine Wn ?_;refine Wr ?_;refine Wn ?_;refine Wr ?_;refine Wy ?_;cases hf:f.get a with
   |none=>
    refine Wr ?_ (r:=by conv=>lhs;simp[UU,hf]);refine Wr ?_;refine Wy ?_;refine Wr ?_;refine Wt ?_;try dsimp only[Q8,Q5]
    apply Qz.ret
    ·rfl
    ·conv=>lhs;simp[Q7,Tryz.results17]
    ·simp only[Tm.wrong,if_neg l,if_neg I,J,P,if_neg T,Y2,hf];rfl
    ·simp[Qq,Q4]
   |some w=>
    have U:¬w=na:=by simp[Y2,hf]at hh;exact hh
    have c7:¬(w:Int)=A:=oM;refine Wr ?_ (r:=by conv=>lhs;simp[UU,hf]);refine Wr ?_;refine Wn ?_;refine Ws ?_;refine Wr ?_ (r:=by conv=>lhs;simp[hA,c7]);refine Wy ?_;refine Wr ?_;refine Wt ?_;try dsimp only[Q8,Q5]
    apply Qz.ret
    ·rfl
    ·conv=>lhs;simp[Q7,Tryz.results17]
    ·simp only[Tm.wrong,if_neg l,if_neg I,J,P,if_neg T,Y2,hf,U];rfl
    ·simp[Qq,Q4]
  ·refine Wr ?_ (r:=by conv=>lhs;simp[X0]);refine Wr ?_;refine Wn ?_;refine Wr ?_;refine Wn ?_;refine Wr ?_;refine Wn ?_;refine Wr ?_;refine Wy ?_;by_cases U:n<1
   ·refine Wr ?_ (r:=by conv=>lhs;simp[U]);refine Wy ?_;refine Wr ?_;refine Wt ?_;try dsimp only[Q8,Q5]
    apply Qz.ret
    ·rfl
    ·conv=>lhs;simp[Q7,Tryz.results17]
    ·simp only[Tm.wrong,if_neg l,if_neg I,J,P,if_neg T,Y2,U];rfl
    ·simp[Qq,Q4]
   have c2:5<n:=by simp[Y2]at hh;omega
   refine Wr ?_ (r:=by conv=>lhs;simp[U,c2]);refine Wy ?_;refine Wr ?_;refine Wt ?_;try dsimp only[Q8,Q5]
   apply Qz.ret
   ·rfl
   ·conv=>lhs;simp[Q7,Tryz.results17]
   ·simp only[Tm.wrong,if_neg l,if_neg I,J,P,if_neg T,Y2,U,c2];rfl
   ·simp[Qq,Q4]
  ·refine Wr ?_ (r:=by conv=>lhs;simp[X0]);refine Wr ?_;refine Wn ?_;refine Wr ?_;refine Wn ?_;refine Wr ?_;refine Wn ?_;refine Wr ?_;refine Wn ?_;refine Wr ?_;refine Wy ?_;have hv:F9 a=false:=by simp[Y2]at hh;exact hh
   rw[hv]at b2;refine Wb ?_;apply Wx [] [.p (λ_=>Bv false) none]
   ·conv=>lhs;simp
   ·exact b2
   refine Wy ?_;refine Wr ?_;refine Wt ?_;try dsimp only[Q8,Q5]
   apply Qz.ret
   ·rfl
   ·conv=>lhs;simp[Q7,Tryz.results17]
   ·simp only[Tm.wrong,if_neg l,if_neg I,J,P,if_neg T,Y2,hv];rfl
   ·simp[Qq,Q4]
  ·simp[Y2]at hh
 refine X8.AU ⟨235,[(0,.mp 1000),(2,Xw names),(3,Iv o),(5,.ptr 5 0)],[(5,X0 k n a b vs xs cs),(1000,some (Cz f))]⟩ ?_ (λW hW=>?_);rotate_left
 ·rcases hk with rfl|rfl|rfl|rfl|rfl|rfl|rfl
  ·refine Wr ?_ (r:=by conv=>lhs;simp[X0]);refine Wr ?_;refine Wy ?_;have hv:hasB names a=true:=by simp[Y2]at hh;exact hh
   rw[hv]at a7;refine Wb ?_;apply Wx [] [.p (λ_=>Bv true) none]
   ·conv=>lhs;simp
   ·exact a7
   refine Wn ?_;refine Ws ?_;exact hW _ (Le.sub (by simp) (by simp[X0]))
  ·refine Wr ?_ (r:=by conv=>lhs;simp[X0]);refine Wr ?_;refine Wn ?_;refine Wr ?_;refine Wy ?_;have U:¬n< -2147483648:=by simp[Y2]at hh;omega
   have c2:¬2147483647<n:=by simp[Y2]at hh;omega
   refine Wr ?_ (r:=by conv=>lhs;simp[U,c2]);refine Wn ?_;refine Ws ?_;exact hW _ (Le.sub (by simp) (by simp[X0]))
  ·refine Wr ?_ (r:=by conv=>lhs;simp[X0]);refine Wr ?_;refine Wn ?_;refine Wr ?_;refine Wn ?_;refine Wr ?_;refine Wy ?_;have U:¬n<0:=by simp[Y2]at hh;omega
   have c2:¬9<n:=by simp[Y2]at hh;omega
   refine Wr ?_ (r:=by conv=>lhs;simp[U,c2]);refine Wn ?_;refine Ws ?_;exact hW _ (Le.sub (by simp) (by simp[X0]))
  ·refine Wr ?_ (r:=by conv=>lhs;simp[X0]);refine Wr ?_;refine Wn ?_;refine Wr ?_;refine Wn ?_;refine Wr ?_;refine Wn ?_;refine Wr ?_;refine Wn ?_;refine Wr ?_;refine Wn ?_;refine Wr ?_;refine Wy ?_;obtain⟨w,hw,e2⟩:∃w,f.get a=some w/\w=na:=by
    simp only[Y2]at hh;cases hf:f.get a with
    |none=>simp[hf]at hh
    |some w=>exact⟨w,rfl,by simp[hf]at hh;exact hh⟩
   have U:(w:Int)=A:=oM;refine Wr ?_ (r:=by conv=>lhs;simp[UU,hw]);refine Wr ?_;refine Wn ?_;refine Ws ?_;refine Wr ?_ (r:=by conv=>lhs;simp[hA,U]);refine Wn ?_;refine Ws ?_;exact hW _ (Le.sub (by simp) (by simp[X0]))
  ·refine Wr ?_ (r:=by conv=>lhs;simp[X0]);refine Wr ?_;refine Wn ?_;refine Wr ?_;refine Wn ?_;refine Wr ?_;refine Wn ?_;refine Wr ?_;refine Wy ?_;have U:¬n<1:=by simp[Y2]at hh;omega
   have c2:¬5<n:=by simp[Y2]at hh;omega
   refine Wr ?_ (r:=by conv=>lhs;simp[U,c2]);refine Wn ?_;refine Ws ?_;exact hW _ (Le.sub (by simp) (by simp[X0]))
  ·refine Wr ?_ (r:=by conv=>lhs;simp[X0]);refine Wr ?_;refine Wn ?_;refine Wr ?_;refine Wn ?_;refine Wr ?_;refine Wn ?_;refine Wr ?_;refine Wn ?_;refine Wr ?_;refine Wy ?_;have hv:F9 a=true:=by simp[Y2]at hh;exact hh
   rw[hv]at b2;refine Wb ?_;apply Wx [] [.p (λ_=>Bv true) none]
   ·conv=>lhs;simp
   ·exact b2
   refine Wn ?_;refine Ws ?_;exact hW _ (Le.sub (by simp) (by simp[X0]))
  ·refine Wr ?_ (r:=by conv=>lhs;simp[X0]);refine Wr ?_;refine Wn ?_;refine Wr ?_;refine Wn ?_;refine Wr ?_;refine Wn ?_;refine Wr ?_;refine Wn ?_;refine Wr ?_;refine Wn ?_;refine Wr ?_;refine Wn ?_;refine Ws ?_;exact hW _ (Le.sub (by simp) (by simp[X0]))
 refine Wb ?_;apply Wx [] []
 ·conv=>lhs;simp[X0]
 ·trivial
 refine Wb ?_;refine Wl (σ:=λu:{i:Nat // i<=xs.length/\Tm.Y1 f k a names o 0 xs=Tm.Y1 f k a names o i (xs.drop i)}=>⟨235,[(0,.mp 1000),(2,Xw names),(3,Iv o),(5,.ptr 5 0),(131,La (xs.map Tm.row)),(132,Iv xs.length),(133,Iv u.1)],[(5,X0 k n a b vs xs cs),(1000,some (Cz f))]⟩)
  (μ:=λu=>xs.length-u.1) ⟨0,Nat.zero_le _,rfl⟩ (Le.sub (by simp) (by simp[X0])) (λ⟨i,hi,hw⟩=>?_)
 dsimp only;refine Wb ?_;apply Wx [] []
 ·conv=>lhs;simp
 ·trivial
 refine Wb ?_;refine Wc rfl (λh=>?_) (λh=>?_)
 ·have a1:i<xs.length:=by have:=of_decide_eq_true h;omega
  have h1:xs[i]? =some xs[i]:=List.getElem?_eq_getElem a1;have a2:xs[i]∈xs:=List.getElem_mem a1;have a8:xs.drop i=xs[i]::xs.drop (i+1):=List.drop_eq_getElem_cons a1;generalize xs[i]=x at h1 a2 a8;obtain⟨a6,a3⟩:∃a6,a6=if k=6/\i=1 then names++[a]else names:=⟨_,rfl⟩
  have c8:(a6.length:Int)<=1048576+8 * (o+1):=by rw[a3];split<;> (try rw[List.length_append,List.length_singleton])<;> omega
  have hp:=ih x a6 (o+1) (by have:=Tm.Wu (k:=k) (n:=n) (a:=a) (b:=b) (vs:=vs) (cs:=cs) a2;omega) (hO.arg a2) oM oM c8;rw[a8]at hw;simp only[Tm.Y1,<-a3]at hw;generalize x.wrong f a6 (o+1)=e at hp hw;obtain⟨xk,xn,xa,xb,xv,xx,xc⟩:=x;refine Ws ?_;refine Wr ?_ (r:=by conv=>lhs;simp[h1,Tm.row,Tm.Q3,Cs.Q3,X0]);refine Wb ?_;apply Wx [] []
  ·conv=>lhs;simp
  ·trivial
  refine X8.AU ⟨235,[(0,.mp 1000),(2,Xw names),(3,Iv o),(5,.ptr 5 0),(131,La (xs.map Tm.row)),(132,Iv xs.length),(133,Iv i),(13,.ptr 13 0),(14,Xw a6)],[(5,X0 k n a b vs xs cs),(13,X0 xk xn xa xb xv xx xc),(1000,some (Cz f))]⟩ ?_ (λW hW=>?_);rotate_left
  ·by_cases k6:k=6
   ·subst k6;by_cases i1:i=1
    ·subst i1;rw[if_pos ⟨rfl,rfl⟩]at a3;subst a3;refine Wb ?_;apply Wx [] []
     ·conv=>lhs;simp
     ·trivial
     refine Wy ?_;refine Wb ?_;apply Ww [6] [] mixed
     ·conv=>lhs;simp
     ·kernel_rfl
     ·exact⟨by simp[maxLen];omega,by simp[maxLen];omega⟩
     exact hW _ (Le.sub (by simp;rw[List.take_of_length_le (by simp)]) (by simp[X0]))
    ·have c9:¬(i:Int)=1:=oM;rw[if_neg oM]at a3;subst a3;refine Wb ?_;apply Wx [] []
     ·conv=>lhs;simp[c9]
     ·trivial
     refine Wn ?_;refine Ws ?_;exact hW _ (Le.sub (by simp) (by simp[X0]))
   ·rw[if_neg oM]at a3;subst a3;refine Wb ?_;apply Wx [] []
    ·conv=>lhs;simp[k6]
    ·trivial
    refine Wn ?_;refine Ws ?_;exact hW _ (Le.sub (by simp) (by simp[X0]))
  refine Wb ?_;apply Wx [] [.c [] [.mp 1000,Y3 (.mk xk xn xa xb xv xx xc),Xw a6,Iv (o+1)] [(1000,Cz f)] (Iv e) [(1000,Cz f)]]
  ·conv=>lhs;simp[X0]
  ·exact⟨by simp[P7];omega,hp⟩
  by_cases he:e=0
  ·subst he;simp only[ne_eq,not_true_eq_false,if_false]at hw;refine Wb ?_;apply Wx [] []
   ·conv=>lhs;simp
   ·trivial
   refine Wn ?_;refine Ws ?_;refine Wr ?_;refine⟨⟨i+1,a1,hw⟩,by simp;omega,Le.sub (by simp) (by simp[X0])⟩
  ·rw[if_pos he]at hw;refine Wb ?_;apply Wx [] []
   ·conv=>lhs;simp[he]
   ·trivial
   refine Wy ?_;refine Wb ?_;apply Wx [] []
   ·conv=>lhs;simp
   ·trivial
   refine Wt ?_;try dsimp only[Q8,Q5]
   apply Qz.ret
   ·rfl
   ·conv=>lhs;simp[Q7,Tryz.results17]
   ·simp only[Tm.wrong,if_neg l,if_neg I,J,P,if_neg T,hh,hw,if_pos he,ne_eq,not_true_eq_false,if_false];rfl
   ·simp[Qq,Q4]
 have a1:i=xs.length:=by have:=of_decide_eq_false h;omega
 subst a1;rw[List.drop_length]at hw;simp only[Tm.Y1]at hw;clear h;refine We ?_;by_cases k7:k=7;rotate_left
 ·refine Wb ?_;apply Wx [] []
  ·conv=>lhs;simp[k7,X0]
  ·trivial
  refine Wy ?_;refine Wb ?_;apply Wx [] []
  ·conv=>lhs;simp
  ·trivial
  refine Wt ?_;try dsimp only[Q8,Q5]
  apply Qz.ret
  ·rfl
  ·conv=>lhs;simp[Q7,Tryz.results17]
  ·simp only[Tm.wrong,if_neg l,if_neg I,J,P,if_neg T,hh,hw,if_pos k7,ne_eq,not_true_eq_false,if_false];rfl
  ·simp[Qq,Q4]
 subst k7;refine Wb ?_;apply Wx [] []
 ·conv=>lhs;simp[X0]
 ·trivial
 refine Wn ?_;refine Ws ?_;by_cases c0:C=0
 ·refine Wb ?_;apply Wx [] []
  ·conv=>lhs;simp[hC,c0]
  ·trivial
  refine Wy ?_;refine Wb ?_;apply Wx [] []
  ·conv=>lhs;simp
  ·trivial
  refine Wt ?_;try dsimp only[Q8,Q5]
  apply Qz.ret
  ·rfl
  ·conv=>lhs;simp[Q7,Tryz.results17]
  ·simp only[Tm.wrong,if_neg l,if_neg I,J,P,if_neg T,hh,hw,if_pos (show nc=0\/5<nc by omega),ne_eq,not_true_eq_false,if_false];rfl
  ·simp[Qq,Q4]
 by_cases c5:5<C
 ·refine Wb ?_;apply Wx [] []
  ·conv=>lhs;simp[hC,c0,c5]
  ·trivial
  refine Wy ?_;refine Wb ?_;apply Wx [] []
  ·conv=>lhs;simp
  ·trivial
  refine Wt ?_;try dsimp only[Q8,Q5]
  apply Qz.ret
  ·rfl
  ·conv=>lhs;simp[Q7,Tryz.results17]
  ·simp only[Tm.wrong,if_neg l,if_neg I,J,P,if_neg T,hh,hw,if_pos (show nc=0\/5<nc by omega),ne_eq,not_true_eq_false,if_false];rfl
  ·simp[Qq,Q4]
 refine Wb ?_;apply Wx [] []
 ·conv=>lhs;simp[hC,c0,c5]
 ·trivial
 refine Wn ?_;refine Ws ?_;have b4:Cs.Y1 f names o [] cs=Tm.wrong f (.mk 7 n a b vs xs cs) names o:=by
  simp only[Tm.wrong,if_neg l,if_neg I,J,P,if_neg T,hh,hw,if_neg (show¬(nc=0\/5<nc)by omega),ne_eq,not_true_eq_false,if_false]
 refine Wb ?_;apply Wx [] []
 ·conv=>lhs;simp
 ·trivial
 refine Wb ?_;refine Wl (σ:=λu:{i:Nat // i<=cs.length/\Cs.Y1 f names o [] cs=Cs.Y1 f names o ((cs.take i).map Cs.tag).reverse (cs.drop i)}=>⟨235,[(0,.mp 1000),(2,Xw names),(3,Iv o),(5,.ptr 5 0),(177,La (cs.map Cs.row)),(178,Iv cs.length),(179,Iv u.1)],[(5,X0 7 n a b vs xs cs),(1000,some (Cz f))]⟩)
  (μ:=λu=>cs.length-u.1) ⟨0,Nat.zero_le _,rfl⟩ (Le.sub (by simp) (by simp[X0])) (λ⟨i,hi,a4⟩=>?_)
 dsimp only;refine Wb ?_;apply Wx [] []
 ·conv=>lhs;simp
 ·trivial
 refine Wb ?_;refine Wc rfl (λh=>?_) (λh=>?_);rotate_left
 ·have a1:i=cs.length:=by have:=of_decide_eq_false h;omega
  subst a1;rw[List.drop_length]at a4;simp only[Cs.Y1]at a4;refine We ?_;refine Wb ?_;apply Wx [] []
  ·conv=>lhs;simp
  ·trivial
  refine Wt ?_;try dsimp only[Q8,Q5]
  apply Qz.ret
  ·rfl
  ·conv=>lhs;simp[Q7,Tryz.results17]
  ·rw[<-b4,a4];rfl
  ·simp[Qq,Q4]
 have a1:i<cs.length:=by have:=of_decide_eq_true h;omega
 have h1:cs[i]? =some cs[i]:=List.getElem?_eq_getElem a1;have a2:cs[i]∈cs:=List.getElem_mem a1;have a8:cs.drop i=cs[i]::cs.drop (i+1):=List.drop_eq_getElem_cons a1;generalize cs[i]=c at h1 a2 a8;obtain⟨g,ws,x⟩:=c;have d0:((cs.take (i+1)).map Cs.tag).reverse=g::((cs.take i).map Cs.tag).reverse:=by rw[List.take_add_one,h1];simp[Cs.tag]
 obtain⟨d1,e3⟩:=(hO.case a2).body;have d2:=(hO.case a2).sizes;rw[a8]at a4;simp only[Cs.Y1]at a4;rw[show(Cs.mk g ws x).tag=g from rfl,<-d0]at a4;obtain⟨E,hE⟩:∃E,E=Cs.JL f names o ((cs.take i).map Cs.tag).reverse (.mk g ws x):=⟨_,rfl⟩
 rw[<-hE]at a4;have a5:=a4;rw[b4]at a5;simp only[Cs.JL]at hE;have e4:((names++ws).length:Int)=names.length+ws.length:=by simp
 have hx:=λq:((names++ws).length:Int)<=1048576+8 * (o+1)=>ih x (names++ws) (o+1) (by have:=Tm.YI (k:=7) (n:=n) (a:=a) (b:=b) (vs:=vs) (xs:=xs) a2;omega) d1 oM oM q
 generalize x.wrong f (names++ws) (o+1)=e at hx hE;have a9:=TQ ws oM;have b3:=Qq7 ws oM (λs hs=>by have:=d2 s hs;omega);refine Ws ?_;obtain⟨xk,xn,xa,xb,xv,xx,xc⟩:=x;refine Wr ?_ (r:=by conv=>lhs;simp[h1,Cs.row,Tm.row,Tm.Q3,Cs.Q3,X0]);by_cases g0:g<0
 ·rw[if_pos (show g<0\/9<g by omega)]at hE;refine Wb ?_;apply Wx [] []
  ·conv=>lhs;simp[g0]
  ·trivial
  refine Wy ?_;refine Wb ?_;apply Wx [] []
  ·conv=>lhs;simp
  ·trivial
  refine Wt ?_;try dsimp only[Q8,Q5]
  apply Qz.ret
  ·rfl
  ·conv=>lhs;simp[Q7,Tryz.results17]
  ·rw[a5,hE];rfl
  ·simp[Qq,Q4]
 by_cases g9:9<g
 ·rw[if_pos (show g<0\/9<g by omega)]at hE;refine Wb ?_;apply Wx [] []
  ·conv=>lhs;simp[g0,g9]
  ·trivial
  refine Wy ?_;refine Wb ?_;apply Wx [] []
  ·conv=>lhs;simp
  ·trivial
  refine Wt ?_;try dsimp only[Q8,Q5]
  apply Qz.ret
  ·rfl
  ·conv=>lhs;simp[Q7,Tryz.results17]
  ·rw[a5,hE];rfl
  ·simp[Qq,Q4]
 rw[if_neg (show¬(g<0\/9<g)by omega)]at hE;refine Wb ?_;apply Wx [] []
 ·conv=>lhs;simp[g0,g9]
 ·trivial
 refine Wn ?_;refine Ws ?_;refine Wb ?_;apply Wx [] []
 ·conv=>lhs;simp
 ·exact⟨hi,λi a _=>Cs.QH a⟩
 refine Wb ?_;refine Wl (σ:=λu:{j:Nat // j<=i/\∀d∈cs.take j,d.tag≠g}=>⟨235,[(0,.mp 1000),(2,Xw names),(3,Iv o),(5,.ptr 5 0),(177,La (cs.map Cs.row)),(178,Iv cs.length),(179,Iv i),(17,.ptr 17 0),(195,La (List.take i (cs.map Cs.row))),(196,Iv i),(197,Iv u.1)],[(5,X0 7 n a b vs xs cs),(17,RG g ws xk xn xa xb xv xx xc),(1000,some (Cz f))]⟩)
  (μ:=λu=>i-u.1) ⟨0,Nat.zero_le _,by simp⟩ (Le.sub (by simp[Nat.min_eq_left hi]) (by simp[X0,RG])) (λ⟨j,hj,b7⟩=>?_)
 dsimp only;refine Wb ?_;apply Wx [] []
 ·conv=>lhs;simp
 ·trivial
 refine Wb ?_;refine Wc rfl (λh3=>?_) (λh3=>?_)
 ·have b6:j<i:=by have:=of_decide_eq_true h3;omega
  have d3:j<cs.length:=oM;have k1:cs[j]? =some cs[j]:=List.getElem?_eq_getElem d3;have k2:cs[j]∈cs.take i:=List.mem_take_iff_getElem.2 ⟨j,oM,rfl⟩;generalize cs[j]=d at k1 k2;obtain⟨g',e5,y⟩:=d;obtain⟨yk,yn,ya,yb,yv,yx,yc⟩:=y;refine Ws ?_;refine Wr ?_ (r:=by conv=>lhs;simp[b6,k1,Cs.row,Tm.row,Tm.Q3,Cs.Q3,X0]);by_cases hg:g'=g
  ·subst hg;refine Wb ?_;apply Wx [] []
   ·conv=>lhs;simp[RG]
   ·trivial
   refine Wy ?_;refine Wb ?_;apply Wx [] []
   ·conv=>lhs;simp
   ·trivial
   refine Wt ?_;try dsimp only[Q8,Q5]
   apply Qz.ret
   ·rfl
   ·conv=>lhs;simp[Q7,Tryz.results17]
   ·rw[if_pos (by
     have:(((cs.take i).map Cs.tag).reverse).contains g'=true:=by
      rw[List.contains_iff_mem,List.mem_reverse];exact List.mem_map.2 ⟨_,k2,rfl⟩
     rw[this];rfl)]at hE
    rw[a5,hE];rfl
   ·simp[Qq,Q4]
  ·refine Wb ?_;apply Wx [] []
   ·conv=>lhs;simp[hg,RG]
   ·trivial
   refine Wn ?_;refine Ws ?_;refine Wr ?_;refine⟨⟨j+1,oM,?_⟩,by simp;omega,Le.sub (by simp) (by simp[X0,RG])⟩;intro d hd;rw[List.take_add_one,k1]at hd;rcases List.mem_append.1 hd with hd|hd
   ·exact b7 d hd
   ·simp at hd;subst hd;exact hg
 have b6:j=i:=by have:=of_decide_eq_false h3;omega
 subst b6;have d4:(((cs.take j).map Cs.tag).reverse).contains g=false:=by
  rw[<-Bool.not_eq_true,List.contains_iff_mem,List.mem_reverse];intro d5;obtain⟨d,hd,he⟩:=List.mem_map.1 d5;exact b7 d hd he
 rw[d4]at hE;simp only[Bool.false_or]at hE;clear h3;refine We ?_;cases ht:Ld ws with
 |true=>
  rw[ht]at a9 hE;refine Wb ?_;apply Wx [] [.p (λ_=>Bv true) none]
  ·conv=>lhs;simp[RG]
  ·exact a9
  refine Wy ?_;refine Wb ?_;apply Wx [] []
  ·conv=>lhs;simp
  ·trivial
  refine Wt ?_;try dsimp only[Q8,Q5]
  apply Qz.ret
  ·rfl
  ·conv=>lhs;simp[Q7,Tryz.results17]
  ·rw[a5,hE];rfl
  ·simp[Qq,Q4]
 |false=>
 rw[ht]at a9 hE;cases hbb:YC ws with
 |true=>
  rw[hbb]at b3 hE;refine Wb ?_;apply Wx [] [.p (λ_=>Bv false) none,.p (λ_=>Bv true) none]
  ·conv=>lhs;simp[RG]
  ·exact⟨a9,b3⟩
  refine Wy ?_;refine Wb ?_;apply Wx [] []
  ·conv=>lhs;simp
  ·trivial
  refine Wt ?_;try dsimp only[Q8,Q5]
  apply Qz.ret
  ·rfl
  ·conv=>lhs;simp[Q7,Tryz.results17]
  ·rw[a5,hE];rfl
  ·simp[Qq,Q4]
 |false=>
 rw[hbb]at b3 hE;simp only[Bool.or_self,Bool.false_eq_true,if_false]at hE;refine Wb ?_;apply Wx [] [.p (λ_=>Bv false) none,.p (λ_=>Bv false) none]
 ·conv=>lhs;simp[RG]
 ·exact⟨a9,b3⟩
 refine Wn ?_;refine Ws ?_;by_cases b8:6<ws.length
 ·rw[if_pos b8]at hE;have b0:(6:Int)<ws.length:=oM;refine Wb ?_;apply Wx [] []
  ·conv=>lhs;simp[b0]
  ·trivial
  refine Wy ?_;refine Wb ?_;apply Wx [] []
  ·conv=>lhs;simp
  ·trivial
  refine Wt ?_;try dsimp only[Q8,Q5]
  apply Qz.ret
  ·rfl
  ·conv=>lhs;simp[Q7,Tryz.results17]
  ·rw[a5,hE];rfl
  ·simp[Qq,Q4]
 rw[if_neg b8]at hE;subst hE;have b0:¬(6:Int)<ws.length:=oM;refine Wb ?_;apply Wx [] []
 ·conv=>lhs;simp[b0]
 ·trivial
 refine Wn ?_;refine Ws ?_;have hx:=hx oM;obtain⟨nw,b9⟩:∃nw,nw=names++ws:=⟨_,rfl⟩
 have c4:List.take (names.length+ws.length) (List.map Jj names++List.map Jj ws)=List.map Jj nw:=by rw[b9,List.map_append,List.take_of_length_le (by simp)]
 rw[<-b9]at hx;apply X8.keep [0,2,3,5,177,178,179,17] [5,17,1000]
 ·conv=>lhs;simp[Qf,X4]
 ·conv=>lhs;simp[QB,Q4]
 refine Wb ?_;apply Ww [8] [.c [] [.mp 1000,Y3 (.mk xk xn xa xb xv xx xc),Xw nw,Iv (o+1)] [(1000,Cz f)] (Iv E) [(1000,Cz f)]] mixed
 ·conv=>lhs;simp[c4,Y3]
 ·kernel_rfl
 ·exact⟨by simp[maxLen];omega,by simp[maxLen];omega,by simp[P7];omega,hx⟩
 by_cases he:E=0
 ·subst he;simp only[ne_eq,not_true_eq_false,if_false]at a4;refine Wb ?_;apply Wx [] []
  ·conv=>lhs;simp
  ·trivial
  refine Wn ?_;refine Ws ?_;refine Wr ?_;refine⟨⟨j+1,a1,a4⟩,by simp;omega,Le.sub (by simp) (by simp[X0])⟩
 ·rw[if_pos he]at a5;refine Wb ?_;apply Wx [] []
  ·conv=>lhs;simp[he]
  ·trivial
  refine Wy ?_;refine Wb ?_;apply Wx [] []
  ·conv=>lhs;simp
  ·trivial
  refine Wt ?_;try dsimp only[Q8,Q5]
  apply Qz.ret
  ·rfl
  ·conv=>lhs;simp[Q7,Tryz.results17]
  ·rw[a5];rfl
  ·simp[Qq,Q4]
theorem Qd9(f:X6)(t:Tm)(names:List ByteArray)(g:t.Ok)(i:names.length<=1048576):
  Z0 Tryz.prog 17 [.mp 1000,Y3 t,Xw names,Iv 0] [(1000,Cz f)] (Iv (t.wrong f names 0)) [(1000,Cz f)]:=
 EQ f _ t names 0 (Nat.lt_succ_self _) g oM oM oM
theorem Zh2{f:X6}{g:ByteArray}{n:Nat}(h:f.get g=none):D.Fu (.str g) [.int n] (Zh3 f)=Zh3 ((g,n)::f):=by
 unfold D.Fu;rw[D.EW]
 ·rfl
 ·intro p hp;unfold Zh3 at hp;obtain⟨t,i,rfl⟩:=List.mem_map.1 hp;intro e;simp only[D.str.injEq]at e;subst e;unfold X6.get at h;rw[Option.map_eq_none_iff,List.find?_eq_none]at h;have:=h t i;simp at this
theorem TR(l:List Fn)(hl:H5 l):Qv Tryz.prog 6 [F4 l] (λ_=>Iv (Jq l)) none:=by
 have b2:=hl.len;obtain⟨C,hC⟩:∃C:Int,(l.length:Int)=C:=⟨_,rfl⟩
 refine Qv.of Tryz.func6 rfl rfl rfl (Nat.le_of_ble_eq_true rfl) ?_;show X8 _ _ (Z7 _ Tryz.f6 _ _ _) (Z6 81 _);refine Wr ?_;by_cases q1:C=0
 ·refine Wr ?_ (r:=by conv=>lhs;simp[hC,q1]);refine Wy ?_;refine Wr ?_;refine Wt ?_;try dsimp only[Q8,Q5]
  apply Z7.ret
  ·rfl
  ·conv=>lhs;simp[Q7,Tryz.results6]
  ·rw[Jq,if_pos (show l.length=0\/6<l.length by omega)];rfl
 by_cases q2:6<C
 ·refine Wr ?_ (r:=by conv=>lhs;simp[hC,q1,q2]);refine Wy ?_;refine Wr ?_;refine Wt ?_;try dsimp only[Q8,Q5]
  apply Z7.ret
  ·rfl
  ·conv=>lhs;simp[Q7,Tryz.results6]
  ·rw[Jq,if_pos (show l.length=0\/6<l.length by omega)];rfl
 refine Wr ?_ (r:=by conv=>lhs;simp[hC,q1,q2]);refine Wn ?_;refine Ws ?_;have I:¬(l.length=0\/6<l.length):=oM;refine Wr ?_;refine Wr ?_ (r:=by conv=>lhs;simp[hC]);refine Wb ?_;refine Wl (σ:=λu:{i:Nat // i<=l.length/\Xl [] l=Xl (ZW (l.take i)) (l.drop i)}=>⟨81,[(0,F4 l),(3,.mp 19),(20,F4 l),(21,Iv l.length),(22,Iv u.1)],[(19,some (Cz (ZW (l.take u.1))))]⟩)
  (μ:=λu=>l.length-u.1) ⟨0,Nat.zero_le _,rfl⟩ (Le.sub (by simp[hC]) (by simp[ZW,Cz,Zh3])) (λ⟨i,hi,o⟩=>?_)
 dsimp only;refine Wb ?_;apply Wx [] []
 ·conv=>lhs;simp
 ·trivial
 refine Wb ?_;refine Wc rfl (λa2=>?_) (λa2=>?_)
 ·have t:i<l.length:=by have:=of_decide_eq_true a2;omega
  have T:l[i]? =some l[i]:=List.getElem?_eq_getElem t;have U:l[i]∈l:=List.getElem_mem t;have a1:l.drop i=l[i]::l.drop (i+1):=List.drop_eq_getElem_cons t;generalize l[i]=c at T U a1;obtain⟨g,ps,bd⟩:=c;have a4:ZW (l.take (i+1))=(g,ps.length)::ZW (l.take i):=by rw[List.take_add_one,T];exact Oo _ _
  obtain⟨o1,o2,o3,o4⟩:=hl.all _ U;dsimp only at o1 o2 o3 o4;rw[a1]at o;simp only[Xl]at o;rw[<-a4]at o;obtain⟨f,hf⟩:∃f,f=ZW (l.take i):=⟨_,rfl⟩
  rw[<-hf]at o a4⊢;obtain⟨E,P⟩:∃E,E=Fn.Y2 f ⟨g,ps,bd⟩:=⟨_,rfl⟩
  rw[<-P]at o;simp only[Fn.Y2]at P;have a5:=VQ g oM;have a6:=TQ ps oM;have a7:=Qq7 ps oM (λs hs=>by have:=o3 s hs;omega);have b0:=Lu bd o4;obtain⟨S,hS⟩:∃S,S=wr bd.sz:=⟨_,rfl⟩
  rw[<-hS]at b0 P;obtain⟨B,hB⟩:∃B:Int,(ps.length:Int)=B:=⟨_,rfl⟩
  obtain⟨xk,xn,xa,xb,xv,xx,xc⟩:=bd;refine Ws ?_;refine Wr ?_ (r:=by conv=>lhs;simp[hC,Fn.row,Tm.row,Tm.Q3,Cs.Q3,T]);cases hg:f.get g with
  |some m=>
   refine Wr ?_ (r:=by conv=>lhs;simp[UU,hg]);refine Wr ?_;refine Wy ?_;refine Wr ?_;refine Wt ?_;rw[if_pos (by simp[hg])]at P;rw[if_pos oM]at o;try dsimp only[Q8,Q5]
   apply Z7.ret
   ·rfl
   ·conv=>lhs;simp[Q7,Tryz.results6]
   ·rw[Jq,if_neg I,o,if_pos oM,P];rfl
  |none=>
   refine Wr ?_ (r:=by conv=>lhs;simp[UU,hg]);cases q3:F9 g with
   |true=>
    rw[q3]at a5;cases q4:Ld ps with
    |true=>
     rw[q4]at a6;refine Wg [] [.p (λ_=>Bv true) none,.p (λ_=>Bv true) none] ?_;refine Wy ?_;refine Wr ?_;refine Wt ?_;rw[if_pos (by simp[hg,q3,q4])]at P;rw[if_pos oM]at o;try dsimp only[Q8,Q5]
     apply Z7.ret
     ·rfl
     ·conv=>lhs;simp[Q7,Tryz.results6]
     ·rw[Jq,if_neg I,o,if_pos oM,P];rfl
    |false=>
     rw[q4]at a6;cases q5:YC ps with
     |true=>
      rw[q5]at a7;refine Wg [] [.p (λ_=>Bv true) none,.p (λ_=>Bv false) none,.p (λ_=>Bv true) none] ?_;refine Wy ?_;refine Wr ?_;refine Wt ?_;rw[if_pos (by simp[hg,q3,q4,q5])]at P;rw[if_pos oM]at o;try dsimp only[Q8,Q5]
      apply Z7.ret
      ·rfl
      ·conv=>lhs;simp[Q7,Tryz.results6]
      ·rw[Jq,if_neg I,o,if_pos oM,P];rfl
     |false=>
      rw[q5]at a7;refine Wg [] [.p (λ_=>Bv true) none,.p (λ_=>Bv false) none,.p (λ_=>Bv false) none] ?_;refine Wn ?_;refine Ws ?_;by_cases q6:6<B
      ·refine Wr ?_ (r:=by conv=>lhs;simp[hB,q6]);refine Wy ?_;refine Wr ?_;refine Wt ?_;rw[if_neg (by simp[hg,q3,q4,q5]),if_pos (show 6<ps.length by omega)]at P;rw[if_pos oM]at o;try dsimp only[Q8,Q5]
       apply Z7.ret
       ·rfl
       ·conv=>lhs;simp[Q7,Tryz.results6]
       ·rw[Jq,if_neg I,o,if_pos oM,P];rfl
      refine Wr ?_ (r:=by conv=>lhs;simp[hB,q6]);refine Wn ?_;refine Ws ?_;by_cases q7:400<S
      ·refine Wg [] [.p (λ_=>Iv S) none] ?_ (hr:=by conv=>lhs;simp[q7]);refine Wy ?_;refine Wr ?_;refine Wt ?_;rw[if_neg (by simp[hg,q3,q4,q5]),if_neg (show¬6<ps.length by omega),if_pos (show 400<S by omega)]at P;rw[if_pos oM]at o;try dsimp only[Q8,Q5]
       apply Z7.ret
       ·rfl
       ·conv=>lhs;simp[Q7,Tryz.results6]
       ·rw[Jq,if_neg I,o,if_pos oM,P];rfl
      refine Wg [] [.p (λ_=>Iv S) none] ?_ (hr:=by conv=>lhs;simp[q7]);refine Wn ?_;refine Ws ?_;rw[if_neg (by simp[hg,q3,q4,q5]),if_neg (show¬6<ps.length by omega),if_neg (show¬400<S by omega)]at P;rw[if_neg (show¬(E≠0)by omega)]at o;have a8:D.Fu (.str g) [.int B] (Zh3 f)=Zh3 ((g,ps.length)::f):=by rw[<-hB];exact Zh2 hg
      refine Wr ?_ (r:=by conv=>lhs;simp[hB,a8]);refine Wr ?_;refine⟨⟨i+1,t,o⟩,by simp;omega,?_⟩;dsimp only;rw[a4];exact Le.sub (by simp[hC]) (by simp)
   |false=>
    rw[q3]at a5;refine Wg [] [.p (λ_=>Bv false) none] ?_;refine Wy ?_;refine Wr ?_;refine Wt ?_;rw[if_pos (by simp[hg,q3])]at P;rw[if_pos oM]at o;try dsimp only[Q8,Q5]
    apply Z7.ret
    ·rfl
    ·conv=>lhs;simp[Q7,Tryz.results6]
    ·rw[Jq,if_neg I,o,if_pos oM,P];rfl
 have t:i=l.length:=by have:=of_decide_eq_false a2;omega
 subst t;clear a2;rw[List.drop_length]at o;simp only[Xl]at o;rw[List.take_length];have a9:=Vg o;refine We ?_;refine Wr ?_ (r:=by conv=>lhs;simp[hC]);refine Wb ?_;refine Wl (σ:=λu:{j:Nat // j<=l.length/\Xh (ZW l) l=Xh (ZW l) (l.drop j)}=>⟨81,[(0,F4 l),(3,.mp 19),(65,F4 l),(66,Iv l.length),(67,Iv u.1)],[(19,some (Cz (ZW l)))]⟩)
  (μ:=λu=>l.length-u.1) ⟨0,Nat.zero_le _,rfl⟩ (Le.sub (by simp[hC]) (by simp)) (λ⟨j,hi,J⟩=>?_)
 dsimp only;refine Wb ?_;apply Wx [] []
 ·conv=>lhs;simp
 ·trivial
 refine Wb ?_;refine Wc rfl (λa3=>?_) (λa3=>?_)
 ·have t:j<l.length:=by have:=of_decide_eq_true a3;omega
  have T:l[j]? =some l[j]:=List.getElem?_eq_getElem t;have U:l[j]∈l:=List.getElem_mem t;have a1:l.drop j=l[j]::l.drop (j+1):=List.drop_eq_getElem_cons t;generalize l[j]=c at T U a1;have b1:=(a9 _ U).2.2.2.1;obtain⟨g,ps,bd⟩:=c;obtain⟨o1,o2,o3,o4⟩:=hl.all _ U;dsimp only at o1 o2 o3 o4 b1;rw[a1]at J;simp only[Xh]at J;have hx:=Qd9 (ZW l) bd ps o4 oM;obtain⟨E,P⟩:∃E,E=bd.wrong (ZW l) ps 0:=⟨_,rfl⟩
  rw[<-P]at J hx;obtain⟨xk,xn,xa,xb,xv,xx,xc⟩:=bd;refine Ws ?_;refine Wr ?_ (r:=by conv=>lhs;simp[hC,Fn.row,Tm.row,Tm.Q3,Cs.Q3,T]);refine Wg [] [.c [(1000,19)] [.mp 1000,Y3 (.mk xk xn xa xb xv xx xc),Xw ps,Iv 0] [(1000,Cz (ZW l))] (Iv E) [(1000,Cz (ZW l))]] ?_;by_cases q8:E=0
  ·refine Wr ?_ (r:=by conv=>lhs;simp[q8]);refine Wn ?_;refine Ws ?_;rw[if_neg (show¬(E≠0)by omega)]at J;refine Wr ?_;refine⟨⟨j+1,t,J⟩,by simp;omega,?_⟩;dsimp only;exact Le.sub (by simp[hC]) (by simp)
  refine Wr ?_ (r:=by conv=>lhs;simp[q8]);refine Wy ?_;refine Wr ?_;refine Wt ?_;rw[if_pos oM]at J;try dsimp only[Q8,Q5]
  apply Z7.ret
  ·rfl
  ·conv=>lhs;simp[Q7,Tryz.results6]
  ·rw[Jq,if_neg I,o,if_neg oM,J];rfl
 have t:j=l.length:=by have:=of_decide_eq_false a3;omega
 subst t;clear a3;rw[List.drop_length]at J;simp only[Xh]at J;refine We ?_;refine Wr ?_ (r:=by conv=>lhs;simp[hC]);refine Wt ?_;try dsimp only[Q8,Q5]
 apply Z7.ret
 ·rfl
 ·conv=>lhs;simp[Q7,Tryz.results6]
 ·rw[Jq,if_neg I,o,if_neg oM,J];rfl
end
section
open Go.RowKit
theorem Lr(c:Int):(Xp (wr c)).size<=140737488355328:=by
 have:=vsz (wr c) (JB c);omega
theorem Zv8:∀(ps:Ps) (s:ByteArray),s.size<=140737488355328->(∀p∈ps,p.2.size<=140737488355328)->(Yc ps s).size<=140737488355328:=by
 intro ps s g hp;unfold Yc;have:∀(ps:Ps) (o:ByteArray),o.size<=140737488355328->(∀p∈ps,p.2.size<=140737488355328)->(ps.foldl (λo p=>if p.1=s then p.2 else o) o).size<=140737488355328:=by
  intro ps;induction ps with
  |nil=>intro o f _;exact f
  |cons p r i=>
   intro o f h;simp only[List.foldl_cons];refine i _ ?_ λq j=>h q (List.mem_cons_of_mem _ j)
   split
   ·exact h p (List.mem_cons_self ..)
   ·exact f
 exact this ps s g hp
theorem XL:∀(l:List ByteArray) (c:Int),∀s∈Y5 l c,s.size<=140737488355328
 |[],_,s,h=>by cases h
 |_::r,c,s,h=>by
  rw[Y5]at h;rcases List.mem_cons.1 h with rfl|h
  ·exact Lr _
  ·exact XL r _ s h
theorem BG:∀(d:Nat) (t:Tm) (ps:Ps) (c:Int),t.Rt d->t.Ok->(∀p∈ps,p.2.size<=140737488355328)->(t.rn ps c).1.Ok:=by
 intro d;induction d with
 |zero=>intro t _ _ h;exact h.elim
 |succ d U=>
 intro t ps c hR hO j;obtain⟨k,n,a,b,vs,xs,cs⟩:=t;obtain⟨_,_,_,hx,hc⟩:=hR;obtain⟨⟨o1,o2,o3⟩,⟨o4,o5,o6⟩,o7,o8⟩:=hO;rw[Tm.Xz]at o7;rw[Cs.Xz]at o8;have hL:∀(f:List Tm) (i:Nat) (nm:ByteArray) (c:Int),(∀y∈f,y∈xs)->nm.size<=140737488355328->Tm.VI (Tm.ZT k a ps i f nm c).1/\(Tm.ZT k a ps i f nm c).2.1.size<=140737488355328/\(Tm.ZT k a ps i f nm c).1.length=f.length:=by
  intro f;induction f with
  |nil=>intro i nm c _ h;exact⟨trivial,h,rfl⟩
  |cons y r l=>
   intro i nm c J hn;have g:=J y (List.mem_cons_self ..);rw[Tm.ZT];split
   ·have o:=U y (ps++[(a,Xp (wr (c+1)))]) (wr (c+1)) (hx y g) (o7 y g) (λp hp=>(List.mem_append.1 hp).elim (j p) λhp=>by rw[List.mem_singleton.1 hp];exact Lr _);obtain⟨C,P,I⟩:=l (i+1) (Xp (wr (c+1))) (y.rn (ps++[(a,Xp (wr (c+1)))]) (wr (c+1))).2 (λz T=>J z (List.mem_cons_of_mem _ T)) (Lr _);exact⟨⟨o,C⟩,P,by simp[I]⟩
   ·have o:=U y ps c (hx y g) (o7 y g) j;obtain⟨C,P,I⟩:=l (i+1) nm (y.rn ps c).2 (λz T=>J z (List.mem_cons_of_mem _ T)) hn;exact⟨⟨o,C⟩,P,by simp[I]⟩
 have hC:∀(f:List Cs) (c:Int),(∀y∈f,y∈cs)->Cs.VI (Cs.VG f ps c).1/\(Cs.VG f ps c).1.length=f.length:=by
  intro f;induction f with
  |nil=>intro c _;exact⟨trivial,rfl⟩
  |cons y r l=>
   intro c J;have g:=J y (List.mem_cons_self ..);obtain⟨t,ws,y⟩:=y;obtain⟨hw,a1⟩:=hc _ g;obtain⟨p1,p2,p3⟩:=o8 _ g;rw[Cs.VG,Cs.rn];have o:=U y (ps++ws.zip (Y5 ws c)) (Rz ws c) a1 p3 (λp hp=>(List.mem_append.1 hp).elim (j p) λhp=>XL ws c _ (List.of_mem_zip hp).2);obtain⟨C,I⟩:=l (y.rn (ps++ws.zip (Y5 ws c)) (Rz ws c)).2 λz T=>J z (List.mem_cons_of_mem _ T)
   exact⟨⟨⟨XL ws c,by rw[Hq];exact p2,o⟩,C⟩,by simp[I]⟩
 rw[Tm.rn];split
 ·exact⟨⟨Zv8 ps a o1 j,o2,o3⟩,⟨o4,by simp,by simp⟩,trivial,trivial⟩
 ·obtain⟨o,C,P⟩:=hL xs 0 a c (λy g=>g) o1;obtain⟨I,h5⟩:=hC cs (Tm.ZT k a ps 0 xs a c).2.2 λy g=>g
  exact⟨⟨C,o2,o3⟩,⟨o4,by rw[P];exact o5,by rw[h5];exact o6⟩,o,I⟩
theorem Fn.BG(f:Fn)(g:f.body.Ok)(hr:f.body.Rt 25):f.rn.body.Ok:=
 Go.Proofs.YtnddiddkmhiclaaGreatDoor.BG 25 f.body _ _ hr g λp hp=>XL _ _ _ (List.of_mem_zip hp).2
theorem M3{l:List Fn}(i:H5 l)(h:Jq l=0):∀f∈l,f.body.Ok/\f.body.Rt 25/\f.params.length<=6:=λf g=>by
 have hr:=(ZH h).2.2.2 f g;exact⟨(i.all f g).body,OA _ 25 _ _ 0 oM hr.wrong,hr.params⟩
def TH(c:Int):ByteArray:=⟨#[119]⟩++Mv c
theorem Xk9:((⟨#[119]⟩:ByteArray).size<=maxLen)=True:=eq_true (by show 1<=9223372036854775807;omega)
theorem wsz(e:Int)(h:P7 e):(TH e).size<=22:=by
 have:=Ew h;show(⟨#[119]⟩++Mv e:ByteArray).size<=22;rw[ByteArray.size_append];have f:(⟨#[119]⟩:ByteArray).size=1:=rfl;omega
theorem OH(c:Int):(TH (wr c)).size<=140737488355328:=by
 have:=wsz (wr c) (JB c);omega
abbrev Bs:=List (ByteArray×Tm)
def Tm.tk:Tm->Int
 | .mk k _ _ _ _ _ _=>k
def Lm(s:ByteArray):Tm:=.mk 1 0 s .empty [] [] []
def around:Bs->Tm->Tm
 |[],t=>t
 |b::r,t=>.mk 6 0 b.1 .empty [] [b.2,around r t] []
theorem KE:∀(x y:Bs) (t:Tm),around (x++y) t=around x (around y t)
 |[],_,_=>rfl
 |b::r,y,t=>by simp only[List.cons_append,around,KE r y t]
mutual
def Tm.pl:Tm->Int->Tm×Int
 | .mk k n a b vs xs cs,c=>
  if k=3\/k=4\/k=5 then (around (Tm.ats xs c).2.1 (.mk k n a .empty [] (Tm.ats xs c).1 []),(Tm.ats xs c).2.2)
  else if k=6 then (.mk 6 0 a .empty [] (Tm.M5 xs c).1 [],(Tm.M5 xs c).2)
  else if k=7 then (around (Tm.ats xs c).2.1 (.mk 7 0 .empty .empty [] (Tm.ats xs c).1 (Cs.M5 cs (Tm.ats xs c).2.2).1),(Cs.M5 cs (Tm.ats xs c).2.2).2)
  else (.mk k n a b vs xs cs,c)
def Tm.ats:List Tm->Int->List Tm×Bs×Int
 |[],c=>([],[],c)
 |x::r,c=>if x.tk=1 then (x::(Tm.ats r c).1,(Tm.ats r c).2.1,(Tm.ats r c).2.2)
  else (Lm (TH (wr (c+1)))::(Tm.ats r (x.pl (wr (c+1))).2).1,(TH (wr (c+1)),(x.pl (wr (c+1))).1)::(Tm.ats r (x.pl (wr (c+1))).2).2.1,(Tm.ats r (x.pl (wr (c+1))).2).2.2)
def Tm.M5:List Tm->Int->List Tm×Int
 |[],c=>([],c)
 |x::r,c=>((x.pl c).1::(Tm.M5 r (x.pl c).2).1,(Tm.M5 r (x.pl c).2).2)
def Cs.M5:List Cs->Int->List Cs×Int
 |[],c=>([],c)
 |d::r,c=>((d.pl c).1::(Cs.M5 r (d.pl c).2).1,(Cs.M5 r (d.pl c).2).2)
def Cs.pl:Cs->Int->Cs×Int
 | .mk t ws y,c=>(.mk t ws (y.pl c).1,(y.pl c).2)
end
theorem UQ:∀(l:List Tm) (c:Int),(Tm.ats l c).1.length=l.length
 |[],_=>rfl
 |x::r,c=>by
  rw[Tm.ats];split<;> simp[UQ r]
def Fn.pl(f:Fn):Fn:=⟨f.rn.name,f.rn.params,(f.rn.body.pl 0).1⟩
theorem Zl:∀(d:Nat) (t:Tm) (ps:Ps) (c:Int),t.Rt d->(t.rn ps c).1.Rt d:=by
 intro d;induction d with
 |zero=>intro t _ _ h;exact h.elim
 |succ d P=>
 intro t ps c hR;obtain⟨k,n,a,b,vs,xs,cs⟩:=t;obtain⟨T,j,U,hx,hc⟩:=hR;have hL:∀(f:List Tm) (i:Nat) (nm:ByteArray) (c:Int),(∀y∈f,y∈xs)->(∀y∈(Tm.ZT k a ps i f nm c).1,y.Rt d)/\(Tm.ZT k a ps i f nm c).1.length=f.length:=by
  intro f;induction f with
  |nil=>intro i nm c _;exact⟨λy h=>by simp[Tm.ZT]at h,rfl⟩
  |cons y r l=>
   intro i nm c C;have I:=C y (List.mem_cons_self ..);rw[Tm.ZT];split
   ·obtain⟨j,J⟩:=l (i+1) (Xp (wr (c+1))) (y.rn (ps++[(a,Xp (wr (c+1)))]) (wr (c+1))).2 (λz g=>C z (List.mem_cons_of_mem _ g));exact⟨λz g=>(List.mem_cons.1 g).elim (λe=>e▸P y _ _ (hx y I)) (j z),by simp[J]⟩
   ·obtain⟨j,J⟩:=l (i+1) nm (y.rn ps c).2 (λz g=>C z (List.mem_cons_of_mem _ g));exact⟨λz g=>(List.mem_cons.1 g).elim (λe=>e▸P y _ _ (hx y I)) (j z),by simp[J]⟩
 have hC:∀(f:List Cs) (c:Int),(∀y∈f,y∈cs)->(∀y∈(Cs.VG f ps c).1,y.2.length<=6/\y.3.Rt d)/\(Cs.VG f ps c).1.length=f.length:=by
  intro f;induction f with
  |nil=>intro c _;exact⟨λy h=>by simp[Cs.VG]at h,rfl⟩
  |cons y r l=>
   intro c C;have I:=hc y (C y (List.mem_cons_self ..));rw[Cs.VG];obtain⟨j,J⟩:=l (y.rn ps c).2 (λz g=>C z (List.mem_cons_of_mem _ g));obtain⟨t,ws,z⟩:=y;refine⟨λz g=>(List.mem_cons.1 g).elim (λe=>?_) (j z),by simp[J]⟩;rw[e,Cs.rn];exact⟨by dsimp only;rw[Hq];exact I.1,P _ _ _ I.2⟩
 rw[Tm.rn];split
 ·rename_i hk;subst hk;have o:=j;unfold Xx at o;simp at o;obtain⟨e1,e2⟩:=o;subst e1 e2;have h0:Tm.Rt (d+1) (.mk 1 n (Yc ps a) b vs [] []):=by
   rw[Tm.Rt];exact⟨T,j,U,by simp,by simp⟩
  exact h0
 ·obtain⟨q1,q2⟩:=hL xs 0 a c (λ_ h=>h);obtain⟨q3,q4⟩:=hC cs (Tm.ZT k a ps 0 xs a c).2.2 (λ_ h=>h);refine⟨T,?_,?_,q1,q3⟩
  ·rw[q2,q4];exact j
  ·rw[q2,q4];exact U
def IdP(ps:Ps):Prop:=∀p∈ps,p.1=p.2
theorem LK{d:Nat}{k n:Int}{a b:ByteArray}{vs:List ByteArray}{xs:List Tm}{cs:List Cs}(h:(Tm.mk k n a b vs xs cs).Rt (d+1))(i:k=6):∃x y,xs=[x,y]/\cs=[]:=by
 obtain⟨_,f,_⟩:=h;subst i;unfold Xx at f;simp at f;obtain⟨g,rfl⟩:=f;rcases xs with _|⟨x,_|⟨y,_|⟨z,l⟩⟩⟩
 ·cases g
 ·cases g
 ·exact⟨x,y,rfl,rfl⟩
 ·simp at g
theorem Qx3{k:Int}(f:k≠6)(a:ByteArray)(ps:Ps):∀(l:List Tm) (i:Nat) (nm:ByteArray) (c:Int),(Tm.ZT k a ps i l nm c).2.1=nm
 |[],_,_,_=>rfl
 |x::r,i,nm,c=>by
  rw[Tm.ZT,if_neg λh=>f h.1];exact Qx3 f a ps r _ _ _
mutual
def Tm.bd:Tm->List ByteArray
 | .mk k _ a _ _ xs cs=>(if k=6 then[a]else[])++(Tm.V6 xs++Cs.V6 cs)
def Tm.V6:List Tm->List ByteArray
 |[]=>[]
 |x::r=>x.bd++Tm.V6 r
def Cs.V6:List Cs->List ByteArray
 |[]=>[]
 |c::r=>c.bd++Cs.V6 r
def Cs.bd:Cs->List ByteArray
 | .mk _ ws y=>ws++y.bd
end
def QG(c:Int)(n:Nat):List ByteArray:=(List.range n).map λ(i:Nat)=>Xp (c+1+(i:Int))
theorem Qc(c:Int)(m n:Nat):QG c (m+n)=QG c m++QG (c+m) n:=by
 unfold QG;rw[List.range_add,List.map_append,List.map_map];congr 1;refine List.map_congr_left λi _=>?_
 show Xp _=Xp _;congr 1
 push_cast
 omega
theorem Sa(c:Int):QG c 1=[Xp (c+1)]:=by simp[QG]
theorem VJ{c:Int}(h:0<=c)(f:c<9223372036854775807):wr c=c:=Zh8 ⟨oM,oM⟩
theorem O7:∀(l:List ByteArray) (c:Int),0<=c->c+l.length<9223372036854775807->Y5 l c=QG c l.length/\Rz l c=c+l.length
 |[],c,_,_=>⟨rfl,by simp[Rz]⟩
 |x::r,c,h,g=>by
  rw[List.length_cons]at g;have f:wr (c+1)=c+1:=VJ oM oM;obtain⟨i,j⟩:=O7 r (c+1) oM oM;refine⟨?_,?_⟩
  ·rw[Y5,f,i,List.length_cons,Nat.add_comm r.length 1,Qc,Sa];rfl
  ·rw[Rz,f,j,List.length_cons];omega
theorem Ml:∀(d:Nat) (t:Tm) (ps:Ps) (c:Int),t.Rt d->0<=c->c+t.bd.length<9223372036854775807->(t.rn ps c).1.bd.Perm (QG c t.bd.length)/\(t.rn ps c).2=c+t.bd.length:=by
 intro d;induction d with
 |zero=>intro t _ _ h;exact h.elim
 |succ d ih=>
 intro t ps c hR T g;obtain⟨k,n,a,b,vs,xs,cs⟩:=t;have a1:=hR;obtain⟨hk,j,_,hx,hc⟩:=a1;rw[Tm.rn];by_cases U:k=1
 ·subst U;unfold Xx at j;simp at j;obtain⟨rfl,rfl⟩:=j;rw[if_pos rfl];exact⟨by simp[Tm.bd,Tm.V6,Cs.V6,QG],by simp[Tm.bd,Tm.V6,Cs.V6]⟩
 rw[if_neg U];by_cases l:k=6
 ·obtain⟨x,y,rfl,rfl⟩:=LK hR l;subst l;have hl:(Tm.mk 6 n a b vs [x,y] []).bd.length=x.bd.length+(1+y.bd.length):=by simp[Tm.bd,Tm.V6,Cs.V6];omega
  rw[hl]at g⊢;obtain⟨C,o⟩:=ih x ps c (hx x (by simp)) T (by push_cast at g⊢;omega);have hw:wr (c+x.bd.length+1)=c+x.bd.length+1:=VJ oM (by push_cast at g;omega);obtain⟨I,J⟩:=ih y (ps++[(a,Xp (c+x.bd.length+1))]) (c+x.bd.length+1) (hx y (by simp)) oM (by push_cast at g⊢;omega);refine⟨?_,?_⟩
  ·simp[Tm.ZT,Cs.VG,Tm.bd,Tm.V6,Cs.V6,o,hw];rw[Qc,Qc,Sa,show c+(x.bd.length:Int)+((1:Nat):Int)=c+x.bd.length+1 from by omega];refine List.Perm.trans ?_ ((List.perm_middle (a:=Xp (c+x.bd.length+1)) (l₁:=QG c x.bd.length) (l₂:=QG (c+x.bd.length+1) y.bd.length)).symm);exact List.Perm.cons _ (C.append I)
  ·simp[Tm.ZT,Cs.VG,o,hw,J];omega
 ·have hL:∀(f:List Tm) (i:Nat) (nm:ByteArray) (c:Int),(∀y∈f,y∈xs)->0<=c->c+(Tm.V6 f).length<9223372036854775807->(Tm.V6 (Tm.ZT k a ps i f nm c).1).Perm (QG c (Tm.V6 f).length)/\(Tm.ZT k a ps i f nm c).2.2=c+(Tm.V6 f).length:=by
   intro f;induction f with
   |nil=>intro i nm c _ _ _;exact⟨by simp[Tm.ZT,Tm.V6,QG],by simp[Tm.ZT,Tm.V6]⟩
   |cons y r P=>
    intro i nm c hm T g;rw[Tm.V6,List.length_append]at g⊢;obtain⟨C,o⟩:=ih y ps c (hx y (hm y (List.mem_cons_self ..))) T (by push_cast at g;omega);obtain⟨I,J⟩:=P (i+1) nm (c+y.bd.length) (λz hz=>hm z (List.mem_cons_of_mem _ hz)) oM (by push_cast at g;omega);rw[Tm.ZT,if_neg λh=>l h.1,o];dsimp only;rw[Tm.V6,Qc];exact⟨C.append I,by rw[J];push_cast;omega⟩
  have hC:∀(f:List Cs) (c:Int),(∀y∈f,y∈cs)->0<=c->c+(Cs.V6 f).length<9223372036854775807->(Cs.V6 (Cs.VG f ps c).1).Perm (QG c (Cs.V6 f).length)/\(Cs.VG f ps c).2=c+(Cs.V6 f).length:=by
   intro f;induction f with
   |nil=>intro c _ _ _;exact⟨by simp[Cs.VG,Cs.V6,QG],by simp[Cs.VG,Cs.V6]⟩
   |cons y r P=>
    intro c hm T g;have hy:=hm y (List.mem_cons_self ..);obtain⟨t,ws,y⟩:=y;rw[Cs.V6,Cs.bd,List.length_append,List.length_append]at g⊢;obtain⟨e1,e2⟩:=O7 ws c T (by push_cast at g;omega);obtain⟨C,o⟩:=ih y (ps++ws.zip (Y5 ws c)) (c+ws.length) (hc _ hy).2 oM (by push_cast at g;omega);obtain⟨I,J⟩:=P (c+ws.length+y.bd.length) (λz hz=>hm z (List.mem_cons_of_mem _ hz)) oM (by push_cast at g;omega);rw[Cs.VG,Cs.rn,e2,o];dsimp only;rw[Cs.V6,Cs.bd,Qc,Qc,show c+((ws.length+y.bd.length:Nat):Int)=c+ws.length+y.bd.length from by push_cast;omega,e1];exact⟨((List.Perm.refl _).append (by rw[<-e1];exact C)).append I,by rw[J];push_cast;omega⟩
  have hl:(Tm.mk k n a b vs xs cs).bd.length=(Tm.V6 xs).length+(Cs.V6 cs).length:=by simp[Tm.bd,l]
  rw[hl]at g⊢;obtain⟨C,o⟩:=hL xs 0 a c (λ_ h=>h) T (by push_cast at g;omega);obtain⟨I,J⟩:=hC cs (c+(Tm.V6 xs).length) (λ_ h=>h) oM (by push_cast at g;omega);rw[o];dsimp only;rw[Tm.bd,if_neg l,List.nil_append,Qc];exact⟨C.append I,by rw[J];push_cast;omega⟩
def Tc(l:List UInt8):Nat:=l.foldl (λa c=>a * 10+(c.toNat-48)) 0
theorem KC(u:Nat):Tc (Lib.decDigits u)=u:=by
 induction u using Nat.strongRecOn with
 |_ u i=>
  by_cases h:u<10
  ·rw[Lib.decDigits,dif_pos h];have f:(UInt8.ofNat (48+u)).toNat=48+u:=by rw[UInt8.toNat_ofNat'];omega
   simp only[Tc,List.foldl_cons,List.foldl_nil,f];omega
  ·rw[Lib.decDigits,dif_neg h];have f:(UInt8.ofNat (48+u % 10)).toNat=48+u % 10:=by rw[UInt8.toNat_ofNat'];omega
   have g:=i (u / 10) oM;unfold Tc at g⊢;rw[List.foldl_append,g,List.foldl_cons,List.foldl_nil,f];omega
theorem WS{a b:Int}(i:0<=a)(j:0<=b)(h:Mv a=Mv b):a=b:=by
 unfold Mv Lib.itoa at h;rw[if_neg oM,if_neg oM]at h;injection h with h;have f:Lib.decDigits a.toNat=Lib.decDigits b.toNat:=by
  have:=congrArg Array.toList h;simpa using this
 have g:=congrArg Tc f;rw[KC,KC]at g;omega
theorem Sw{p a b:ByteArray}(h:p++a=p++b):a=b:=by
 have f:=congrArg (λx:ByteArray=>x.data.toList) h;simp only[ByteArray.data_append,Array.toList_append]at f;have g:=List.append_cancel_left f;obtain⟨a⟩:=a;obtain⟨b⟩:=b;congr 1;exact Array.toList_inj.1 g
theorem Zx6{a b:Int}(f:0<=a)(g:0<=b)(h:Xp a=Xp b):a=b:=WS f g (Sw h)
theorem KT{c:Int}(g:0<=c)(n:Nat):(QG c n).Nodup:=by
 unfold QG;rw[List.nodup_iff_pairwise_ne,List.pairwise_map];refine List.Pairwise.imp ?_ List.nodup_range;intro a b f e;have:=Zx6 oM oM e;omega
def Fn.bd(f:Fn):List ByteArray:=f.params++f.body.bd
theorem Fn.Jx2(f:Fn)(hr:f.body.Rt 25)(g:(f.bd.length:Int)<9223372036854775807):f.rn.bd.Nodup:=by
 unfold Fn.bd at g;rw[List.length_append]at g
 push_cast at g
 obtain⟨i,j⟩:=O7 f.params 0 oM oM;obtain⟨l,_⟩:=Ml 25 f.body (f.params.zip (Y5 f.params 0)) (Rz f.params 0) hr oM oM;unfold Fn.bd Fn.rn;dsimp only;have o:(Y5 f.params 0++(f.body.rn (f.params.zip (Y5 f.params 0)) (Rz f.params 0)).1.bd).Perm (QG 0 (f.params.length+f.body.bd.length)):=by
  rw[Qc];exact(List.Perm.of_eq i).append (j▸l)
 exact o.nodup_iff.2 (KT oM _)
abbrev Out:=Vl×Int×Int
abbrev Zh6:=List Vl×Int×Int
abbrev Iq:=ByteArray->List Vl->Int->Out
def JG(ws:List ByteArray)(vs:List Vl)(env:Env):Env:=(ws.zip vs).reverse++env
def SE(n:Int)(u v:Vl)(fuel:Int):Out:=
 if (u.KD||v.KD)=true then (zeroV,fuel,10)else if (Wj n u.n v.n).2≠0 then (zeroV,fuel,(Wj n u.n v.n).2)else ((Wj n u.n v.n).1,fuel,0)
def VE(g:Bool)(C:Iq)(k n:Int)(a:ByteArray)(o:Zh6)(M:Vl->Int->Out):Out:=
 if k=3 then ((if g=true\/o.2.2=0 then .mk true n o.1 else zeroV),o.2.1,o.2.2)
 else if o.2.2≠0 then (zeroV,o.2.1,o.2.2)
 else if k=4 then C a o.1 o.2.1
 else if k=5 then SE n (o.1.getD 0 zeroV) (o.1.getD 1 zeroV) o.2.1
 else if (o.1.getD 0 zeroV).KD=true then M (o.1.getD 0 zeroV) o.2.1 else (zeroV,o.2.1,10)
def Jk6(v:Vl)(o:Zh6):Zh6:=(v::o.1,o.2.1,o.2.2)
mutual
def JF(g:Bool)(C:Iq):Tm->Env->Int->Out
 | .mk k n a _ _ xs cs,env,fuel=>
  if k=1 then (Y8 env a,fuel,0)else if k=2 then (.mk false n [],fuel,0)else if k=6 then EK g C a xs env fuel
  else VE g C k n a (Xq3 g C xs env fuel) (λv f=>Zg6 g C v cs env f)
def Xq3(g:Bool)(C:Iq):List Tm->Env->Int->Zh6
 |[],_,fuel=>([],fuel,0)
 |x::r,env,fuel=>if (JF g C x env fuel).2.2≠0 then ([(JF g C x env fuel).1],(JF g C x env fuel).2.1,(JF g C x env fuel).2.2)
  else Jk6 (JF g C x env fuel).1 (Xq3 g C r env (JF g C x env fuel).2.1)
def EK(g:Bool)(C:Iq)(a:ByteArray):List Tm->Env->Int->Out
 |[],_,fuel=>(zeroV,fuel,0)
 |x::r,env,fuel=>if (JF g C x env fuel).2.2≠0 then (zeroV,(JF g C x env fuel).2.1,(JF g C x env fuel).2.2)else Zg5 g C r ((a,(JF g C x env fuel).1)::env) (JF g C x env fuel).2.1
def Zg5(g:Bool)(C:Iq):List Tm->Env->Int->Out
 |[],_,fuel=>(zeroV,fuel,0)
 |y::_,env,fuel=>JF g C y env fuel
def Zg6(g:Bool)(C:Iq)(v:Vl):List Cs->Env->Int->Out
 |[],_,fuel=>(zeroV,fuel,11)
 |c::r,env,fuel=>if c.tag=v.n then (if c.vars.length=v.kids.length then evB g C v c env fuel else (zeroV,fuel,11))else Zg6 g C v r env fuel
def evB(g:Bool)(C:Iq)(v:Vl):Cs->Env->Int->Out
 | .mk _ ws b,env,fuel=>JF g C b (JG ws v.kids env) fuel
end
noncomputable def Qs (g:Bool) (l:List Fn):Nat->Iq
 |0,name,vs,fuel=>match l.find? (λx=>NY x.name name)with
  |none=>(zeroV,fuel,6)
  |some x=>if x.params.length≠vs.length then (zeroV,fuel,6)else if fuel=0 then (zeroV,fuel,12)else (zeroV,fuel,9)
 |n+1,name,vs,fuel=>match l.find? (λx=>NY x.name name)with
  |none=>(zeroV,fuel,6)
  |some x=>if x.params.length≠vs.length then (zeroV,fuel,6)else if fuel=0 then (zeroV,fuel,12)else JF g (Qs g l n) x.body (JG x.params vs []) (fuel-1)
mutual
def Vl.Jv5:Vl->Prop
 | .mk _ n f=>(-2147483648<=n/\n<=2147483647)/\f.length<=6/\Vl.Xq9 f
def Vl.Xq9:List Vl->Prop
 |[]=>True
 |t::r=>t.Jv5/\Vl.Xq9 r
end
def EnvF(env:Env):Prop:=∀p∈env,p.2.Jv5
def CovE(env:Env)(names:List ByteArray):Prop:=∀s∈names,∃v,DW env s=some v
def BV:Nat->List ByteArray->ByteArray->ByteArray
 |_,[],o=>o
 |i,x::r,o=>BV (i+1) r ((if 0<i then o++⟨#[32]⟩else o)++x)
def shK(k n:Int)(a b V A M:ByteArray):ByteArray:=
 if k=1 then a else if k=2 then Mv n
 else if k=3 then ((⟨#[40]⟩++(⟨#[35]⟩++Mv n))++A)++⟨#[41]⟩
 else if k=4 then ((⟨#[40]⟩++a)++A)++⟨#[41]⟩
 else if k=5 then (if 0<n/\n<6 then ((⟨#[40]⟩++(⟨#[43,45,42,60,61]⟩:ByteArray).extract (n-1).toNat n.toNat)++A)++⟨#[41]⟩else⟨#[63]⟩)
 else if k=6 then ((⟨#[40,108,101,116,32]⟩++a)++A)++⟨#[41]⟩
 else if k=7 then M++⟨#[41]⟩
 else if k=8 then ((⟨#[40,100,117,112,32]⟩++a)++A)++⟨#[41]⟩
 else if k=9 then ((⟨#[40,100,114,111,112,32]⟩++a)++A)++⟨#[41]⟩
 else if k=10 then (((((⟨#[40,116,97,107,101,32]⟩++a)++⟨#[32,40]⟩)++V)++⟨#[41]⟩)++A)++⟨#[41]⟩
 else if k=11 then (((((((⟨#[40,104,111,108,100,32]⟩++a)++⟨#[32]⟩)++b)++⟨#[32,40]⟩)++V)++⟨#[41]⟩)++A)++⟨#[41]⟩
 else if k=12 then ((((⟨#[40,117,115,101,32]⟩++b)++⟨#[32]⟩)++(⟨#[35]⟩++Mv n))++A)++⟨#[41]⟩
 else if k=13 then ((⟨#[40,102,114,101,101,32]⟩++b)++A)++⟨#[41]⟩
 else⟨#[63]⟩
mutual
def Tm.sh:Tm->ByteArray
 | .mk k n a b vs xs cs=>shK k n a b (BV 0 vs ⟨#[]⟩) (Tm.Zd1 xs ⟨#[]⟩) (Cs.Zd1 cs (⟨#[40,109,97,116,99,104]⟩++Tm.Zd1 xs ⟨#[]⟩))
def Tm.Zd1:List Tm->ByteArray->ByteArray
 |[],o=>o
 |x::r,o=>Tm.Zd1 r ((o++⟨#[32]⟩)++x.sh)
def Cs.Zd1:List Cs->ByteArray->ByteArray
 |[],o=>o
 |c::r,o=>Cs.Zd1 r (c.shC o)
def Cs.shC:Cs->ByteArray->ByteArray
 | .mk t ws y,o=>((BV 0 ws (((o++⟨#[32,40,35]⟩)++Mv t)++⟨#[32,40]⟩)++⟨#[41,32]⟩)++y.sh)++⟨#[41]⟩
end
def Fn.Zd1:List Fn->ByteArray->ByteArray
 |[],o=>o
 |f::r,o=>Fn.Zd1 r (((BV 0 f.params (((o++⟨#[40,102,110,32]⟩)++f.name)++⟨#[32,40]⟩)++⟨#[41,32]⟩)++f.body.sh)++⟨#[41,10]⟩)
mutual
def Tm.In:Tm->Prop
 | .mk k n a b vs xs cs=>P7 n/\Tm.Xd0 xs/\Cs.Xd0 cs
def Tm.Xd0:List Tm->Prop
 |[]=>True
 |x::r=>x.In/\Tm.Xd0 r
def Cs.Xd0:List Cs->Prop
 |[]=>True
 |c::r=>c.In/\Cs.Xd0 r
def Cs.In:Cs->Prop
 | .mk t ws y=>P7 t/\y.In
end
@[simp] theorem Xw2:0<=maxLen:=by decide
@[simp] theorem Xv8:4<=maxLen:=by decide
@[simp] theorem Xv6:6<=maxLen:=by decide
@[simp] theorem Xv5:7<=maxLen:=by decide
@[simp] theorem Xv4:8<=maxLen:=by decide
@[simp] theorem Xv3:9<=maxLen:=by decide
@[simp] theorem Xq1:10<=maxLen:=by decide
@[simp] theorem Xq0:11<=maxLen:=by decide
@[simp] theorem Zd9:12<=maxLen:=by decide
def KM(s:ByteArray):Bool:=Nat.ble s.size 1000
mutual
def Tm.okB:Tm->Bool
 | .mk _ n a b vs xs cs=>(KM a && (KM b && vs.all KM)) && ((Nat.ble vs.length 1000 && (Nat.ble xs.length 1000 && Nat.ble cs.length 1000)) && ((decide (-1000000<=n) && decide (n<=1000000)) && (Tm.PD xs && Cs.PD cs)))
def Tm.PD:List Tm->Bool
 |[]=>true
 |x::r=>x.okB && Tm.PD r
def Cs.PD:List Cs->Bool
 |[]=>true
 |c::r=>c.okB && Cs.PD r
def Cs.okB:Cs->Bool
 | .mk t ws y=>(decide (-1000000<=t) && decide (t<=1000000)) && ((Nat.ble ws.length 1000 && ws.all KM) && y.okB)
end
theorem QP{s:ByteArray}(h:KM s=true):s.size<=1000:=Nat.le_of_ble_eq_true h
mutual
theorem Tm.KZ:∀t:Tm,t.okB=true->t.Ok/\t.In
 | .mk k n a b vs xs cs,h=>by
  simp only[Tm.okB,Bool.and_eq_true,List.all_eq_true,decide_eq_true_eq]at h;obtain⟨⟨i,j,f⟩,⟨g,o,T⟩,⟨h7,h8⟩,U,C⟩:=h;have g1:=QP i;have g2:=QP j;have g4:=Nat.le_of_ble_eq_true g;have g5:=Nat.le_of_ble_eq_true o;have g6:=Nat.le_of_ble_eq_true T;obtain⟨I,J⟩:=Tm.Ue xs U;obtain⟨p3,p4⟩:=Cs.Ue cs C;exact⟨⟨⟨oM,oM,λs P=>by have:=QP (f s P);omega⟩,⟨oM,oM,oM⟩,I,p3⟩,⟨oM,oM⟩,J,p4⟩
theorem Tm.Ue:∀l:List Tm,Tm.PD l=true->Tm.VI l/\Tm.Xd0 l
 |[],_=>⟨trivial,trivial⟩
 |x::r,h=>by
  rw[Tm.PD,Bool.and_eq_true]at h;obtain⟨i,j⟩:=Tm.KZ x h.1;obtain⟨f,g⟩:=Tm.Ue r h.2;exact⟨⟨i,f⟩,j,g⟩
theorem Cs.Ue:∀l:List Cs,Cs.PD l=true->Cs.VI l/\Cs.Xd0 l
 |[],_=>⟨trivial,trivial⟩
 |x::r,h=>by
  rw[Cs.PD,Bool.and_eq_true]at h;obtain⟨i,j⟩:=Cs.KZ x h.1;obtain⟨f,g⟩:=Cs.Ue r h.2;exact⟨⟨i,f⟩,j,g⟩
theorem Cs.KZ:∀c:Cs,c.okB=true->c.Ok/\c.In
 | .mk t ws y,h=>by
  simp only[Cs.okB,Bool.and_eq_true,List.all_eq_true,decide_eq_true_eq]at h;obtain⟨⟨i,j⟩,⟨f,g⟩,o⟩:=h;have g3:=Nat.le_of_ble_eq_true f;obtain⟨I,J⟩:=Tm.KZ y o;exact⟨⟨λs P=>by have:=QP (g s P);omega,oM,I⟩,⟨oM,oM⟩,J⟩
end
def Fn.okB(f:Fn):Bool:=KM f.name && ((Nat.ble f.params.length 1000 && f.params.all KM) && f.body.okB)
def Qh3(l:List Fn):Bool:=Nat.ble l.length 1000 && l.all Fn.okB
theorem Fn.KZ{f:Fn}(h:f.okB=true):f.Ok/\f.body.In:=by
 simp only[Fn.okB,Bool.and_eq_true,List.all_eq_true]at h;obtain⟨g,⟨i,j⟩,l⟩:=h;have C:=QP g;have I:=Nat.le_of_ble_eq_true i;obtain⟨o,r⟩:=Tm.KZ _ l;exact⟨⟨oM,oM,λs t=>by have:=QP (j s t);omega,o⟩,r⟩
theorem Qh2{l:List Fn}(h:Qh3 l=true):H5 l:=by
 simp only[Qh3,Bool.and_eq_true,List.all_eq_true]at h;have g:=Nat.le_of_ble_eq_true h.1;exact⟨oM,λf i=>(Fn.KZ (h.2 f i)).1⟩
end
section
open Go.RowKit
attribute [local simp] Jb WL WQ WA VO QA Zo Pv Uw Wv Vk Vj Y4 V8 Xo V5 Gj O1 Value.oneCell' X4 Q4 Z6 Yn Nv Z5 AS.after Zz Uj K7 AV.ids ZB Q9.ids UC Qy E5 Nw Lx Kk V9 Gz D8 D6 U4 KI ZQ setAt Fz Je O4 XT L8 XU WY AV.cells Yv K9 L6 M6 AV.kill Q9.kill AV.has AV.Uv Op.operands Call.operands Qf QB X3 Km Zw Jv ZV NE Qt Mj Vv AV.ren ZU Q9.ren Q9.like kept X7 Zr AV.F7 ZC Jp JD Qo Hw AS.F7 Xf T9 Q9.F7 Sz FV Nat.ble_eq Ez E9 U6 D.U7 Xa Ij Rw H6 Ki XM O5 Bw Fx R8 Low ZX
abbrev wkO(c:Int):Q9:=.blk 102 [Iv c]
def TB(b:ByteArray×Tm):List D:=.str b.1::b.2.row
def WtN(N:Nat):Prop:=∀(t:Tm) (c:Int),t.Rt N->t.Ok->
 Z0 Tryz.prog 43 [.ptr 1000 0,Y3 t] [(1000,wkO c)] (Y3 (t.pl c).1) [(1000,wkO (t.pl c).2)]
theorem UH(N:Nat)(ih:WtN N)(l:List Tm)(c:Int)(hn:l.length<=6)(hl:∀x∈l,x.Rt N/\x.Ok):Z0 Tryz.prog 65 [.ptr 1000 0,La (l.map Tm.row)] [(1000,wkO c)] (.tuple [La ((Tm.ats l c).1.map Tm.row),La ((Tm.ats l c).2.1.map TB)]) [(1000,wkO (Tm.ats l c).2.2)]:=by
 obtain⟨R,hR⟩:∃R,R=Tm.ats l c:=⟨_,rfl⟩
 rw[<-hR];refine Z0.of Tryz.func65 rfl rfl (Nat.le_of_ble_eq_true rfl) ?_;show X8 _ _ (Qz _ Tryz.f65 _ _) (X7 53 _ _);refine Wr ?_;refine Wr ?_;refine Wr ?_;refine Wr ?_;refine Wb ?_;refine X8.le (Le.low [400,401] [] (fr:=[(0,.ptr 1000 0),(6,.arr 400 0 ([]:List Tm).length),(7,.arr 401 0 ([]:Bs).length),(11,La (l.map Tm.row)),(12,Iv (l.length:Int)),(13,Iv (0:Int))]) (mem:=[(400,some (.arr 54 7 (([]:List Tm).map Tm.row))),(401,some (.arr 151 8 (([]:Bs).map TB))),(1000,some (.blk 102 [Iv (c:Int)]))]) rfl (by simp) (by simp)) ?_;refine Wl (σ:=λu:{u:Nat×List Tm×Bs×Int // u.1<=l.length/\(Tm.ats l c=(u.2.1++(Tm.ats (l.drop u.1) u.2.2.2).1,u.2.2.1++(Tm.ats (l.drop u.1) u.2.2.2).2.1,(Tm.ats (l.drop u.1) u.2.2.2).2.2)/\u.2.1.length=u.1/\u.2.2.1.length<=u.1)}=>⟨53,[(0,.ptr 1000 0),(6,.arr 400 0 u.1.2.1.length),(7,.arr 401 0 u.1.2.2.1.length),(11,La (l.map Tm.row)),(12,Iv (l.length:Int)),(13,Iv (u.1.1:Int))],[(400,some (.arr 54 7 (u.1.2.1.map Tm.row))),(401,some (.arr 151 8 (u.1.2.2.1.map TB))),(1000,some (.blk 102 [Iv u.1.2.2.2]))]⟩)
  (μ:=λu=>l.length-u.1.1) ⟨(0,[],[],c),⟨Nat.zero_le _,⟨by simp,rfl,Nat.le_refl _⟩⟩⟩ (Le.sub (by simp) (by simp)) (λ⟨(i,vs,bs,k),⟨a5,hw⟩⟩=>?_)
 dsimp only at a5 hw⊢;refine Wr ?_;refine Wb ?_;refine Wc rfl (λJ=>?_) (λJ=>?_)
 ·have g:i<l.length:=by have:=of_decide_eq_true J;omega
  clear J;have P:l[i]? =some l[i]:=List.getElem?_eq_getElem g;have T:l[i]∈l:=List.getElem_mem g;have U:l.drop i=l[i]::l.drop (i+1):=List.drop_eq_getElem_cons g;generalize l[i]=y at P T U;obtain⟨f,j,a6⟩:=hw;rw[U,Tm.ats]at f;obtain⟨a7,a8⟩:=hl y T;obtain⟨yk,yn,ya,yb,t,C,I⟩:=y;rw[Tm.tk]at f;refine Ws ?_;refine Wr ?_ (r:=by conv=>lhs;simp[Tm.row,Tm.Q3,Cs.Q3,P]);by_cases q1:yk=1
  ·refine Wr ?_ (r:=by conv=>lhs;simp[q1]);refine Wy ?_;subst q1;rw[if_pos rfl]at f;refine Wr ?_;refine We ?_;refine Wr ?_;refine⟨⟨(i+1,vs++[.mk 1 yn ya yb t C I],bs,k),g,⟨by rw[f];simp,by simp[j],by dsimp only;omega⟩⟩,by simp;omega,?_⟩;dsimp only;exact Le.sub (by simp[j]) (by simp[Tm.row,Tm.Q3,Cs.Q3])
  refine Wr ?_ (r:=by conv=>lhs;simp[q1]);refine Wn ?_;refine Ws ?_;rw[if_neg q1]at f;obtain⟨e,he⟩:∃e:Int,wr (k+1)=e:=⟨_,rfl⟩
  rw[he]at f;have a1:P7 e:=by rw[<-he];exact JB _
  have a9:=MN e a1;have b0:=Ew a1;have b1:(⟨#[119]⟩:ByteArray).size=1:=rfl;have hx:=ih (.mk yk yn ya yb t C I) e a7 a8;generalize(Tm.mk yk yn ya yb t C I).pl e=o at hx f;obtain⟨z,c2⟩:=o;dsimp only at hx f;obtain⟨zk,zn,za,zb,a2,a3,a4⟩:=z;refine Wg [4] [] ?_ (hr:=by conv=>lhs;simp[he]);refine Wg [] [.p (λ_=>Sv (Mv e)) none] ?_ (hr:=by conv=>lhs;simp[Xk9]);obtain⟨s,hs⟩:∃s,s=⟨#[119]⟩++Mv e:=⟨_,rfl⟩
  rw[<-hs];rw[TH,<-hs]at f;refine Wg [] [.c [] [.ptr 1000 0,.agg [Iv yk,Iv yn,Sv ya,Sv yb,.d (Q6 t),La (C.map Tm.row),La (I.map Cs.row)]] [(1000,.blk 102 [Iv e])] (.agg [Iv zk,Iv zn,Sv za,Sv zb,.d (Q6 a2),La (a3.map Tm.row),La (a4.map Cs.row)]) [(1000,.blk 102 [Iv c2])]] ?_;refine Wr ?_;refine Wr ?_;refine⟨⟨(i+1,vs++[.mk 1 0 s .empty [] [] []],bs++[(s,.mk zk zn za zb a2 a3 a4)],c2),g,⟨by rw[f];simp[Lm],by simp[j],by dsimp only;simp;omega⟩⟩,by simp;omega,?_⟩;dsimp only;exact Le.sub (by simp[j]) (by simp[TB,Tm.row,Tm.Q3,Cs.Q3])
 have g:i=l.length:=by have:=of_decide_eq_false J;omega
 subst g;clear J;obtain⟨f,j,a6⟩:=hw;rw[List.drop_length,Tm.ats]at f;simp only[List.append_nil]at f;rw[f]at hR;try dsimp only at hR
 subst hR;refine We ?_;refine Wr ?_;refine Wt ?_;try dsimp only[Q8,Q5]
 apply Qz.JW [400,401]
 ·rfl
 ·conv=>lhs;simp
 ·conv=>lhs;simp[Q7,Tryz.results65]
 ·rfl
 ·simp[Qq,Q4]
theorem YJ(f:Bs)(tk P:Int)(T tb:ByteArray)(g:List ByteArray)(i:List Tm)(l:List Cs)(hn:f.length<=6):Qv Tryz.prog 66 [La (f.map TB),Y3 (.mk tk P T tb g i l)] (λ_=>Y3 (around f (.mk tk P T tb g i l))) none:=by
 obtain⟨R,hR⟩:∃R,R=around f (.mk tk P T tb g i l):=⟨_,rfl⟩
 rw[<-hR];obtain⟨rk,rn,ra,rb,a5,a6,a7⟩:=R;refine Qv.of Tryz.func66 rfl rfl rfl (Nat.le_of_ble_eq_true rfl) ?_;show X8 _ _ (Z7 _ Tryz.f66 _ _ _) (Z6 27 _);refine Wr ?_;refine Wr ?_;refine Wb ?_;refine Wl (σ:=λu:{u:Nat×Int×Int×ByteArray×ByteArray×List ByteArray×List Tm×List Cs // (around f (.mk tk P T tb g i l)=around (f.take u.1) (.mk u.2.1 u.2.2.1 u.2.2.2.1 u.2.2.2.2.1 u.2.2.2.2.2.1 u.2.2.2.2.2.2.1 u.2.2.2.2.2.2.2)/\u.1<=f.length)}=>⟨27,[(0,La (f.map TB)),(3,.ptr 3 0),(4,.ptr 4 0),(5,Iv ((u.1.1:Int)-1))],[(3,some (.blk 54 [Iv u.1.2.1,Iv u.1.2.2.1,Sv u.1.2.2.2.1,Sv u.1.2.2.2.2.1,.d (Q6 u.1.2.2.2.2.2.1),La (u.1.2.2.2.2.2.2.1.map Tm.row),La (u.1.2.2.2.2.2.2.2.map Cs.row)])),(4,some (.blk 54 [Iv 0,Iv 0,Sv .empty,Sv .empty,.lit (.slice none 0 0),.lit (.slice none 0 0),.lit (.slice none 0 0)]))]⟩)
  (μ:=λu=>u.1.1) ⟨(f.length,tk,P,T,tb,g,i,l),⟨by rw[List.take_length],Nat.le_refl _⟩⟩ (Le.sub (by simp) (by simp)) (λ⟨(j0,zk,zn,za,zb,t,C,I),o⟩=>?_)
 dsimp only at o⊢;obtain⟨o,hj⟩:=o;rcases j0 with _|j
 ·rw[show((0:Nat):Int)-1= -1 from rfl];refine Wr ?_;refine Wn ?_;refine We ?_;rw[List.take_zero]at o;obtain⟨rfl,rfl,rfl,rfl,rfl,rfl,rfl⟩:zk=rk/\zn=rn/\za=ra/\zb=rb/\t=a5/\C=a6/\I=a7:=by simpa[around]using (hR.trans o).symm
  refine Wr ?_;refine Wt ?_;try dsimp only[Q8,Q5]
  apply Z7.ret
  ·rfl
  ·conv=>lhs;simp[Q7,Tryz.results66]
  first|rfl|simp[Zv,Y3]
 rw[show((j+1:Nat):Int)-1=(j:Int)by omega];have U:=eq_true (Int.natCast_nonneg j);have a8:j<f.length:=oM;have J:f[j]? =some f[j]:=List.getElem?_eq_getElem a8;have a1:f.take (j+1)=f.take j++[f[j]]:=by rw[List.take_add_one,J];rfl
 generalize f[j]=p at J a1;obtain⟨bn,xk,xn,xa,xb,a2,a3,a4⟩:=p;rw[a1,KE]at o;dsimp only[around]at o;refine Wr ?_ (r:=by conv=>lhs;simp[U]);refine Wy ?_;refine Ws ?_;refine Wz [11] [] mixed ?_ (hr:=by conv=>lhs;simp[Tm.row,Tm.Q3,Cs.Q3,TB,J,U]);refine Wb ?_;refine X8.le (Le.low [] [] (fr:=[(0,La (f.map TB)),(3,.ptr 3 0),(4,.ptr 4 0),(5,Iv (j:Int))]) (mem:=[(3,some (.blk 54 [Iv 6,Iv 0,Sv bn,Sv .empty,La [],La [[.int xk,.int xn,.str xa,.str xb,Q6 a2,.sl (a3.map Tm.row),.sl (a4.map Cs.row)],[.int zk,.int zn,.str za,.str zb,Q6 t,.sl (C.map Tm.row),.sl (I.map Cs.row)]],La []])),(4,some (.blk 54 [Iv 0,Iv 0,Sv .empty,Sv .empty,.lit (.slice none 0 0),.lit (.slice none 0 0),.lit (.slice none 0 0)]))]) rfl (by simp) (by simp)) ?_;refine Wr ?_;refine⟨⟨(j,6,0,bn,.empty,[],[.mk xk xn xa xb a2 a3 a4,.mk zk zn za zb t C I],[]),⟨o,oM⟩⟩,by simp only[];omega,?_⟩;dsimp only;exact Le.sub (by simp) (by simp[Tm.row,Tm.Q3,Cs.Q3,Q6])
theorem ZN:∀(l:List Tm) (c:Int),(Tm.ats l c).2.1.length<=l.length
 |[],_=>Nat.le_refl _
 |x::r,c=>by
  rw[Tm.ats];split
  ·have:=ZN r c;simp;omega
  ·have:=ZN r (x.pl (wr (c+1))).2;simp;omega
theorem Zx0(N:Nat)(ih:WtN N):WtN (N+1):=by
 intro t c b8 hO;obtain⟨R,j⟩:∃R,R=t.pl c:=⟨_,rfl⟩
 rw[<-j];obtain⟨tk,tn,ta,tb,b9,g,f⟩:=t;obtain⟨d7,a2,h6,a3,a8⟩:=b8;have a4:∀x∈g,x.Ok:=λx hx=>Tm.Xz.1 hO.2.2.1 x hx
 have c0:∀d∈f,d.3.Rt N/\d.3.Ok:=λd hd=>⟨(a8 d hd).2,by
  obtain⟨dt,a9,y⟩:=d;exact(Cs.Xz.1 hO.2.2.2 _ hd).2.2⟩
 refine Z0.of Tryz.func43 rfl rfl (Nat.le_of_ble_eq_true rfl) ?_;show X8 _ _ (Qz _ Tryz.f43 _ _) (X7 92 _ _);refine Wr ?_;refine Wr ?_;by_cases q1:tk=3
 ·refine Wr ?_ (r:=by conv=>lhs;simp[q1]);refine Wy ?_;refine Ws ?_;refine Wy ?_;subst q1;rw[Tm.pl,if_pos oM]at j;have T:=UH N ih g c oM (λx hx=>⟨a3 x hx,a4 x hx⟩);have U:=ZN g c;generalize Tm.ats g c=o at T j U;obtain⟨vs,bs,c2⟩:=o;dsimp only at T j U;have C:=YJ bs 3 tn ta .empty [] vs [] oM;generalize around bs (.mk 3 tn ta .empty [] vs [])=z at C j;subst j;obtain⟨zk,zn,za,zb,I,J,P⟩:=z;replace C:=Qv.Gl (args:=[La (bs.map TB),.agg [Iv 3,Iv tn,Sv ta,Sv .empty,.lit (.slice none 0 0),La (vs.map Tm.row),.lit (.slice none 0 0)]]) C;refine Wg [] [.c [] [.ptr 1000 0,La (g.map Tm.row)] [(1000,.blk 102 [Iv c])] (.tuple [La (vs.map Tm.row),La (bs.map TB)]) [(1000,.blk 102 [Iv c2])]] ?_;refine Wg [] [.p (λ_=>.agg [Iv zk,Iv zn,Sv za,Sv zb,.d (Q6 I),La (J.map Tm.row),La (P.map Cs.row)]) none] ?_;refine Wt ?_;try dsimp only[Q8,Q5]
  apply Qz.ret
  ·rfl
  ·conv=>lhs;simp[Q7,Tryz.results43]
  ·first|rfl|simp[Zv,Y3,Tm.row,Tm.Q3,Cs.Q3,AV.Jk,K5,Q6]
  ·simp[Qq,Q4]
 refine Wr ?_ (r:=by conv=>lhs;simp[q1]);refine Wn ?_;by_cases q2:tk=4
 ·refine Wr ?_ (r:=by conv=>lhs;simp[q2]);refine Wy ?_;refine Ws ?_;refine Wy ?_;subst q2;rw[Tm.pl,if_pos oM]at j;have T:=UH N ih g c oM (λx hx=>⟨a3 x hx,a4 x hx⟩);have U:=ZN g c;generalize Tm.ats g c=o at T j U;obtain⟨vs,bs,c2⟩:=o;dsimp only at T j U;have C:=YJ bs 4 tn ta .empty [] vs [] oM;generalize around bs (.mk 4 tn ta .empty [] vs [])=z at C j;subst j;obtain⟨zk,zn,za,zb,I,J,P⟩:=z;replace C:=Qv.Gl (args:=[La (bs.map TB),.agg [Iv 4,Iv tn,Sv ta,Sv .empty,.lit (.slice none 0 0),La (vs.map Tm.row),.lit (.slice none 0 0)]]) C;refine Wg [] [.c [] [.ptr 1000 0,La (g.map Tm.row)] [(1000,.blk 102 [Iv c])] (.tuple [La (vs.map Tm.row),La (bs.map TB)]) [(1000,.blk 102 [Iv c2])]] ?_;refine Wg [] [.p (λ_=>.agg [Iv zk,Iv zn,Sv za,Sv zb,.d (Q6 I),La (J.map Tm.row),La (P.map Cs.row)]) none] ?_;refine Wt ?_;try dsimp only[Q8,Q5]
  apply Qz.ret
  ·rfl
  ·conv=>lhs;simp[Q7,Tryz.results43]
  ·first|rfl|simp[Zv,Y3,Tm.row,Tm.Q3,Cs.Q3,AV.Jk,K5,Q6]
  ·simp[Qq,Q4]
 refine Wr ?_ (r:=by conv=>lhs;simp[q2]);refine Wn ?_;by_cases q3:tk=5
 ·refine Wr ?_ (r:=by conv=>lhs;simp[q3]);refine Wy ?_;subst q3;rw[Tm.pl,if_pos oM]at j;have T:=UH N ih g c oM (λx hx=>⟨a3 x hx,a4 x hx⟩);have U:=ZN g c;generalize Tm.ats g c=o at T j U;obtain⟨vs,bs,c2⟩:=o;dsimp only at T j U;have C:=YJ bs 5 tn ta .empty [] vs [] oM;generalize around bs (.mk 5 tn ta .empty [] vs [])=z at C j;subst j;obtain⟨zk,zn,za,zb,I,J,P⟩:=z;replace C:=Qv.Gl (args:=[La (bs.map TB),.agg [Iv 5,Iv tn,Sv ta,Sv .empty,.lit (.slice none 0 0),La (vs.map Tm.row),.lit (.slice none 0 0)]]) C;refine Wg [] [.c [] [.ptr 1000 0,La (g.map Tm.row)] [(1000,.blk 102 [Iv c])] (.tuple [La (vs.map Tm.row),La (bs.map TB)]) [(1000,.blk 102 [Iv c2])]] ?_;refine Wg [] [.p (λ_=>.agg [Iv zk,Iv zn,Sv za,Sv zb,.d (Q6 I),La (J.map Tm.row),La (P.map Cs.row)]) none] ?_;refine Wt ?_;try dsimp only[Q8,Q5]
  apply Qz.ret
  ·rfl
  ·conv=>lhs;simp[Q7,Tryz.results43]
  ·first|rfl|simp[Zv,Y3,Tm.row,Tm.Q3,Cs.Q3,AV.Jk,K5,Q6]
  ·simp[Qq,Q4]
 refine Wr ?_ (r:=by conv=>lhs;simp[q3]);refine Wn ?_;by_cases q4:tk=6
 ·refine Wr ?_ (r:=by conv=>lhs;simp[q4]);refine Wy ?_;subst q4;have a6:g.length=2/\f=[]:=by
   unfold Xx at a2;simp at a2;exact a2
  obtain⟨a6,rfl⟩:=a6;obtain⟨x,y,rfl⟩:∃x y,g=[x,y]:=by
   rcases g with _|⟨x,_|⟨y,_|⟨z,l⟩⟩⟩
   ·cases a6
   ·cases a6
   ·exact⟨x,y,rfl⟩
   ·simp at a6
  have b0:=ih x c (a3 x (by simp)) (a4 x (by simp));rw[Tm.pl,if_neg oM,if_pos rfl,Tm.M5,Tm.M5,Tm.M5]at j;dsimp only at j;generalize x.pl c=o at b0 j;obtain⟨z,c1⟩:=o;dsimp only at b0 j;have b1:=ih y c1 (a3 y (by simp)) (a4 y (by simp));generalize y.pl c1=o at b1 j;obtain⟨u,c2⟩:=o;dsimp only at b1 j;subst j;obtain⟨xk,xn,xa,xb,c5,c6,c7⟩:=x;obtain⟨yk,yn,ya,yb,c8,c9,d0⟩:=y;obtain⟨zk,zn,za,zb,I,J,P⟩:=z;obtain⟨uk,un,ua,ub,d1,d2,d3⟩:=u;refine Wg [] [.c [] [.ptr 1000 0,.agg [Iv xk,Iv xn,Sv xa,Sv xb,.d (Q6 c5),La (c6.map Tm.row),La (c7.map Cs.row)]] [(1000,.blk 102 [Iv c])] (.agg [Iv zk,Iv zn,Sv za,Sv zb,.d (Q6 I),La (J.map Tm.row),La (P.map Cs.row)]) [(1000,.blk 102 [Iv c1])]] ?_ (hr:=by conv=>lhs;simp[Tm.row,Tm.Q3,Cs.Q3]);refine Wz [9] [.c [] [.ptr 1000 0,.agg [Iv yk,Iv yn,Sv ya,Sv yb,.d (Q6 c8),La (c9.map Tm.row),La (d0.map Cs.row)]] [(1000,.blk 102 [Iv c1])] (.agg [Iv uk,Iv un,Sv ua,Sv ub,.d (Q6 d1),La (d2.map Tm.row),La (d3.map Cs.row)]) [(1000,.blk 102 [Iv c2])]] mixed ?_;refine Wt ?_;try dsimp only[Q8,Q5]
  apply Qz.ret
  ·rfl
  ·conv=>lhs;simp[Q7,Tryz.results43]
  ·first|rfl|simp[Zv,Tm.row,Tm.Q3,Cs.Q3,AV.Jk,K5,Q6]
  ·simp[Qq,Q4]
 refine Wr ?_ (r:=by conv=>lhs;simp[q4]);refine Wn ?_;by_cases q5:tk=7
 ·refine Wr ?_ (r:=by conv=>lhs;simp[q5]);refine Wy ?_;subst q5;rw[Tm.pl,if_neg oM,if_neg oM,if_pos rfl]at j;have T:=UH N ih g c oM (λx hx=>⟨a3 x hx,a4 x hx⟩);have U:=ZN g c;generalize Tm.ats g c=o at T j U;obtain⟨vs,bs,c2⟩:=o;dsimp only at T j U;refine Wg [] [.c [] [.ptr 1000 0,La (g.map Tm.row)] [(1000,.blk 102 [Iv c])] (.tuple [La (vs.map Tm.row),La (bs.map TB)]) [(1000,.blk 102 [Iv c2])]] ?_;refine Wr ?_;refine Wr ?_;refine Wb ?_;refine X8.le (Le.low [400] [] (fr:=[(0,.ptr 1000 0),(4,.ptr 4 0),(9,La (bs.map TB)),(10,.ptr 10 0),(67,La (f.map Cs.row)),(68,Iv (f.length:Int)),(69,Iv (0:Int))]) (mem:=[(4,some (.blk 54 [Iv 0,Iv 0,Sv .empty,Sv .empty,.lit (.slice none 0 0),.lit (.slice none 0 0),.lit (.slice none 0 0)])),(10,some (.blk 54 [Iv 7,Iv 0,Sv .empty,Sv .empty,.lit (.slice none 0 0),La (vs.map Tm.row),.arr 400 0 ([]:List Cs).length])),(400,some (.arr 87 9 (([]:List Cs).map Cs.row))),(1000,some (.blk 102 [Iv (c2:Int)]))]) rfl (by simp) (by simp)) ?_;refine Wl (σ:=λu:{u:Nat×List Cs×Int // u.1<=f.length/\(Cs.M5 f c2=(u.2.1++(Cs.M5 (f.drop u.1) u.2.2).1,(Cs.M5 (f.drop u.1) u.2.2).2)/\u.2.1.length=u.1)}=>⟨92,[(0,.ptr 1000 0),(4,.ptr 4 0),(9,La (bs.map TB)),(10,.ptr 10 0),(67,La (f.map Cs.row)),(68,Iv (f.length:Int)),(69,Iv (u.1.1:Int))],[(4,some (.blk 54 [Iv 0,Iv 0,Sv .empty,Sv .empty,.lit (.slice none 0 0),.lit (.slice none 0 0),.lit (.slice none 0 0)])),(10,some (.blk 54 [Iv 7,Iv 0,Sv .empty,Sv .empty,.lit (.slice none 0 0),La (vs.map Tm.row),.arr 400 0 u.1.2.1.length])),(400,some (.arr 87 9 (u.1.2.1.map Cs.row))),(1000,some (.blk 102 [Iv u.1.2.2]))]⟩)
   (μ:=λu=>f.length-u.1.1) ⟨(0,[],c2),⟨Nat.zero_le _,⟨by simp,rfl⟩⟩⟩ (Le.sub (by simp) (by simp)) (λ⟨(i,ds,c3),⟨b2,hw⟩⟩=>?_)
  dsimp only at b2 hw⊢;refine Wr ?_;refine Wb ?_;refine Wc rfl (λhc=>?_) (λhc=>?_)
  ·have a5:i<f.length:=by have:=of_decide_eq_true hc;omega
   clear hc;have b3:f[i]? =some f[i]:=List.getElem?_eq_getElem a5;have b4:f[i]∈f:=List.getElem_mem a5;have b5:f.drop i=f[i]::f.drop (i+1):=List.drop_eq_getElem_cons a5;generalize f[i]=d at b3 b4 b5;obtain⟨a1,a7⟩:=hw;rw[b5,Cs.M5]at a1;obtain⟨b6,b7⟩:=c0 d b4;obtain⟨dt,a9,y⟩:=d;try dsimp only at b6 b7
   rw[Cs.pl]at a1;have hx:=ih y c3 b6 b7;generalize y.pl c3=o at hx a1;obtain⟨z,c4⟩:=o;dsimp only at hx a1;obtain⟨dk,dn,da,db,d4,d5,d6⟩:=y;obtain⟨zk,zn,za,zb,I,J,P⟩:=z;refine Ws ?_;refine Wr ?_ (r:=by conv=>lhs;simp[Tm.row,Tm.Q3,Cs.Q3,b3,Cs.row]);refine Wz [] [.c [] [.ptr 1000 0,.agg [Iv dk,Iv dn,Sv da,Sv db,.d (Q6 d4),La (d5.map Tm.row),La (d6.map Cs.row)]] [(1000,.blk 102 [Iv c3])] (.agg [Iv zk,Iv zn,Sv za,Sv zb,.d (Q6 I),La (J.map Tm.row),La (P.map Cs.row)]) [(1000,.blk 102 [Iv c4])]] mixed ?_;refine Wr ?_;refine⟨⟨(i+1,ds++[.mk dt a9 (.mk zk zn za zb I J P)],c4),a5,⟨by rw[a1];simp,by simp[a7]⟩⟩,by simp;omega,?_⟩;dsimp only;exact Le.sub (by simp) (by simp[Cs.row,Tm.row,Tm.Q3,Cs.Q3,a7])
  have a5:i=f.length:=by have:=of_decide_eq_false hc;omega
  subst a5;clear hc;obtain⟨a1,a7⟩:=hw;rw[List.drop_length,Cs.M5]at a1;simp only[List.append_nil]at a1;rw[a1]at j;try dsimp only at j
  have C:=YJ bs 7 0 .empty .empty [] vs ds oM;generalize around bs (.mk 7 0 .empty .empty [] vs ds)=z at C j;subst j;obtain⟨zk,zn,za,zb,I,J,P⟩:=z;replace C:=Qv.Gl (args:=[La (bs.map TB),.agg [Iv 7,Iv 0,Sv .empty,Sv .empty,.lit (.slice none 0 0),La (vs.map Tm.row),La (ds.map Cs.row)]]) C;have d8:List.take f.length (List.map Cs.row ds)=List.map Cs.row ds:=List.take_of_length_le (by simp;omega);refine We ?_;apply X8.Hw [400]
  ·conv=>lhs;simp
  refine Wg [] [.p (λ_=>.agg [Iv zk,Iv zn,Sv za,Sv zb,.d (Q6 I),La (J.map Tm.row),La (P.map Cs.row)]) none] ?_;refine Wt ?_;try dsimp only[Q8,Q5]
  apply Qz.ret
  ·rfl
  ·conv=>lhs;simp[Q7,Tryz.results43]
  ·first|rfl|simp[Zv,Y3,Tm.row,Tm.Q3,Cs.Q3,AV.Jk,K5,Q6]
  ·simp[Qq,Q4]
 refine Wr ?_ (r:=by conv=>lhs;simp[q5]);refine Wn ?_;refine Ws ?_;obtain rfl:R=(.mk tk tn ta tb b9 g f,c):=by rw[j,Tm.pl,if_neg oM,if_neg oM,if_neg oM]
 refine Wr ?_;refine Wt ?_;try dsimp only[Q8,Q5]
 apply Qz.ret
 ·rfl
 ·conv=>lhs;simp[Q7,Tryz.results43]
 ·first|rfl|simp[Zv,Y3,Tm.row,Tm.Q3,Cs.Q3,AV.Jk,K5,Q6]
 ·simp[Qq,Q4]
theorem Ou:∀N,WtN N
 |0=>λ_ _ h=>h.elim
 |N+1=>Zx0 N (Ou N)
theorem Fn.Zl(f:Fn)(hr:f.body.Rt 25):f.rn.body.Rt 25:=Go.Proofs.YtnddiddkmhiclaaGreatDoor.Zl 25 f.body _ _ hr
theorem Qq8(f:Fn)(T:f.body.Ok)(hr:f.body.Rt 25)(hp:f.params.length<=6):Qv Tryz.prog 21 [XN f] (λ_=>XN f.pl) none:=by
 have U:=Qz0 f T hr hp;have t:=Ou 25 f.rn.body 0 (f.Zl hr) (f.BG T hr);unfold Fn.pl;generalize f.rn=g at U t⊢;obtain⟨gg,C,gy⟩:=g;dsimp only at t⊢;generalize gy.pl 0=o at t⊢;obtain⟨z,c2⟩:=o;dsimp only at t⊢;obtain⟨fg,a1,⟨fk,fn,fa,fb,a2,a3,a4⟩⟩:=f;obtain⟨gk,gn,ga,gb,i,j,l⟩:=gy;obtain⟨zk,zn,za,zb,I,J,P⟩:=z;dsimp only[XN]at U;refine Qv.of Tryz.func21 rfl rfl rfl (Nat.le_of_ble_eq_true rfl) ?_;show X8 _ _ (Z7 _ Tryz.f21 _ _ _) (Z6 13 _);refine Wr ?_ (r:=by conv=>lhs;simp[XN]);refine Wg [] [.p (λ_=>.agg [Sv gg,.d (Q6 C),Iv gk,Iv gn,Sv ga,Sv gb,.d (Q6 i),La (j.map Tm.row),La (l.map Cs.row)]) none] ?_;refine Wg [] [.c [(1000,7)] [.ptr 1000 0,.agg [Iv gk,Iv gn,Sv ga,Sv gb,.d (Q6 i),La (j.map Tm.row),La (l.map Cs.row)]] [(1000,.blk 102 [Iv 0])] (.agg [Iv zk,Iv zn,Sv za,Sv zb,.d (Q6 I),La (J.map Tm.row),La (P.map Cs.row)]) [(1000,.blk 102 [Iv c2])]] ?_;refine Wr ?_;refine Wt ?_;try dsimp only[Q8,Q5]
 apply Z7.ret
 ·rfl
 ·conv=>lhs;simp[Q7,Tryz.results21]
 rfl
theorem XY(l:List Fn)(hl:l.length<=879609302220)(o:∀f∈l,f.body.Ok/\f.body.Rt 25/\f.params.length<=6):Qv Tryz.prog 20 [F4 l,.d (.fn 21)] (λ_=>F4 (l.map Fn.pl)) none:=by
 obtain⟨G,hG⟩:∃G,G=l.map Fn.pl:=⟨_,rfl⟩
 rw[<-hG];refine Qv.of Tryz.func20 rfl rfl rfl (Nat.le_of_ble_eq_true rfl) ?_;show X8 _ _ (Z7 _ Tryz.f20 _ _ _) (Z6 22 _);refine Wr ?_;refine Wr ?_;refine Wr ?_;refine Wb ?_;refine X8.le (Le.low [400] [] (fr:=[(1,.d (.fn 21)),(5,.arr 400 0 ([]:List Fn).length),(8,La (l.map Fn.row)),(9,Iv (l.length:Int)),(10,Iv (0:Int))]) (mem:=[(400,some (.arr 56 9 (([]:List Fn).map Fn.row)))]) rfl (by simp) (by simp)) ?_;refine Wl (σ:=λu:{u:Nat×List Fn // u.1<=l.length/\u.2=(l.take u.1).map Fn.pl}=>⟨22,[(1,.d (.fn 21)),(5,.arr 400 0 u.1.2.length),(8,La (l.map Fn.row)),(9,Iv (l.length:Int)),(10,Iv (u.1.1:Int))],[(400,some (.arr 56 9 (u.1.2.map Fn.row)))]⟩)
  (μ:=λu=>l.length-u.1.1) ⟨(0,[]),⟨Nat.zero_le _,by simp⟩⟩ (Le.sub (by simp) (by simp)) (λ⟨(i,gs),⟨a1,t⟩⟩=>?_)
 dsimp only at a1 t⊢;refine Wr ?_;refine Wb ?_;refine Wc rfl (λC=>?_) (λC=>?_)
 ·have g:i<l.length:=by have:=of_decide_eq_true C;omega
  clear C;have j:l[i]? =some l[i]:=List.getElem?_eq_getElem g;have I:l[i]∈l:=List.getElem_mem g;have a2:l.drop i=l[i]::l.drop (i+1):=List.drop_eq_getElem_cons g;generalize l[i]=f at j I a2;have a3:gs.length=i:=by rw[t,List.length_map,List.length_take];omega
  obtain⟨k1,k2,k3⟩:=o f I;have hx:=Qq8 f k1 k2 k3;generalize hz:f.pl=z at hx;obtain⟨fg,a4,⟨fk,fn,fa,fb,a5,a6,a7⟩⟩:=f;obtain⟨zg,J,⟨zk,zn,za,zb,P,T,U⟩⟩:=z;dsimp only[XN]at hx;refine Ws ?_;refine Wr ?_ (r:=by conv=>lhs;simp[Fn.row,Tm.row,Tm.Q3,Cs.Q3,j]);refine Wg [] [.p (λ_=>.agg [Sv zg,.d (Q6 J),Iv zk,Iv zn,Sv za,Sv zb,.d (Q6 P),La (T.map Tm.row),La (U.map Cs.row)]) none] ?_;refine Wr ?_;refine⟨⟨(i+1,gs++[⟨zg,J,.mk zk zn za zb P T U⟩]),g,by rw[t,List.take_add_one,j,List.map_append,<-hz];rfl⟩,by simp;omega,?_⟩;dsimp only;exact Le.sub (by simp[a3]) (by simp[Fn.row,Tm.row,Tm.Q3,Cs.Q3])
 have g:i=l.length:=by have:=of_decide_eq_false C;omega
 subst g;clear C;rw[List.take_length]at t;obtain rfl:gs=G:=by rw[t,hG]
 refine We ?_;refine Wr ?_;refine Wt ?_;try dsimp only[Q8,Q5]
 apply Z7.JW [400]
 ·rfl
 ·conv=>lhs;simp
 ·conv=>lhs;simp[Q7,Tryz.results20]
 rfl
theorem EA{l:List Fn}{name:ByteArray}:(l.find? (λx=>NY x.name name)=none/\Yi l (λx=>NY x.name name)= -1)\/∃(x:Fn) (i:Nat),l.find? (λx=>NY x.name name)=some x/\x∈l/\l[i]? =some x/\Yi l (λx=>NY x.name name)=i:=by
 unfold Yi;cases h:l.findIdx? (λx=>NY x.name name)with
 |none=>
  left;rw[List.findIdx?_eq_none_iff]at h;exact⟨List.find?_eq_none.2 λx g=>by rw[h x g];exact Bool.false_ne_true,rfl⟩
 |some i=>
  right;rw[List.findIdx?_eq_some_iff_getElem]at h;obtain⟨f,o,r⟩:=h;refine⟨l[i],i,?_,List.getElem_mem f,List.getElem?_eq_getElem f,rfl⟩;rw[List.find?_eq_some_iff_getElem];exact⟨o,i,f,rfl,λj t=>by simpa using r j t⟩
def DF(n:Int):List D:=[.int n]
abbrev Ci(l:List Int):AV:=La (l.map DF)
def CZ(n:Int):Vl:=.mk false (Qm n) []
noncomputable def Xx0 (g:Bool) (l:List Fn) (name:ByteArray) (args:List Int) (fuel:Int):Vl×Int:=
 if fuel<0\/300<fuel then (zeroV,3)else if (Qs g l 40 name (args.map CZ) fuel).2.2≠0 then (zeroV,(Qs g l 40 name (args.map CZ) fuel).2.2)
 else if 0<=(Qs g l 40 name (args.map CZ) fuel).1.left 1000 then ((Qs g l 40 name (args.map CZ) fuel).1,0)else (zeroV,4)
end
section
open Go.RowKit
theorem Rb:∀(bs:Bs) (t:Tm),(∀b∈bs,b.1.size<=140737488355328/\b.2.Ok)->t.Ok->(around bs t).Ok
 |[],_,_,h=>h
 |b::r,t,f,h=>by
  have g:=Rb r t (λx i=>f x (List.mem_cons_of_mem _ i)) h;obtain⟨j,l⟩:=f b (List.mem_cons_self ..);exact⟨⟨j,by simp,by simp⟩,⟨by simp,by simp,by simp⟩,⟨l,g,trivial⟩,trivial⟩
theorem Zx4{s:ByteArray}(h:s.size<=140737488355328):(Lm s).Ok:=
 ⟨⟨h,by simp,by simp⟩,⟨by simp,by simp,by simp⟩,trivial,trivial⟩
theorem BN:∀(d:Nat) (t:Tm) (c:Int),t.Rt d->t.Ok->(t.pl c).1.Ok:=by
 intro d;induction d with
 |zero=>intro t _ h;exact h.elim
 |succ d P=>
 intro t c hR hO;obtain⟨k,n,a,b,vs,xs,cs⟩:=t;obtain⟨_,_,_,hx,hc⟩:=hR;obtain⟨⟨T,o2,o3⟩,⟨o4,J,o6⟩,o7,o8⟩:=hO;have C:=Tm.Xz.1 o7;have U:=Cs.Xz.1 o8;have hA:∀(f:List Tm) (c:Int),(∀y∈f,y∈xs)->Tm.VI (Tm.ats f c).1/\∀b∈(Tm.ats f c).2.1,b.1.size<=140737488355328/\b.2.Ok:=by
  intro f;induction f with
  |nil=>intro c _;exact⟨trivial,λb h=>by simp[Tm.ats]at h⟩
  |cons y r l=>
   intro c o;have g:=o y (List.mem_cons_self ..);rw[Tm.ats];split
   ·obtain⟨i,j⟩:=l c λz I=>o z (List.mem_cons_of_mem _ I)
    exact⟨⟨C y g,i⟩,j⟩
   ·obtain⟨i,j⟩:=l (y.pl (wr (c+1))).2 λz I=>o z (List.mem_cons_of_mem _ I)
    refine⟨⟨Zx4 (OH _),i⟩,λb hb=>?_⟩;rcases List.mem_cons.1 hb with rfl|hb
    ·exact⟨OH _,P y _ (hx y g) (C y g)⟩
    ·exact j b hb
 have hL:∀(f:List Tm) (c:Int),(∀y∈f,y∈xs)->Tm.VI (Tm.M5 f c).1/\(Tm.M5 f c).1.length=f.length:=by
  intro f;induction f with
  |nil=>intro c _;exact⟨trivial,rfl⟩
  |cons y r l=>
   intro c o;have g:=o y (List.mem_cons_self ..);obtain⟨i,j⟩:=l (y.pl c).2 λz I=>o z (List.mem_cons_of_mem _ I)
   rw[Tm.M5];exact⟨⟨P y c (hx y g) (C y g),i⟩,by simp[j]⟩
 have hC:∀(f:List Cs) (c:Int),(∀y∈f,y∈cs)->Cs.VI (Cs.M5 f c).1/\(Cs.M5 f c).1.length=f.length:=by
  intro f;induction f with
  |nil=>intro c _;exact⟨trivial,rfl⟩
  |cons y r l=>
   intro c o;have g:=o y (List.mem_cons_self ..);obtain⟨i,j⟩:=l (y.pl c).2 λz I=>o z (List.mem_cons_of_mem _ I)
   obtain⟨t,ws,y⟩:=y;obtain⟨_,a1⟩:=hc _ g;obtain⟨p1,p2,p3⟩:=U _ g;rw[Cs.M5];rw[Cs.pl]at i j⊢;exact⟨⟨⟨p1,p2,P y c a1 p3⟩,i⟩,by simp[j]⟩
 rw[Tm.pl];split
 ·obtain⟨i,j⟩:=hA xs c λy g=>g
  refine Rb _ _ j ⟨⟨T,by simp,by simp⟩,⟨by simp,by rw[UQ];exact J,by simp⟩,i,trivial⟩
 split
 ·obtain⟨i,j⟩:=hL xs c λy g=>g
  exact⟨⟨T,by simp,by simp⟩,⟨by simp,by rw[j];exact J,by simp⟩,i,trivial⟩
 split
 ·obtain⟨i,j⟩:=hA xs c λy g=>g
  obtain⟨h3,h4⟩:=hC cs (Tm.ats xs c).2.2 λy g=>g
  exact Rb _ _ j ⟨⟨by simp,by simp,by simp⟩,⟨by simp,by rw[UQ];exact J,by rw[h4];exact o6⟩,i,h3⟩
 ·exact⟨⟨T,o2,o3⟩,⟨o4,J,o6⟩,o7,o8⟩
theorem Fn.BN(f:Fn)(g:f.body.Ok)(hr:f.body.Rt 25)(hp:f.params.length<=6):f.pl.body.Ok/\f.pl.params.length<=6:=
 ⟨Go.Proofs.YtnddiddkmhiclaaGreatDoor.BN 25 _ 0 (f.Zl hr) (f.BG g hr),by unfold Fn.pl Fn.rn;dsimp only;rw[Hq];exact hp⟩
mutual
def Tm.Gp:Tm->Bool
 | .mk k _ _ _ _ xs cs=>Tm.PU k xs && Cs.PU cs
def Tm.PU(k:Int):List Tm->Bool
 |[]=>true
 |x::r=>(if k=6 then x.Gp else decide (x.tk=1)) && Tm.PU k r
def Cs.PU:List Cs->Bool
 |[]=>true
 |c::r=>c.Gp && Cs.PU r
def Cs.Gp:Cs->Bool
 | .mk _ _ y=>y.Gp
end
def Tm.xs:Tm->List Tm
 | .mk _ _ _ _ _ xs _=>xs
def Tm.a0(t:Tm):Tm:=t.xs.headD t
mutual
def Tm.sr:Tm->List ByteArray->List ByteArray×Tm
 | .mk k n a b vs xs cs,f=>if k=8/\hasB f a=true then Tm.Bl xs (Rv f [a]) (.mk k n a b vs xs cs)else (f,.mk k n a b vs xs cs)
def Tm.Bl:List Tm->List ByteArray->Tm->List ByteArray×Tm
 |[],f,t=>(f,t)
 |x::_,f,_=>x.sr f
end
def Rq(k:Int)(na:Nat)(nm:ByteArray)(ws:List ByteArray)(body:Tm):Tm:=
 if ws.length≠0/\na=1/\k=7/\(body.sr ws).2.tk=9/\(body.sr ws).2.nm=nm then .mk 10 0 nm .empty ws [cnt 9 (body.sr ws).1 (body.sr ws).2.a0] []else body
mutual
def Tm.fu:Tm->Tm
 | .mk k n a b vs xs cs=>.mk k n a b vs (Tm.I9 xs) (Cs.I9 k xs.length (Xn xs) cs)
def Tm.I9:List Tm->List Tm
 |[]=>[]
 |x::r=>x.fu::Tm.I9 r
def Cs.I9(k:Int)(na:Nat)(nm:ByteArray):List Cs->List Cs
 |[]=>[]
 |c::r=>c.fu k na nm::Cs.I9 k na nm r
def Cs.fu(k:Int)(na:Nat)(nm:ByteArray):Cs->Cs
 | .mk t ws y=>.mk t ws (Rq k na nm ws y.fu)
end
theorem Tm.Aw:∀l:List Tm,Tm.I9 l=l.map Tm.fu
 |[]=>rfl
 |x::r=>by rw[Tm.I9,Tm.Aw r];rfl
theorem Cs.Aw(k:Int)(na:Nat)(nm:ByteArray):∀l:List Cs,Cs.I9 k na nm l=l.map (Cs.fu k na nm)
 |[]=>rfl
 |x::r=>by rw[Cs.I9,Cs.Aw k na nm r];rfl
theorem Tm.Aa(t:Tm):t.fu.nm=t.nm:=by
 obtain⟨k,n,a,b,vs,xs,cs⟩:=t;rw[Tm.fu];rfl
def Fn.fu(f:Fn):Fn:=⟨f.name,f.params,f.body.fu⟩
mutual
def Tm.Du:Tm->Prop
 | .mk k _ _ _ _ xs cs=>(k=8\/k=9->xs≠[])/\Tm.Lc xs/\Cs.Lc cs
def Tm.Lc:List Tm->Prop
 |[]=>True
 |x::r=>x.Du/\Tm.Lc r
def Cs.Lc:List Cs->Prop
 |[]=>True
 |c::r=>c.Du/\Cs.Lc r
def Cs.Du:Cs->Prop
 | .mk _ ws y=>ws.length<=6/\y.Du
end
theorem Tm.QO:∀{l:List Tm},Tm.Lc l<->∀x∈l,x.Du
 |[]=>by simp[Tm.Lc]
 |x::r=>by simp[Tm.Lc,Tm.QO (l:=r)]
theorem Cs.QO:∀{l:List Cs},Cs.Lc l<->∀x∈l,x.Du
 |[]=>by simp[Cs.Lc]
 |x::r=>by simp[Cs.Lc,Cs.QO (l:=r)]
theorem Tm.Du.a0{t:Tm}(h:t.Du):t.a0.Du:=by
 obtain⟨k,n,a,b,vs,xs,cs⟩:=t;unfold Tm.a0 Tm.xs;rcases xs with _|⟨x,r⟩
 ·exact h
 ·exact h.2.1.1
theorem Vr{k:Int}:∀(l:List ByteArray) {t:Tm},t.Du->(cnt k l t).Du
 |[],_,h=>h
 |s::r,t,h=>⟨λ_=>by simp,⟨Vr r h,trivial⟩,trivial⟩
theorem Vo{k:Int}:∀(l:List ByteArray) {t:Tm},(∀s∈l,s.size<=140737488355328)->t.Ok->(cnt k l t).Ok
 |[],_,_,h=>h
 |s::r,t,f,h=>⟨⟨f s (List.mem_cons_self ..),by simp,by simp⟩,⟨by simp,by simp,by simp⟩,⟨Vo r (λx g=>f x (List.mem_cons_of_mem _ g)) h,trivial⟩,trivial⟩
theorem Tm.Ok.a0{t:Tm}(h:t.Ok):t.a0.Ok:=by
 obtain⟨k,n,a,b,vs,xs,cs⟩:=t;unfold Tm.a0 Tm.xs;rcases xs with _|⟨x,r⟩
 ·exact h
 ·exact h.2.2.1.1
mutual
theorem Tm.Zd0:∀(t:Tm) (f:List ByteArray),t.Ok->t.Du->(t.sr f).2.Ok/\(t.sr f).2.Du/\∀s∈(t.sr f).1,s∈f
 | .mk k n a b vs xs cs,f,h,g=>by
  rw[Tm.sr];split
  ·obtain⟨j,o,C⟩:=Tm.Xz5 xs (Rv f [a]) (.mk k n a b vs xs cs) h g h.2.2.1 g.2.1;exact⟨j,o,λs i=>(List.mem_filter.1 (C s i)).1⟩
  ·exact⟨h,g,λs i=>i⟩
theorem Tm.Xz5:∀(l:List Tm) (f:List ByteArray) (t:Tm),t.Ok->t.Du->Tm.VI l->Tm.Lc l->(Tm.Bl l f t).2.Ok/\(Tm.Bl l f t).2.Du/\∀s∈(Tm.Bl l f t).1,s∈f
 |[],f,t,h,g,_,_=>by rw[Tm.Bl];exact⟨h,g,λs i=>i⟩
 |x::r,f,t,_,_,h,g=>by rw[Tm.Bl];exact Tm.Zd0 x f h.1 g.1
end
theorem Qg6{k:Int}{na:Nat}{nm:ByteArray}{ws:List ByteArray}{y:Tm}(h:y.Ok)(g:y.Du)(j:nm.size<=140737488355328)(i:∀s∈ws,s.size<=140737488355328)(f:ws.length<=8796093022207):(Rq k na nm ws y).Ok/\(Rq k na nm ws y).Du:=by
 obtain⟨l,o,r⟩:=Tm.Zd0 y ws h g;unfold Rq;split
 ·exact⟨⟨⟨j,by simp,i⟩,⟨f,by simp,by simp⟩,⟨Vo _ (λs t=>i s (r s t)) l.a0,trivial⟩,trivial⟩,⟨λ_=>by simp,⟨Vr _ o.a0,trivial⟩,trivial⟩⟩
 ·exact⟨h,g⟩
theorem Qv3{l:List Tm}(h:Tm.VI l):(Xn l).size<=140737488355328:=by
 rcases l with _|⟨x,r⟩
 ·simp[Xn]
 ·exact h.1.nm
mutual
theorem Tm.NQ:∀(t:Tm),t.Ok->t.Du->t.fu.Ok/\t.fu.Du
 | .mk k n a b vs xs cs,h,f=>by
  rw[Tm.fu];obtain⟨g,i,j⟩:=Tm.DN xs h.2.2.1 f.2.1;obtain⟨o,C,J⟩:=Cs.DN k xs.length (Xn xs) (Qv3 h.2.2.1) cs h.2.2.2 f.2.2;refine⟨⟨h.1,⟨h.2.1.1,by rw[j];exact h.2.1.2.1,by rw[J];exact h.2.1.2.2⟩,g,o⟩,λP e=>?_,i,C⟩;have:=f.1 P;rcases xs with _|⟨x,r⟩
  ·exact this rfl
  ·rw[Tm.I9]at e;cases e
theorem Tm.DN:∀(l:List Tm),Tm.VI l->Tm.Lc l->Tm.VI (Tm.I9 l)/\Tm.Lc (Tm.I9 l)/\(Tm.I9 l).length=l.length
 |[],_,_=>by rw[Tm.I9];exact⟨trivial,trivial,rfl⟩
 |x::r,h,f=>by
  obtain⟨g,i⟩:=Tm.NQ x h.1 f.1;obtain⟨j,o,C⟩:=Tm.DN r h.2 f.2;rw[Tm.I9];exact⟨⟨g,j⟩,⟨i,o⟩,by simp[C]⟩
theorem Cs.DN(k:Int)(na:Nat)(nm:ByteArray)(I:nm.size<=140737488355328):∀(l:List Cs),Cs.VI l->Cs.Lc l->Cs.VI (Cs.I9 k na nm l)/\Cs.Lc (Cs.I9 k na nm l)/\(Cs.I9 k na nm l).length=l.length
 |[],_,_=>by rw[Cs.I9];exact⟨trivial,trivial,rfl⟩
 |x::r,h,f=>by
  obtain⟨g,i⟩:=Cs.NQ k na nm I x h.1 f.1;obtain⟨j,o,C⟩:=Cs.DN k na nm I r h.2 f.2;rw[Cs.I9];exact⟨⟨g,j⟩,⟨i,o⟩,by simp[C]⟩
theorem Cs.NQ(k:Int)(na:Nat)(nm:ByteArray)(I:nm.size<=140737488355328):∀(c:Cs),c.Ok->c.Du->(c.fu k na nm).Ok/\(c.fu k na nm).Du
 | .mk t ws y,h,f=>by
  obtain⟨g,i⟩:=Tm.NQ y h.2.2 f.2;obtain⟨j,o⟩:=Qg6 (k:=k) (na:=na) (nm:=nm) g i I h.1 h.2.1;rw[Cs.fu];exact⟨⟨h.1,h.2.1,j⟩,f.1,o⟩
end
theorem Jj0:∀(d:Nat) (t:Tm) (has:List ByteArray),t.Rt d->t.Ok->(∀s∈has,s.size<=140737488355328)->(t.ow has).Ok/\(t.ow has).Du:=by
 intro d;induction d with
 |zero=>intro t _ h;exact h.elim
 |succ d o=>
 intro t has hR U hh;have a1:∀t:Tm,∀d,t.Rt d->t.Du:=by
  intro t d;induction d generalizing t with
  |zero=>intro h;exact h.elim
  |succ d o=>
   intro h;obtain⟨k,n,a,b,vs,xs,cs⟩:=t;obtain⟨T,_,_,I,h3⟩:=h;refine⟨λhk=>oM,Tm.QO.2 λx C=>o x (I x C),Cs.QO.2 λc hc=>?_⟩;obtain⟨h4,h5⟩:=h3 c hc;obtain⟨t,ws,y⟩:=c;exact⟨h4,o y h5⟩
 have hD:=a1 t _ hR;obtain⟨k,n,a,b,vs,xs,cs⟩:=t;obtain⟨hk,g,h6,C,hc⟩:=hR;have a2:=U;obtain⟨⟨o1,o2,o3⟩,⟨o4,o5,o6⟩,o7,o8⟩:=a2;have j:=Tm.Xz.1 o7;have a3:=Cs.Xz.1 o8;rw[Tm.ow];generalize(Tm.mk k n a b vs xs cs).free=fr;have hG:∀s∈Rv has fr,s.size<=140737488355328:=λs f=>hh s (List.mem_filter.1 f).1
 have J:∀s∈Uq has fr,s.size<=140737488355328:=λs f=>hh s (List.mem_filter.1 f).1
 generalize Uq has fr=own at J⊢
 suffices H:∀e:Tm,e.Ok->e.Du->(cnt 9 (Rv has fr) e).Ok/\(cnt 9 (Rv has fr) e).Du by
  split
  ·exact H _ (Vo _ (λs f=>by
    obtain⟨x,C,e⟩:=WK f;rw[e];exact(j x C).nm) U) (Vr _ hD)
  split
  ·rename_i a4;subst a4;have i:xs.length=2/\cs=[]:=by
    unfold Xx at g;simp at g;exact g
   obtain⟨i,rfl⟩:=i;obtain⟨x,y,rfl⟩:∃x y,xs=[x,y]:=by
    rcases xs with _|⟨x,_|⟨y,_|⟨z,l⟩⟩⟩
    ·cases i
    ·cases i
    ·exact⟨x,y,rfl⟩
    ·simp at i
   rw[PM,Dr,Tm.VH,List.headD_cons,List.tail_cons,Tm.VH,List.headD_cons,List.tail_cons,Tm.VH];obtain⟨T,I⟩:=o x (Uq own x.free) (C x (by simp)) (j x (by simp)) (λs f=>J s (List.mem_filter.1 f).1);obtain⟨h3,h4⟩:=o y (Uq own (Rv y.free [a])++[a]) (C y (by simp)) (j y (by simp)) (λs f=>(List.mem_append.1 f).elim (λh=>J s (List.mem_filter.1 h).1) λh=>by rw[List.mem_singleton.1 h];exact o1);exact H _ (Vo _ (λs f=>J s (List.mem_filter.1 (List.mem_filter.1 f).1).1) ⟨⟨o1,by simp,by simp⟩,⟨by simp,by simp,by simp⟩,⟨T,h3,trivial⟩,trivial⟩) (Vr _ ⟨λh=>oM,⟨I,h4,trivial⟩,trivial⟩)
  split
  ·have a5:=Qv3 o7;have hC:∀(l:List Cs),(∀c∈l,c∈cs)->Cs.VI (Cs.RU l own (Xn xs))/\Cs.Lc (Cs.RU l own (Xn xs)):=by
    intro l;induction l with
    |nil=>intro _;exact⟨trivial,trivial⟩
    |cons c r a6=>
     intro hm;have P:=hm c (List.mem_cons_self ..);obtain⟨g1,g2⟩:=a6 λz hz=>hm z (List.mem_cons_of_mem _ hz)
     obtain⟨t,ws,y⟩:=c;obtain⟨e1,e2⟩:=hc _ P;obtain⟨p1,p2,p3⟩:=a3 _ P;have hU:∀s∈Uq ws y.free,s.size<=140737488355328:=λs f=>p1 s (List.mem_filter.1 f).1
     have hH:∀s∈own++Uq ws y.free,s.size<=140737488355328:=λs f=>(List.mem_append.1 f).elim (J s) (hU s)
     obtain⟨q1,q2⟩:=o y (if hasB y.free (Xn xs)then own++Uq ws y.free else Rv (own++Uq ws y.free) [Xn xs]) e2 p3 (λs f=>by
      split at f
      ·exact hH s f
      ·exact hH s (List.mem_filter.1 f).1)
     rw[Cs.RU,Cs.ow];exact⟨⟨⟨p1,p2,Vo _ hU (Vo _ (λs f=>by split at f<;> simp at f;rw[f];exact a5) q1)⟩,g1⟩,⟨⟨e1,Vr _ (Vr _ q2)⟩,g2⟩⟩
   obtain⟨g1,g2⟩:=hC cs λ_ h=>h
   exact H _ ⟨⟨by simp,by simp,by simp⟩,⟨by simp,o5,by rw[Cs.Gg];exact o6⟩,o7,g1⟩ ⟨λh=>oM,hD.2.1,g2⟩
  ·exact H _ U hD
 exact λe T I=>⟨Vo _ hG T,Vr _ I⟩
structure LS where
 ct:List (ByteArray×Int)
 inn:List (ByteArray×ByteArray)
 tk:List (ByteArray×Int)
def J3{α:Type}:List (ByteArray×α)->ByteArray->Option α
 |[],_=>none
 |(k,v)::r,s=>if k=s then some v else J3 r s
def Jz{α:Type}(l:List (ByteArray×α))(s:ByteArray)(v:α):List (ByteArray×α):=(s,v)::l.filter λp=>decide (p.1≠s)
def Pk{α:Type}(l:List (ByteArray×α))(s:ByteArray):List (ByteArray×α):=l.filter λp=>decide (p.1≠s)
def LS.c(s:LS)(n:ByteArray):Int:=(J3 s.ct n).getD 0
def LS.Vz(s:LS)(n:ByteArray):Int×LS:=match J3 s.ct n with
 |none=>(6,s)
 |some k=>if k<1 then (16,s)else (0,{ s with ct:=Jz s.ct n (k-1) })
def LS.left(s:LS):Bool:=s.ct.any (λp=>decide (0<p.2))|| !s.tk.isEmpty
def LS.Qg(s:LS)(e:Int):Int:=if e=0/\s.left=true then 15 else e
def LS.F6(s:LS):List Tm->Int×LS
 |[]=>(0,s)
 |x::r=>if x.tk≠1 then (2,s)else if (s.Vz x.nm).1≠0 then s.Vz x.nm else (s.Vz x.nm).2.F6 r
def LS.there(s:LS)(n:ByteArray):Bool:=decide (0<s.c n)||(match J3 s.inn n with|some up=>decide (0<s.c up)|none=>false)
def LS.inc(s:LS)(n:ByteArray):LS:={ s with ct:=Jz s.ct n (s.c n+1) }
def LS.K8(s:LS)(nm:ByteArray):List ByteArray->Int×LS
 |[]=>(0,s)
 |v::r=>if (J3 s.inn v).getD .empty≠nm then (2,s)else (s.inc v).K8 nm r
def LS.Xq(s:LS)(nm:ByteArray)(vs:List ByteArray):Int×LS:=if (s.K8 nm vs).1≠0 then s.K8 nm vs else (s.K8 nm vs).2.Vz nm
def LS.U1(s:LS)(nm:ByteArray):List ByteArray->Int×LS
 |[]=>(0,s)
 |v::r=>if (J3 s.ct v).isSome then (7,s)else ({ s with ct:=Jz s.ct v 0,inn:=Jz s.inn v nm }:LS).U1 nm r
def excl(b:ByteArray):ByteArray:=⟨#[33]⟩++b
mutual
def Tm.Ux:Tm->List ByteArray
 | .mk k n a b vs xs cs=>(if k=1\/k=8\/k=9\/k=10\/k=11 then[a]else[])++(Tm.Y6 xs++Cs.Y6 cs)
def Tm.Y6:List Tm->List ByteArray
 |[]=>[]
 |x::r=>x.Ux++Tm.Y6 r
def Cs.Y6:List Cs->List ByteArray
 |[]=>[]
 |c::r=>c.Ux++Cs.Y6 r
def Cs.Ux:Cs->List ByteArray
 | .mk t ws y=>y.Ux
end
mutual
def Tm.Uk:Tm->List ByteArray
 | .mk k n a b vs xs cs=>(if k=12\/k=13 then[b]else[])++(Tm.Yq xs++Cs.Yq cs)
def Tm.Yq:List Tm->List ByteArray
 |[]=>[]
 |x::r=>x.Uk++Tm.Yq r
def Cs.Yq:List Cs->List ByteArray
 |[]=>[]
 |c::r=>c.Uk++Cs.Yq r
def Cs.Uk:Cs->List ByteArray
 | .mk t ws y=>y.Uk
end
mutual
def Tm.J9:Tm->List ByteArray
 | .mk k n a b vs xs cs=>(if k=6 then[a]else[])++((if k=11 then[excl b]else[])++(Tm.Y7 xs++Cs.Y7 cs))
def Tm.Y7:List Tm->List ByteArray
 |[]=>[]
 |x::r=>x.J9++Tm.Y7 r
def Cs.Y7:List Cs->List ByteArray
 |[]=>[]
 |c::r=>c.J9++Cs.Y7 r
def Cs.J9:Cs->List ByteArray
 | .mk t ws y=>ws++y.J9
end
def Tm.P5(t:Tm)(n:ByteArray):Bool:=hasB t.Ux n && !hasB t.J9 n
def Tm.Tz(t:Tm)(b:ByteArray):Bool:=hasB t.Uk b && !hasB t.J9 (excl b)
def Mk(k:Int):Int:=if 1<k then 1 else k
def LS.fst(s:LS)(t:Tm):LS:=⟨(s.ct.filter λp=>t.P5 p.1).map λp=>(p.1,Mk p.2),s.inn,s.tk.filter λp=>t.Tz p.1⟩
def LS.Nz(s:LS)(t:Tm):LS:=⟨s.ct.map λp=>(p.1,if t.P5 p.1 then p.2-Mk p.2 else p.2),s.inn,s.tk.filter λp=>!t.Tz p.1⟩
def QK:List Tm->Tm
 |x::_=>x
 |[]=>.mk 0 0 .empty .empty [] [] []
mutual
def Tm.Y0:Tm->LS->Int
 | .mk k n a b vs xs cs,s=>
  if k=1 then (s.Vz a).2.Qg (s.Vz a).1
  else if k=2 then s.Qg 0
  else if k=3\/k=4\/k=5 then (s.F6 xs).2.Qg (s.F6 xs).1
  else if k=12 then
   if (J3 s.tk b)≠some (xs.length:Int)then 6
   else (({ s with tk:=Pk s.tk b }:LS).F6 xs).2.Qg (({ s with tk:=Pk s.tk b }:LS).F6 xs).1
  else if k=6 then
   if xs.length≠2 then 2 else if (J3 s.ct a).isSome then 7
   else Tm.A9 xs [s.fst (QK xs),{ s.Nz (QK xs)with ct:=Jz (s.Nz (QK xs)).ct a 1 }]
  else if k=7 then
   if xs.length≠1\/(QK xs).tk≠1 then 2 else if s.c (QK xs).nm<1 then 6 else Cs.A9 cs s (QK xs).nm
  else if k=8\/k=9\/k=10\/k=11\/k=13 then
   if xs.length≠1 then 2
   else if k=8 then (if s.there a then Tm.A9 xs [s.inc a]else 6)
   else if k=9 then (if (s.Vz a).1≠0 then (s.Vz a).1 else Tm.A9 xs [(s.Vz a).2])
   else if k=13 then (if (J3 s.tk b).isSome then Tm.A9 xs [{ s with tk:=Pk s.tk b }]else 6)
   else if (s.Xq a vs).1≠0 then (s.Xq a vs).1
   else if k=11 then (if (J3 s.tk b).isSome\/b= .empty then 7 else Tm.A9 xs [{ (s.Xq a vs).2 with tk:=Jz (s.Xq a vs).2.tk b (vs.length:Int) }])
   else Tm.A9 xs [(s.Xq a vs).2]
  else 1
def Tm.A9:List Tm->List LS->Int
 |[],_=>0
 |x::r,f=>if x.Y0 (f.headD ⟨[],[],[]⟩)≠0 then x.Y0 (f.headD ⟨[],[],[]⟩)else Tm.A9 r f.tail
def Cs.A9:List Cs->LS->ByteArray->Int
 |[],_,_=>0
 |c::r,s,nm=>if c.Y0 s nm≠0 then c.Y0 s nm else Cs.A9 r s nm
def Cs.Y0:Cs->LS->ByteArray->Int
 | .mk t ws y,s,nm=>if (s.U1 nm ws).1≠0 then (s.U1 nm ws).1 else y.Y0 (s.U1 nm ws).2
end
def Fn.Y0(f:Fn):Int:=if f.params.Nodup then f.body.Y0 ⟨f.params.map λp=>(p,1),[],[]⟩else 7
section
variable {α:Type}
def KN(l:List (ByteArray×α)):Prop:=(l.map (·.1)).Nodup
theorem KN.nil:KN ([]:List (ByteArray×α)):=List.nodup_nil
theorem KN.filter{l:List (ByteArray×α)}(h:KN l)(p:ByteArray×α->Bool):KN (l.filter p):=by
 unfold KN at h⊢;exact(List.filter_sublist.map _).nodup h
theorem KN.put{l:List (ByteArray×α)}(h:KN l)(s:ByteArray)(v:α):KN (Jz l s v):=by
 unfold Jz KN;rw[List.map_cons,List.nodup_cons];refine⟨λf=>?_,h.filter _⟩;obtain⟨p,hp,e⟩:=List.mem_map.1 f;have:=(List.mem_filter.1 hp).2;simp at this;exact this e
theorem Zq(q:ByteArray->Bool):∀(l:List (ByteArray×α)) (s:ByteArray),J3 (l.filter λp=>q p.1) s=if q s then J3 l s else none
 |[],s=>by simp[J3]
 |(k,v)::r,s=>by
  have g:=Zq q r s;by_cases f:q k=true
  ·rw[List.filter_cons_of_pos (by simpa using f),J3,J3,g];by_cases e:k=s
   ·subst e;rw[if_pos rfl,if_pos rfl,if_pos f]
   ·rw[if_neg e,if_neg e]
  ·rw[List.filter_cons_of_neg (by simpa using f),g,J3];by_cases e:k=s
   ·subst e;rw[if_neg f,if_neg f]
   ·rw[if_neg e]
theorem Xj(l:List (ByteArray×α))(s:ByteArray)(v:α)(n:ByteArray):J3 (Jz l s v) n=if s=n then some v else J3 l n:=by
 unfold Jz;rw[J3,Zq (λk=>decide (k≠s))];by_cases e:s=n
 ·rw[if_pos e,if_pos e]
 ·rw[if_neg e,if_neg e,if_pos (by simp;exact λh=>e h.symm)]
theorem Zy(l:List (ByteArray×α))(s n:ByteArray):J3 (Pk l s) n=if s=n then none else J3 l n:=by
 unfold Pk;rw[Zq (λk=>decide (k≠s))];by_cases e:s=n
 ·rw[if_pos e,if_neg (by simp;exact e.symm)]
 ·rw[if_neg e,if_pos (by simp;exact λh=>e h.symm)]
theorem Fv{g:Type}(f:ByteArray->α->g):∀(l:List (ByteArray×α)) (s:ByteArray),J3 (l.map λp=>(p.1,f p.1 p.2)) s=(J3 l s).map (f s)
 |[],s=>rfl
 |(k,v)::r,s=>by
  rw[List.map_cons,J3,J3,Fv f r s];by_cases e:k=s
  ·subst e;rw[if_pos rfl,if_pos rfl];rfl
  ·rw[if_neg e,if_neg e]
theorem WO{l:List (ByteArray×α)}{s:ByteArray}{v:α}(h:J3 l s=some v):(s,v)∈l:=by
 induction l with
 |nil=>simp[J3]at h
 |cons p r f=>
  obtain⟨k,u⟩:=p;rw[J3]at h;by_cases e:k=s
  ·subst e;rw[if_pos rfl]at h;injection h with h;subst h;simp
  ·rw[if_neg e]at h;exact List.mem_cons_of_mem _ (f h)
theorem Vb{l:List (ByteArray×α)}(f:KN l){s:ByteArray}{v:α}(h:(s,v)∈l):J3 l s=some v:=by
 induction l with
 |nil=>cases h
 |cons p r g=>
  obtain⟨k,u⟩:=p;unfold KN at f;rw[List.map_cons,List.nodup_cons]at f;rw[J3];rcases List.mem_cons.1 h with e|h
  ·injection e with i j;subst i j;rw[if_pos rfl]
  ·rw[if_neg (λe=>f.1 (by subst e;exact List.mem_map.2 ⟨_,h,rfl⟩)),g f.2 h]
end
structure LS.Ok (s:LS):Prop where
 kc:KN s.ct
 kt:KN s.tk
 nn:∀n,0<=s.c n
theorem LS.PO{s:LS}(h:s.Ok)(f:s.left=false):(∀n,s.c n=0)/\s.tk=[]:=by
 unfold LS.left at f;rw[Bool.or_eq_false_iff]at f;refine⟨λn=>?_,by simpa using f.2⟩;have g:=h.nn n;have i:s.c n<=0:=by
  unfold LS.c;cases hk:J3 s.ct n with
  |none=>simp
  |some v=>
   have:=List.any_eq_false.1 f.1 _ (WO hk);simp at this⊢;omega
 omega
theorem LS.R4{s:LS}{e:Int}(h:s.Qg e=0):e=0/\s.left=false:=by
 unfold LS.Qg at h;by_cases f:e=0
 ·refine⟨f,?_⟩;cases hl:s.left with
  |false=>rfl
  |true=>rw[if_pos ⟨f,hl⟩]at h;omega
 ·rw[if_neg (λg=>f g.1)]at h;exact absurd h f
theorem LS.Mi(s:LS)(n:ByteArray)(v:Int)(m:ByteArray):({ s with ct:=Jz s.ct n v }:LS).c m=if n=m then v else s.c m:=by
 unfold LS.c;rw[Xj];by_cases e:n=m
 ·rw[if_pos e,if_pos e];rfl
 ·rw[if_neg e,if_neg e]
theorem LS.D5{s:LS}(h:s.Ok){n:ByteArray}(f:(s.Vz n).1=0):(s.Vz n).2.Ok/\(∀m,(s.Vz n).2.c m=if n=m then s.c m-1 else s.c m)/\(s.Vz n).2.tk=s.tk/\(s.Vz n).2.inn=s.inn/\(∀m,(J3 (s.Vz n).2.ct m).isSome=(J3 s.ct m).isSome)/\1<=s.c n:=by
 unfold LS.Vz at f⊢;cases hk:J3 s.ct n with
 |none=>rw[hk]at f;simp at f
 |some k=>
  rw[hk]at f;dsimp only at f⊢;by_cases g:k<1
  ·rw[if_pos g]at f;simp at f
  ·rw[if_neg g];have j:s.c n=k:=by unfold LS.c;rw[hk];rfl
   have i:∀m,({ s with ct:=Jz s.ct n (k-1) }:LS).c m=if n=m then s.c m-1 else s.c m:=λm=>by
    rw[LS.Mi];by_cases e:n=m
    ·subst e;rw[if_pos rfl,if_pos rfl,j]
    ·rw[if_neg e,if_neg e]
   refine⟨⟨h.kc.put _ _,h.kt,λm=>?_⟩,i,rfl,rfl,λm=>?_,oM⟩
   ·have:=h.nn m;rw[i];by_cases e:n=m
    ·subst e;rw[if_pos rfl];omega
    ·rw[if_neg e];exact this
   ·dsimp only;rw[Xj];by_cases e:n=m
    ·subst e;rw[if_pos rfl,hk];rfl
    ·rw[if_neg e]
def TA(l:List Tm)(n:ByteArray):Int:=((l.filter λx=>decide (x.nm=n)).length:Int)
theorem Yb(x:Tm)(r:List Tm)(n:ByteArray):TA (x::r) n=(if x.nm=n then 1 else 0)+TA r n:=by
 unfold TA;by_cases h:x.nm=n
 ·rw[if_pos h,List.filter_cons_of_pos (by simpa using h),List.length_cons];omega
 ·rw[if_neg h,List.filter_cons_of_neg (by simpa using h)];omega
theorem LS.MF:∀(xs:List Tm) {s:LS} (h:s.Ok) (f:(s.F6 xs).1=0),(s.F6 xs).2.Ok/\(∀m,(s.F6 xs).2.c m=s.c m-TA xs m)/\(s.F6 xs).2.tk=s.tk
 |[],s,h,_=>⟨h,λm=>by simp[LS.F6,TA],rfl⟩
 |x::r,s,h,f=>by
  rw[LS.F6]at f⊢;by_cases i:x.tk≠1
  ·rw[if_pos i]at f;simp at f
  ·rw[if_neg i]at f⊢;by_cases g:(s.Vz x.nm).1≠0
   ·rw[if_pos g]at f;exact absurd f g
   ·rw[if_neg g]at f⊢;obtain⟨j,l,o,-,-,-⟩:=LS.D5 h (Decidable.not_not.1 g);obtain⟨t,C,I⟩:=LS.MF r j f;refine⟨t,λm=>?_,I.trans o⟩;rw[C,l,Yb];split<;> omega
theorem LS.Qp{s:LS}(h:s.Ok)(n:ByteArray):(s.inc n).Ok/\∀m,(s.inc n).c m=if n=m then s.c m+1 else s.c m:=by
 have f:∀m,(s.inc n).c m=if n=m then s.c m+1 else s.c m:=λm=>by
  unfold LS.inc;rw[LS.Mi];by_cases e:n=m
  ·subst e;simp
  ·rw[if_neg e,if_neg e]
 refine⟨⟨h.kc.put _ _,h.kt,λm=>?_⟩,f⟩;have:=h.nn m;rw[f];split<;> omega
def M4(l:List ByteArray)(n:ByteArray):Int:=((l.filter λx=>decide (x=n)).length:Int)
theorem R3(x:ByteArray)(r:List ByteArray)(n:ByteArray):M4 (x::r) n=(if x=n then 1 else 0)+M4 r n:=by
 unfold M4;by_cases h:x=n
 ·rw[if_pos h,List.filter_cons_of_pos (by simpa using h),List.length_cons];omega
 ·rw[if_neg h,List.filter_cons_of_neg (by simpa using h)];omega
theorem LS.Ho(nm:ByteArray):∀(vs:List ByteArray) {s:LS} (h:s.Ok) (f:(s.K8 nm vs).1=0),(s.K8 nm vs).2.Ok/\(∀m,(s.K8 nm vs).2.c m=s.c m+M4 vs m)/\(s.K8 nm vs).2.tk=s.tk/\(s.K8 nm vs).2.inn=s.inn
 |[],s,h,_=>⟨h,λm=>by simp[LS.K8,M4],rfl,rfl⟩
 |v::r,s,h,f=>by
  rw[LS.K8]at f⊢;by_cases g:(J3 s.inn v).getD .empty≠nm
  ·rw[if_pos g]at f;simp at f
  ·rw[if_neg g]at f⊢;obtain⟨i,j⟩:=LS.Qp h v;obtain⟨l,o,t,C⟩:=LS.Ho nm r i f;refine⟨l,λm=>?_,t,C⟩;rw[o,j,R3];split<;> omega
theorem LS.Ud{s:LS}(h:s.Ok){nm:ByteArray}{vs:List ByteArray}(f:(s.Xq nm vs).1=0):(s.Xq nm vs).2.Ok/\(∀m,(s.Xq nm vs).2.c m=s.c m+M4 vs m-if nm=m then 1 else 0)/\(s.Xq nm vs).2.tk=s.tk:=by
 unfold LS.Xq at f⊢;by_cases g:(s.K8 nm vs).1≠0
 ·rw[if_pos g]at f;exact absurd f g
 ·rw[if_neg g]at f⊢;obtain⟨i,j,l,-⟩:=LS.Ho nm vs h (Decidable.not_not.1 g);obtain⟨o,r,t,-,-,-⟩:=LS.D5 i f;refine⟨o,λm=>?_,t.trans l⟩;rw[r,j];split<;> omega
theorem LS.Xe(nm:ByteArray):∀(vs:List ByteArray) {s:LS} (h:s.Ok) (f:(s.U1 nm vs).1=0),(s.U1 nm vs).2.Ok/\(∀m,(s.U1 nm vs).2.c m=s.c m)/\(s.U1 nm vs).2.tk=s.tk
 |[],s,h,_=>⟨h,λm=>rfl,rfl⟩
 |v::r,s,h,f=>by
  rw[LS.U1]at f⊢;by_cases g:(J3 s.ct v).isSome=true
  ·rw[if_pos g]at f;simp at f
  ·rw[if_neg g]at f⊢;have i:∀m,({ s with ct:=Jz s.ct v 0,inn:=Jz s.inn v nm }:LS).c m=s.c m:=λm=>by
    show(J3 (Jz s.ct v 0) m).getD 0=s.c m;rw[Xj];by_cases e:v=m
    ·subst e;rw[if_pos rfl];unfold LS.c;cases hk:J3 s.ct v with
     |none=>rfl
     |some k=>rw[hk]at g;simp at g
    ·rw[if_neg e];rfl
   obtain⟨j,l,o⟩:=LS.Xe nm r (s:={ s with ct:=Jz s.ct v 0,inn:=Jz s.inn v nm }) ⟨h.kc.put _ _,h.kt,λm=>by rw[i];exact h.nn m⟩ f;exact⟨j,λm=>by rw[l,i],o⟩
theorem LS.Ab(s:LS)(t:Tm)(n:ByteArray):(s.fst t).c n=if t.P5 n then Mk (s.c n)else 0:=by
 unfold LS.fst LS.c;dsimp only;rw[Fv (λ_ k=>Mk k),Zq t.P5];by_cases h:t.P5 n=true
 ·rw[if_pos h,if_pos h];cases J3 s.ct n<;> rfl
 ·rw[if_neg h,if_neg h];rfl
theorem LS.BB(s:LS)(t:Tm)(n:ByteArray):(s.Nz t).c n=if t.P5 n then s.c n-Mk (s.c n)else s.c n:=by
 unfold LS.Nz LS.c;dsimp only;rw[Fv (λk v=>if t.P5 k then v-Mk v else v)];cases J3 s.ct n with
 |none=>
  show(0:Int)=_;split<;> rfl
 |some v=>
  show(if t.P5 n then v-Mk v else v)=_;rfl
theorem LS.Qr{s:LS}(h:s.Ok)(t:Tm):(s.fst t).Ok:=by
 refine⟨?_,h.kt.filter _,λn=>?_⟩
 ·unfold LS.fst KN;dsimp only;rw[List.map_map];exact h.kc.filter λp=>t.P5 p.1
 ·have:=h.nn n;rw[LS.Ab];unfold Mk;split
  ·split<;> omega
  ·exact Int.le_refl _
theorem LS.Zi{s:LS}(h:s.Ok)(t:Tm):(s.Nz t).Ok:=by
 refine⟨?_,h.kt.filter _,λn=>?_⟩
 ·unfold LS.Nz KN;dsimp only;rw[List.map_map];exact h.kc
 ·have:=h.nn n;rw[LS.BB];unfold Mk;split
  ·split<;> omega
  ·exact this
theorem LS.O3{s:LS}(h:s.Ok)(n:ByteArray){v:Int}(f:0<=v):({ s with ct:=Jz s.ct n v }:LS).Ok:=⟨h.kc.put _ _,h.kt,λm=>by
 have:=h.nn m;rw[LS.Mi];split
 ·exact f
 ·exact this⟩
theorem LS.I8{s:LS}(h:s.Ok){l:List (ByteArray×Int)}(f:KN l):({ s with tk:=l }:LS).Ok:=⟨h.kc,f,h.nn⟩
end
section
open Go.RowKit
theorem Tm.P8(t:Tm):1<=t.sz:=by obtain⟨k,n,a,b,vs,xs,cs⟩:=t;simp only[Tm.sz];omega
mutual
def Tm.Sh:Tm->Prop
 | .mk k n a b vs xs cs=>(k=1\/k=2->xs=[])/\(k≠7->cs=[])/\(k=7->cs≠[])/\Tm.RL xs/\Cs.RL cs
def Tm.RL:List Tm->Prop
 |[]=>True
 |x::r=>x.Sh/\Tm.RL r
def Cs.RL:List Cs->Prop
 |[]=>True
 |c::r=>c.Sh/\Cs.RL r
def Cs.Sh:Cs->Prop
 | .mk t ws y=>y.Sh
end
structure LS.KH (s s':LS):Prop where
 c:∀n,s.c n=s'.c n
 t:∀b,(J3 s.tk b).isSome=(J3 s'.tk b).isSome
theorem Zx8{s:LS}(h:s.Ok){a:ByteArray}(f:(s.Vz a).2.Qg (s.Vz a).1=0):(∀m,s.c m=if a=m then 1 else 0)/\s.tk=[]:=by
 obtain⟨g,i⟩:=LS.R4 f;obtain⟨j,l,o,-,-,-⟩:=LS.D5 h g;obtain⟨r,t⟩:=LS.PO j i;refine⟨λm=>?_,by rw[<-o];exact t⟩;have:=r m;rw[l]at this;split at this<;> rename_i e
 ·rw[if_pos e];omega
 ·rw[if_neg e];exact this
theorem VK{s:LS}(h:s.Ok){xs:List Tm}(f:(s.F6 xs).2.Qg (s.F6 xs).1=0):(∀m,s.c m=TA xs m)/\s.tk=[]:=by
 obtain⟨g,i⟩:=LS.R4 f;obtain⟨j,l,o⟩:=LS.MF xs h g;obtain⟨r,t⟩:=LS.PO j i;refine⟨λm=>?_,by rw[<-o];exact t⟩;have:=r m;rw[l]at this;omega
theorem YU(x:Tm)(r:List Tm)(s:LS)(f:List LS):Tm.A9 (x::r) (s::f)=if x.Y0 s≠0 then x.Y0 s else Tm.A9 r f:=by rw[Tm.A9];rfl
theorem XI{x:Tm}{s:LS}(h:Tm.A9 [x] [s]=0):x.Y0 s=0:=by
 rw[YU]at h;by_cases f:x.Y0 s≠0
 ·rw[if_pos f]at h;exact h
 ·exact Decidable.not_not.1 f
theorem Qw1{x y:Tm}{s u:LS}(h:Tm.A9 [x,y] [s,u]=0):x.Y0 s=0/\y.Y0 u=0:=by
 rw[YU]at h;by_cases f:x.Y0 s≠0
 ·rw[if_pos f]at h;exact absurd h f
 ·rw[if_neg f]at h;exact⟨Decidable.not_not.1 f,XI h⟩
theorem V3{x:Tm}{s:LS}(h:x.Y0 s=0):Tm.A9 [x] [s]=0:=by
 rw[YU,if_neg (by simpa using h),Tm.A9]
theorem Ir{x y:Tm}{s u:LS}(h:x.Y0 s=0)(f:y.Y0 u=0):Tm.A9 [x,y] [s,u]=0:=by
 rw[YU,if_neg (by simpa using h)];exact V3 f
theorem Mg{s:LS}{nm:ByteArray}:∀{cs:List Cs},Cs.A9 cs s nm=0->∀c∈cs,c.Y0 s nm=0
 |c::r,h,d,f=>by
  rw[Cs.A9]at h;split at h
  ·rename_i g;exact absurd h g
  ·rename_i g;rcases List.mem_cons.1 f with rfl|f
   ·exact Decidable.not_not.1 g
   ·exact Mg h d f
theorem Mh{s:LS}{nm:ByteArray}:∀{cs:List Cs},(∀c∈cs,c.Y0 s nm=0)->Cs.A9 cs s nm=0
 |[],_=>by rw[Cs.A9]
 |c::r,h=>by
  rw[Cs.A9,if_neg (by simpa using h c (by simp))];exact Mh λd f=>h d (by simp[f])
theorem XR{s:LS}{nm:ByteArray}{t:Int}{ws:List ByteArray}{y:Tm}(h:(Cs.mk t ws y).Y0 s nm=0):(s.U1 nm ws).1=0/\y.Y0 (s.U1 nm ws).2=0:=by
 rw[Cs.Y0]at h;split at h
 ·rename_i f;exact absurd h f
 ·rename_i f;exact⟨Decidable.not_not.1 f,h⟩
section
variable {n:Int} {a b:ByteArray} {vs:List ByteArray} {xs:List Tm} {cs:List Cs} {s:LS}
theorem Qw4:(Tm.mk 1 n a b vs xs cs).Y0 s=(s.Vz a).2.Qg (s.Vz a).1:=by rw[Tm.Y0];rfl
theorem Qw2:(Tm.mk 2 n a b vs xs cs).Y0 s=s.Qg 0:=by rw[Tm.Y0];rfl
theorem ZA{k:Int}(f:k=3\/k=4\/k=5):(Tm.mk k n a b vs xs cs).Y0 s=(s.F6 xs).2.Qg (s.F6 xs).1:=by
 rw[Tm.Y0,if_neg oM,if_neg oM,if_pos f]
theorem Em(h:(Tm.mk 12 n a b vs xs cs).Y0 s=0):J3 s.tk b=some (xs.length:Int)/\(({ s with tk:=Pk s.tk b }:LS).F6 xs).2.Qg (({ s with tk:=Pk s.tk b }:LS).F6 xs).1=0:=by
 rw[Tm.Y0,if_neg oM,if_neg oM,if_neg oM,if_pos rfl]at h;split at h
 ·simp at h
 ·rename_i f;exact⟨Decidable.not_not.1 f,h⟩
theorem IA(h:(Tm.mk 6 n a b vs xs cs).Y0 s=0):∃x y,xs=[x,y]/\J3 s.ct a=none/\x.Y0 (s.fst x)=0/\y.Y0 { s.Nz x with ct:=Jz (s.Nz x).ct a 1 }=0:=by
 rw[Tm.Y0,if_neg oM,if_neg oM,if_neg oM,if_neg oM,if_pos rfl]at h;match xs,h with
 |[x,y],h=>
  rw[if_neg (by simp)]at h;split at h
  ·simp at h
  ·rename_i g;have f:=Qw1 h;exact⟨x,y,rfl,by simpa using g,f.1,f.2⟩
 |[],h=>simp at h
 |[_],h=>simp at h
 |_::_::_::_,h=>rw[if_pos (by simp)]at h;simp at h
theorem Iu(h:(Tm.mk 7 n a b vs xs cs).Y0 s=0):∃x,xs=[x]/\x.tk=1/\1<=s.c x.nm/\∀c∈cs,c.Y0 s x.nm=0:=by
 rw[Tm.Y0,if_neg oM,if_neg oM,if_neg oM,if_neg oM,if_neg oM,if_pos rfl]at h;match xs,h with
 |[x],h=>
  split at h
  ·simp at h
  ·rename_i g;split at h
   ·simp at h
   ·rename_i f;exact⟨x,rfl,by simpa[QK]using g,by have f:¬s.c x.nm<1:=f;omega,Mg h⟩
 |[],h=>simp at h
 |_::_::_,h=>rw[if_pos (by simp)]at h;simp at h
theorem Ei{k:Int}(i:k=8\/k=9\/k=10\/k=11\/k=13)(h:(Tm.mk k n a b vs xs cs).Y0 s=0):∃x,xs=[x]/\
  (k=8->s.there a=true/\x.Y0 (s.inc a)=0)/\(k=9->(s.Vz a).1=0/\x.Y0 (s.Vz a).2=0)/\(k=13->(J3 s.tk b).isSome=true/\x.Y0 { s with tk:=Pk s.tk b }=0)/\
  (k=10->(s.Xq a vs).1=0/\x.Y0 (s.Xq a vs).2=0)/\(k=11->(s.Xq a vs).1=0/\J3 s.tk b=none/\b≠.empty/\x.Y0 { (s.Xq a vs).2 with tk:=Jz (s.Xq a vs).2.tk b (vs.length:Int) }=0):=by
 rw[Tm.Y0,if_neg oM,if_neg oM,if_neg oM,if_neg oM,if_neg oM,if_neg oM,if_pos i]at h;match xs,h with
 |[],h=>simp at h
 |_::_::_,h=>rw[if_pos (by simp)]at h;simp at h
 |[x],h=>
  rw[if_neg (by simp)]at h;refine⟨x,rfl,?_⟩;rcases i with rfl|rfl|rfl|rfl|rfl
  ·rw[if_pos rfl]at h;refine⟨λ_=>?_,oM,oM,oM,oM⟩;split at h
   ·rename_i f;exact⟨f,XI h⟩
   ·simp at h
  ·rw[if_neg oM,if_pos rfl]at h;refine⟨oM,λ_=>?_,oM,oM,oM⟩;split at h
   ·rename_i f;exact absurd h f
   ·rename_i f;exact⟨Decidable.not_not.1 f,XI h⟩
  ·rw[if_neg oM,if_neg oM,if_neg oM]at h;refine⟨oM,oM,oM,λ_=>?_,oM⟩;split at h
   ·rename_i f;exact absurd h f
   ·rename_i f;rw[if_neg oM]at h;exact⟨Decidable.not_not.1 f,XI h⟩
  ·rw[if_neg oM,if_neg oM,if_neg oM]at h;refine⟨oM,oM,oM,oM,λ_=>?_⟩;by_cases f:(s.Xq a vs).1≠0
   ·rw[if_pos f]at h;exact absurd h f
   ·rw[if_neg f,if_pos rfl]at h;by_cases g:(J3 s.tk b).isSome=true\/b= .empty
    ·rw[if_pos g]at h;simp at h
    ·rw[if_neg g]at h;rw[not_or]at g;exact⟨Decidable.not_not.1 f,by simpa using g.1,g.2,XI h⟩
  ·rw[if_neg oM,if_neg oM,if_pos rfl]at h;refine⟨oM,oM,λ_=>?_,oM,oM⟩;split at h
   ·rename_i f;exact⟨f,XI h⟩
   ·simp at h
theorem XG{k:Int}(h:(Tm.mk k n a b vs xs cs).Y0 s=0):k=1\/k=2\/(k=3\/k=4\/k=5)\/k=12\/k=6\/k=7\/(k=8\/k=9\/k=10\/k=11\/k=13):=by
 rw[Tm.Y0]at h;repeat' split at h
 all_goals first|omega|simp_all
end
end
section
open Go.RowKit
theorem Oz:∀{xs:List Tm} {s:LS},(s.F6 xs).1=0->∀x∈xs,x.tk=1
 |y::r,s,h,x,f=>by
  rw[LS.F6]at h;by_cases g:y.tk≠1
  ·rw[if_pos g]at h;simp at h
  ·rw[if_neg g]at h;by_cases i:(s.Vz y.nm).1≠0
   ·rw[if_pos i]at h;exact absurd h i
   ·rw[if_neg i]at h;rcases List.mem_cons.1 f with rfl|f
    ·exact Decidable.not_not.1 g
    ·exact Oz h x f
theorem QN:∀{l:List Tm},Tm.RL l<->∀x∈l,x.Sh
 |[]=>by simp[Tm.RL]
 |x::r=>by simp[Tm.RL,QN (l:=r)]
theorem P6:∀{l:List Cs},Cs.RL l<->∀x∈l,x.Sh
 |[]=>by simp[Cs.RL]
 |x::r=>by simp[Cs.RL,P6 (l:=r)]
theorem Ov{k:Int}(f:k=8\/k=9):∀(l:List ByteArray) (t:Tm),(cnt k l t).Ux=l++t.Ux
 |[],_=>rfl
 |s::r,t=>by
  rw[cnt,Tm.Ux,if_pos oM,Tm.Y6,Tm.Y6,Cs.Y6,Ov f r t];simp
theorem Tv{k:Int}(f:k=8\/k=9):∀(l:List ByteArray) (t:Tm),(cnt k l t).J9=t.J9
 |[],_=>rfl
 |s::r,t=>by
  rw[cnt,Tm.J9,if_neg oM,if_neg oM,Tm.Y7,Tm.Y7,Cs.Y7,Tv f r t];simp
theorem Oj{k:Int}(f:k=8\/k=9):∀(l:List ByteArray) (t:Tm),(cnt k l t).Uk=t.Uk
 |[],_=>rfl
 |s::r,t=>by
  rw[cnt,Tm.Uk,if_neg oM,Tm.Yq,Tm.Yq,Cs.Yq,Oj f r t];simp
theorem TN{n:ByteArray}:∀{l:List Tm},n∈Tm.Y6 l<->∃x∈l,n∈x.Ux
 |[]=>by simp[Tm.Y6]
 |x::r=>by simp[Tm.Y6,TN (l:=r)]
theorem WU{n:ByteArray}:∀{l:List Cs},n∈Cs.Y6 l<->∃x∈l,n∈x.Ux
 |[]=>by simp[Cs.Y6]
 |x::r=>by simp[Cs.Y6,WU (l:=r)]
theorem Al{n:ByteArray}:∀{l:List Tm},n∈Tm.V6 l<->∃x∈l,n∈x.bd
 |[]=>by simp[Tm.V6]
 |x::r=>by simp[Tm.V6,Al (l:=r)]
theorem ZJ{n:ByteArray}:∀{l:List Cs},n∈Cs.V6 l<->∃x∈l,n∈x.bd
 |[]=>by simp[Cs.V6]
 |x::r=>by simp[Cs.V6,ZJ (l:=r)]
theorem Uu{k:Int}(g:k≠6):∀{l:List Tm},Tm.PU k l=true->∀x∈l,x.tk=1
 |y::r,h,x,f=>by
  rw[Tm.PU,if_neg g,Bool.and_eq_true]at h;rcases List.mem_cons.1 f with rfl|f
  ·exact of_decide_eq_true h.1
  ·exact Uu g h.2 x f
theorem Jm:∀{l:List Tm},Tm.PU 6 l=true->∀x∈l,x.Gp=true
 |y::r,h,x,f=>by
  rw[Tm.PU,if_pos rfl,Bool.and_eq_true]at h;rcases List.mem_cons.1 f with rfl|f
  ·exact h.1
  ·exact Jm h.2 x f
theorem UL:∀{l:List Cs},Cs.PU l=true->∀t ws y,Cs.mk t ws y∈l->y.Gp=true
 |c::r,h,t,ws,y,f=>by
  rw[Cs.PU,Bool.and_eq_true]at h;rcases List.mem_cons.1 f with e|f
  ·rw[<-e,Cs.Gp]at h;exact h.1
  ·exact UL h.2 t ws y f
theorem JV{d:Nat}{x:Tm}(g:x.Rt d)(i:x.tk=1):x.Ux=[x.nm]/\x.free=[x.nm]/\x.bd=[]/\x.J9=[]/\x.Uk=[]:=by
 cases d with
 |zero=>exact g.elim
 |succ d=>
  obtain⟨k,n,a,b,vs,xs,cs⟩:=x;rw[Tm.tk]at i;subst i;obtain⟨-,f,-,-,-⟩:=g;unfold Xx at f;simp at f;obtain⟨j,l⟩:=f;subst j l;refine⟨?_,?_,?_,?_,?_⟩
  ·rw[Tm.Ux];rfl
  ·rw[Tm.free];rfl
  ·rw[Tm.bd];rfl
  ·rw[Tm.J9];rfl
  ·rw[Tm.Uk];rfl
theorem Zp:∀(xs:List Tm) (f:List ByteArray) (n:ByteArray),n∈Dx f xs->∃x∈xs,x.nm=n
 |x::r,f,n,h=>by
  rw[Dx]at h;split at h
  ·rcases List.mem_cons.1 h with rfl|h
   ·exact⟨x,by simp,rfl⟩
   ·obtain⟨y,g,e⟩:=Zp r _ n h;exact⟨y,by simp[g],e⟩
  ·obtain⟨y,g,e⟩:=Zp r _ n h;exact⟨y,by simp[g],e⟩
theorem U3{s:ByteArray}{l o:List ByteArray}:s∈Uq l o<->s∈l/\s∈o:=by
 unfold Uq;rw[List.mem_filter,X9]
theorem WF{d:Nat}{n:Int}{a b:ByteArray}{vs:List ByteArray}{xs:List Tm}{cs:List Cs}(h:(Tm.mk 6 n a b vs xs cs).Rt (d+1)):∃x y,xs=[x,y]/\cs=[]/\x.Rt d/\y.Rt d:=by
 obtain⟨-,f,-,g,-⟩:=h;unfold Xx at f;simp at f;match xs,f with
 |[x,y],f=>exact⟨x,y,rfl,f.2,g x (by simp),g y (by simp)⟩
theorem LJ{d:Nat}{n:Int}{a b:ByteArray}{vs:List ByteArray}{xs:List Tm}{cs:List Cs}(h:(Tm.mk 7 n a b vs xs cs).Rt (d+1)):∃x,xs=[x]/\x.Rt d:=by
 obtain⟨-,f,-,g,-⟩:=h;unfold Xx at f;simp at f;match xs,f with
 |[x],f=>exact⟨x,rfl,g x (by simp)⟩
theorem MV{d:Nat}{k n:Int}{a b:ByteArray}{vs:List ByteArray}{xs:List Tm}{cs:List Cs}(h:(Tm.mk k n a b vs xs cs).Rt (d+1))(g:k=1\/k=2):xs=[]:=by
 obtain⟨-,f,-,-,-⟩:=h;unfold Xx at f;rcases g with rfl|rfl<;> simp at f<;> exact f.1
theorem MW{d:Nat}{k n:Int}{a b:ByteArray}{vs:List ByteArray}{xs:List Tm}{cs:List Cs}(h:(Tm.mk k n a b vs xs cs).Rt (d+1))(g:k≠7):cs=[]:=by
 obtain⟨-,f,-,-,-⟩:=h;unfold Xx at f;simp[g]at f;exact f.2
theorem Hg(own:List ByteArray)(nm:ByteArray):∀l:List Cs,Cs.RU l own nm=l.map λc=>c.ow own nm
 |[]=>rfl
 |c::r=>by rw[Cs.RU,Hg own nm r];rfl
theorem Qq6:∀(d:Nat) (t:Tm) (has:List ByteArray),t.Rt d->t.Gp=true->
  (∀n∈t.Ux,n∈(t.ow has).Ux)/\(∀n∈(t.ow has).Ux,n∈t.Ux\/n∈has\/n∈t.bd)/\(t.ow has).J9=t.bd/\(∀n∈t.free,n∈t.Ux)/\(∀n∈t.Ux,n∈t.free\/n∈t.bd)/\(t.ow has).Uk=[]/\t.J9=t.bd:=by
 intro d;induction d with
 |zero=>intro t _ h;exact h.elim
 |succ d ih=>
  intro t has hR hP;obtain⟨k,T,a,b,vs,xs,cs⟩:=t;have a4:=hR;obtain⟨hk,-,-,hx,hc⟩:=hR;rw[Tm.Gp,Bool.and_eq_true]at hP;obtain⟨a6,b0⟩:=hP;by_cases h6:k=6
  ·subst h6;obtain⟨x,y,rfl,rfl,b1,b2⟩:=WF a4;have b3:=Jm a6 x (by simp);have b4:=Jm a6 y (by simp);rw[Tm.ow,if_neg oM,if_pos rfl];generalize hG:Rv has (Tm.mk 6 T a b vs [x,y] []).free=G;generalize hO:Uq has (Tm.mk 6 T a b vs [x,y] []).free=O;rw[PM,Dr,Tm.VH,Tm.VH,Tm.VH];simp only[List.headD_cons,List.tail_cons];obtain⟨x1,x2,x3,x4,x5,x6,x7⟩:=ih x (Uq O x.free) b1 b3;obtain⟨y1,y2,y3,y4,y5,y6,y7⟩:=ih y (Uq O (Rv y.free [a])++[a]) b2 b4;have a2:∀n∈G,n∈has:=λn f=>by rw[<-hG]at f;exact(J8.1 f).1
   have a3:∀n∈O,n∈has:=λn f=>by rw[<-hO]at f;exact(U3.1 f).1
   have o:(Tm.mk 6 T a b vs [x,y] []).Ux=x.Ux++y.Ux:=by rw[Tm.Ux];simp[Tm.Y6,Cs.Y6]
   have U:(Tm.mk 6 T a b vs [x,y] []).bd=a::(x.bd++y.bd):=by rw[Tm.bd];simp[Tm.V6,Cs.V6]
   have C:∀n,n∈(Tm.mk 6 T a b vs [x,y] []).free<->n∈x.free\/(n∈y.free/\n≠a):=λn=>by
    rw[Tm.free,if_neg oM,if_pos ⟨rfl,rfl⟩,Tm.UB,Tm.RD,Qe,Qe,J8];simp
   rw[Ov (.inr rfl),Ov (.inl rfl),Tv (.inr rfl),Tv (.inl rfl),Oj (.inr rfl),Oj (.inl rfl),o,U];have e1:(Tm.mk 6 0 a .empty [] [x.ow (Uq O x.free),y.ow (Uq O (Rv y.free [a])++[a])] []).Ux=(x.ow (Uq O x.free)).Ux++(y.ow (Uq O (Rv y.free [a])++[a])).Ux:=by rw[Tm.Ux];simp[Tm.Y6,Cs.Y6]
   have e2:(Tm.mk 6 0 a .empty [] [x.ow (Uq O x.free),y.ow (Uq O (Rv y.free [a])++[a])] []).J9=a::(x.bd++y.bd):=by rw[Tm.J9,Tm.Y7,Tm.Y7,Tm.Y7,Cs.Y7,x3,y3];simp
   have e3:(Tm.mk 6 0 a .empty [] [x.ow (Uq O x.free),y.ow (Uq O (Rv y.free [a])++[a])] []).Uk=[]:=by rw[Tm.Uk,Tm.Yq,Tm.Yq,Tm.Yq,Cs.Yq,x6,y6];simp
   rw[e1,e2,e3];refine⟨λn f=>?_,λn f=>?_,rfl,λn f=>?_,λn f=>?_,rfl,?_⟩
   ·simp only[List.mem_append]at f⊢;exact f.elim (λh=>.inr (.inr (.inl (x1 n h)))) λh=>.inr (.inr (.inr (y1 n h)))
   ·simp only[List.mem_append]at f;simp only[List.mem_append,List.mem_cons];rcases f with f|f|f|f
    ·exact .inr (.inl (a2 n f))
    ·exact .inr (.inl (a3 n (U3.1 (U3.1 f).1).1))
    ·rcases x2 n f with h|h|h
     ·exact .inl (.inl h)
     ·exact .inr (.inl (a3 n (U3.1 h).1))
     ·exact .inr (.inr (.inr (.inl h)))
    ·rcases y2 n f with h|h|h
     ·exact .inl (.inr h)
     ·rcases List.mem_append.1 h with h|h
      ·exact .inr (.inl (a3 n (U3.1 h).1))
      ·exact .inr (.inr (.inl (by simpa using h)))
     ·exact .inr (.inr (.inr (.inr h)))
   ·rw[C]at f;simp only[List.mem_append];exact f.elim (λh=>.inl (x4 n h)) λh=>.inr (y4 n h.1)
   ·simp only[List.mem_append]at f;simp only[List.mem_cons,List.mem_append];rw[C];rcases f with f|f
    ·rcases x5 n f with h|h
     ·exact .inl (.inl h)
     ·exact .inr (.inr (.inl h))
    ·rcases y5 n f with h|h
     ·by_cases e:n=a
      ·exact .inr (.inl e)
      ·exact .inl (.inr ⟨h,e⟩)
     ·exact .inr (.inr (.inr h))
   ·rw[Tm.J9,Tm.Y7,Tm.Y7,Tm.Y7,Cs.Y7,x7,y7];simp
  ·have J:=Uu h6 a6;have b5:Tm.Y7 xs=[]/\Tm.V6 xs=[]/\Tm.Yq xs=[]/\(∀n,n∈Tm.Y6 xs<->∃x∈xs,x.nm=n):=by
    have:∀l:List Tm,(∀x∈l,x∈xs)->Tm.Y7 l=[]/\Tm.V6 l=[]/\Tm.Yq l=[]:=by
     intro l;induction l with
     |nil=>intro _;exact⟨rfl,rfl,rfl⟩
     |cons x r a1=>
      intro P;obtain⟨e1,e2,e3⟩:=a1 λz hz=>P z (by simp[hz])
      obtain⟨-,-,q3,q4,q5⟩:=JV (hx x (P x (by simp))) (J x (P x (by simp)));rw[Tm.Y7,Tm.V6,Tm.Yq,e1,e2,e3,q3,q4,q5];exact⟨rfl,rfl,rfl⟩
    obtain⟨e1,e2,e3⟩:=this xs λ_ h=>h
    refine⟨e1,e2,e3,λn=>?_⟩;rw[TN];refine⟨λ⟨x,g,i⟩=>⟨x,g,?_⟩,λ⟨x,g,i⟩=>⟨x,g,?_⟩⟩
    ·rw[(JV (hx x g) (J x g)).1]at i;exact(List.mem_singleton.1 i).symm
    ·rw[(JV (hx x g) (J x g)).1];simp[i]
   obtain⟨o1,o2,o3,o4⟩:=b5;have a7:∀n,(∃x∈xs,n∈x.free)<->∃x∈xs,x.nm=n:=λn=>by
    refine⟨λ⟨x,g,i⟩=>⟨x,g,?_⟩,λ⟨x,g,i⟩=>⟨x,g,?_⟩⟩
    ·rw[(JV (hx x g) (J x g)).2.1]at i;exact(List.mem_singleton.1 i).symm
    ·rw[(JV (hx x g) (J x g)).2.1];simp[i]
   by_cases h7:k=7
   ·subst h7;have o:∀n,n∈(Tm.mk 7 T a b vs xs cs).Ux<->(∃x∈xs,x.nm=n)\/∃c∈cs,n∈c.Ux:=λn=>by
     rw[Tm.Ux,if_neg oM,List.nil_append,List.mem_append,o4,WU]
    have U:∀n,n∈(Tm.mk 7 T a b vs xs cs).bd<->∃c∈cs,n∈c.bd:=λn=>by
     rw[Tm.bd,if_neg oM,o2,List.nil_append,List.nil_append,ZJ]
    have C:∀n,n∈(Tm.mk 7 T a b vs xs cs).free<->(∃x∈xs,x.nm=n)\/∃c∈cs,n∈c.QC:=λn=>by
     rw[Tm.free,if_neg oM,if_neg oM,if_neg oM,Jf,YQ,a7];simp
    rw[Tm.ow,if_neg oM,if_neg oM,if_pos rfl];generalize hG:Rv has (Tm.mk 7 T a b vs xs cs).free=G;generalize hO:Uq has (Tm.mk 7 T a b vs xs cs).free=O;have a2:∀n∈G,n∈has:=λn f=>by rw[<-hG]at f;exact(J8.1 f).1
    have a3:∀n∈O,n∈has:=λn f=>by rw[<-hO]at f;exact(U3.1 f).1
    obtain⟨I,rfl,b9⟩:=LJ a4;have b6:Xn [I]=I.nm:=rfl;rw[Ov (.inr rfl),Tv (.inr rfl),Oj (.inr rfl),b6,Hg]
    -- one case
    have j:∀t ws y,Cs.mk t ws y∈cs->∃H,(Cs.mk t ws y).ow O I.nm= .mk t ws (cnt 8 (Uq ws y.free) (cnt 9 (if hasB y.free I.nm then[]else[I.nm]) (y.ow H)))/\(∀n∈H,n∈has\/n∈ws)/\
      (∀n∈y.Ux,n∈(y.ow H).Ux)/\(∀n∈(y.ow H).Ux,n∈y.Ux\/n∈H\/n∈y.bd)/\(y.ow H).J9=y.bd/\(∀n∈y.free,n∈y.Ux)/\(∀n∈y.Ux,n∈y.free\/n∈y.bd)/\(y.ow H).Uk=[]/\y.J9=y.bd:=λt ws y P=>by
     refine⟨if hasB y.free I.nm then O++Uq ws y.free else Rv (O++Uq ws y.free) [I.nm],by rw[Cs.ow],λn f=>?_,ih y _ (hc _ P).2 (UL b0 t ws y P)⟩;have:n∈O++Uq ws y.free:=by
      split at f
      ·exact f
      ·exact(J8.1 f).1
     rcases List.mem_append.1 this with h|h
     ·exact .inl (a3 n h)
     ·exact .inr (U3.1 h).1
    have ec:∀(t:Int) (ws:List ByteArray) (y:Tm) (H:List ByteArray),(Cs.mk t ws (cnt 8 (Uq ws y.free) (cnt 9 (if hasB y.free I.nm then[]else[I.nm]) (y.ow H)))).Ux=Uq ws y.free++((if hasB y.free I.nm then[]else[I.nm])++(y.ow H).Ux):=λt ws y H=>by
     rw[Cs.Ux,Ov (.inl rfl),Ov (.inr rfl)]
    have a5:∀n,n∈(Tm.mk 7 0 .empty .empty [] [I] (cs.map λc=>c.ow O I.nm)).Ux<->n=I.nm\/∃c∈cs,n∈(c.ow O I.nm).Ux:=λn=>by
     rw[Tm.Ux,if_neg oM,List.nil_append,List.mem_append,o4,WU];constructor
     ·rintro(⟨x,g,i⟩|⟨c,g,i⟩)
      ·exact .inl (by rw[<-i,List.mem_singleton.1 g])
      ·obtain⟨c0,b7,rfl⟩:=List.mem_map.1 g;exact .inr ⟨c0,b7,i⟩
     ·rintro(rfl|⟨c,g,i⟩)
      ·exact .inl ⟨I,by simp,rfl⟩
      ·exact .inr ⟨_,List.mem_map.2 ⟨c,g,rfl⟩,i⟩
    refine⟨λn f=>?_,λn f=>?_,?_,λn f=>?_,λn f=>?_,?_,?_⟩
    ·rw[List.mem_append,a5];rcases(o n).1 f with⟨x,g,i⟩|⟨c,g,i⟩
     ·simp only[List.mem_singleton]at g;subst g;exact .inr (.inl i.symm)
     ·refine .inr (.inr ⟨c,g,?_⟩);obtain⟨t,ws,y⟩:=c;obtain⟨H,e,-,p1,-⟩:=j t ws y g;rw[e,ec];rw[Cs.Ux]at i;simp only[List.mem_append];exact .inr (.inr (p1 n i))
    ·rw[List.mem_append,a5]at f;rw[o,U];rcases f with f|f|⟨c,g,i⟩
     ·exact .inr (.inl (a2 n f))
     ·exact .inl (.inl ⟨I,by simp,f.symm⟩)
     ·obtain⟨t,ws,y⟩:=c;obtain⟨H,e,pH,p1,p2,-⟩:=j t ws y g;rw[e,ec]at i;simp only[List.mem_append]at i;have hb:∀m,m∈ws->∃c∈cs,m∈c.bd:=λm P=>⟨_,g,by rw[Cs.bd];simp[P]⟩
      rcases i with i|i|i
      ·exact .inr (.inr (hb n (U3.1 i).1))
      ·have:n=I.nm:=by
        split at i
        ·simp at i
        ·simpa using i
       exact .inl (.inl ⟨I,by simp,this.symm⟩)
      ·rcases p2 n i with h|h|h
       ·exact .inl (.inr ⟨_,g,by rw[Cs.Ux];exact h⟩)
       ·rcases pH n h with h|h
        ·exact .inr (.inl h)
        ·exact .inr (.inr (hb n h))
       ·exact .inr (.inr ⟨_,g,by rw[Cs.bd];simp[h]⟩)
    ·rw[Tm.J9,if_neg oM,if_neg oM,o1,Tm.bd,if_neg oM,o2];simp only[List.nil_append];have:∀l:List Cs,(∀c∈l,c∈cs)->Cs.Y7 (l.map λc=>c.ow O I.nm)=Cs.V6 l:=by
      intro l;induction l with
      |nil=>intro _;rfl
      |cons c r a1=>
       intro P;obtain⟨t,ws,y⟩:=c;obtain⟨H,e,-,-,-,p3,-⟩:=j t ws y (P _ (by simp));rw[List.map_cons,Cs.Y7,Cs.V6,a1 λz hz=>P z (by simp[hz]),e,Cs.J9,Tv (.inl rfl),Tv (.inr rfl),p3,Cs.bd]
     exact this cs λ_ h=>h
    ·rw[o];rcases(C n).1 f with h|⟨c,g,i⟩
     ·exact .inl h
     ·obtain⟨t,ws,y⟩:=c;obtain⟨H,-,-,-,-,-,p4,-⟩:=j t ws y g;rw[Cs.QC,J8]at i;exact .inr ⟨_,g,by rw[Cs.Ux];exact p4 n i.1⟩
    ·rw[C,U];rcases(o n).1 f with h|⟨c,g,i⟩
     ·exact .inl (.inl h)
     ·obtain⟨t,ws,y⟩:=c;obtain⟨H,-,-,-,-,-,-,p5,-⟩:=j t ws y g;rw[Cs.Ux]at i;rcases p5 n i with h|h
      ·by_cases hw:n∈ws
       ·exact .inr ⟨_,g,by rw[Cs.bd];simp[hw]⟩
       ·exact .inl (.inr ⟨_,g,by rw[Cs.QC,J8];exact⟨h,hw⟩⟩)
      ·exact .inr ⟨_,g,by rw[Cs.bd];simp[h]⟩
    ·rw[Tm.Uk,if_neg oM,o3];simp only[List.nil_append];have:∀l:List Cs,(∀c∈l,c∈cs)->Cs.Yq (l.map λc=>c.ow O I.nm)=[]:=by
      intro l;induction l with
      |nil=>intro _;rfl
      |cons c r a1=>
       intro P;obtain⟨t,ws,y⟩:=c;obtain⟨H,e,-,-,-,-,-,-,p6,-⟩:=j t ws y (P _ (by simp));rw[List.map_cons,Cs.Yq,a1 λz hz=>P z (by simp[hz]),e,Cs.Uk,Oj (.inl rfl),Oj (.inr rfl),p6];rfl
     exact this cs λ_ h=>h
    ·rw[Tm.J9,if_neg oM,if_neg oM,o1,Tm.bd,if_neg oM,o2];simp only[List.nil_append];have:∀l:List Cs,(∀c∈l,c∈cs)->Cs.Y7 l=Cs.V6 l:=by
      intro l;induction l with
      |nil=>intro _;rfl
      |cons c r a1=>
       intro P;obtain⟨t,ws,y⟩:=c;obtain⟨H,-,-,-,-,-,-,-,-,p7⟩:=j t ws y (P _ (by simp));rw[Cs.Y7,Cs.V6,a1 λz hz=>P z (by simp[hz]),Cs.J9,p7,Cs.bd]
     exact this cs λ_ h=>h
   ·have b8:=MW a4 h7;subst b8;have o:∀n,n∈(Tm.mk k T a b vs xs []).Ux<->(k=1/\n=a)\/∃x∈xs,x.nm=n:=λn=>by
     rw[Tm.Ux,List.mem_append,Cs.Y6,List.append_nil,o4];by_cases e:k=1
     ·rw[if_pos (.inl e)];simp[e]
     ·rw[if_neg oM];simp[e]
    have U:(Tm.mk k T a b vs xs []).bd=[]:=by rw[Tm.bd,if_neg h6,o2];rfl
    have a8:(Tm.mk k T a b vs xs []).J9=[]:=by rw[Tm.J9,if_neg h6,if_neg oM,o1];rfl
    have a9:(Tm.mk k T a b vs xs []).Uk=[]:=by rw[Tm.Uk,if_neg oM,o3];rfl
    have C:∀n,n∈(Tm.mk k T a b vs xs []).free<->(k=1/\n=a)\/∃x∈xs,x.nm=n:=λn=>by
     rw[Tm.free];by_cases e:k=1
     ·subst e;rw[if_pos rfl,MV a4 (.inl rfl)];simp
     ·rw[if_neg e,if_neg oM,if_neg oM,Jf,YQ,a7];simp[e]
    have a2:∀n∈Rv has (Tm.mk k T a b vs xs []).free,n∈has:=λn f=>(J8.1 f).1
    rw[Tm.ow,if_neg h6,if_neg h7];by_cases h3:k=3\/k=4\/k=5
    ·rw[if_pos h3,Ov (.inr rfl),Ov (.inl rfl),Tv (.inr rfl),Tv (.inl rfl),Oj (.inr rfl),Oj (.inl rfl),U,a8,a9];refine⟨λn f=>by simp[f],λn f=>?_,rfl,λn f=>by rw[o];exact(C n).1 f,λn f=>.inl ((C n).2 ((o n).1 f)),rfl,rfl⟩;simp only[List.mem_append]at f;rcases f with f|f|f
     ·exact .inr (.inl (a2 n f))
     ·rw[o];exact .inl (.inr (Zp xs [] n f))
     ·exact .inl f
    ·rw[if_neg h3,Ov (.inr rfl),Tv (.inr rfl),Oj (.inr rfl),U,a8,a9];refine⟨λn f=>by simp[f],λn f=>?_,rfl,λn f=>by rw[o];exact(C n).1 f,λn f=>.inl ((C n).2 ((o n).1 f)),rfl,rfl⟩;rcases List.mem_append.1 f with f|f
     ·exact .inr (.inl (a2 n f))
     ·exact .inl f
theorem ZZ:∀(d:Nat) (t:Tm) (e:Nat),d<=e->t.Rt d->t.Rt e:=by
 intro d;induction d with
 |zero=>intro t e _ h;exact h.elim
 |succ d f=>
  intro t e J h;obtain⟨e,rfl⟩:∃j,e=j+1:=⟨e-1,oM⟩
  obtain⟨k,n,a,b,vs,xs,cs⟩:=t;obtain⟨l,o,r,C,g⟩:=h;exact⟨l,o,r,λx I=>f x e oM (C x I),λc i=>⟨(g c i).1,f _ e oM (g c i).2⟩⟩
theorem Ra(d:Nat):∀(g:Bs) (t:Tm),(∀b∈g,b.2.Rt d)->t.Rt d->(around g t).Rt (g.length+d)
 |[],t,_,h=>by simpa[around]using h
 |b::r,t,i,h=>by
  have j:=Ra d r t (λx f=>i x (List.mem_cons_of_mem _ f)) h;rw[around,List.length_cons,show r.length+1+d=(r.length+d)+1 from by omega];refine⟨oM,rfl,by simp,λx f=>?_,by simp⟩;rcases List.mem_cons.1 f with rfl|f
  ·exact ZZ d _ _ oM (i b (List.mem_cons_self ..))
  ·rw[List.mem_singleton.1 f];exact j
theorem Zx3(s:ByteArray)(d:Nat):(Lm s).Rt (d+1):=⟨oM,rfl,by simp,by simp,by simp⟩
theorem Qj7:∀(d:Nat) (t:Tm) (c:Int),t.Rt d->(t.pl c).1.Rt (7 * d):=by
 intro d;induction d with
 |zero=>intro t _ h;exact h.elim
 |succ d ih=>
 intro t c hR;obtain⟨k,n,a,b,vs,xs,cs⟩:=t;have a1:=hR;obtain⟨hk,f,h6,l,hc⟩:=a1;have hA:∀(g:List Tm) (c:Int),(∀y∈g,y∈xs)->(∀x∈(Tm.ats g c).1,x.Rt (7 * d))/\∀b∈(Tm.ats g c).2.1,b.2.Rt (7 * d):=by
  intro g;induction g with
  |nil=>intro c _;exact⟨λx h=>by simp[Tm.ats]at h,λb h=>by simp[Tm.ats]at h⟩
  |cons y r j=>
   intro c o;have hy:=l y (o y (List.mem_cons_self ..));have a7:0<d:=by
    rcases d with _|d
    ·exact hy.elim
    ·omega
   rw[Tm.ats];split
   ·obtain⟨I,J⟩:=j c λz P=>o z (List.mem_cons_of_mem _ P)
    refine⟨λx l=>?_,J⟩;rcases List.mem_cons.1 l with rfl|l
    ·exact ZZ d _ _ oM hy
    ·exact I x l
   ·obtain⟨I,J⟩:=j (y.pl (wr (c+1))).2 λz P=>o z (List.mem_cons_of_mem _ P)
    refine⟨λx l=>?_,λb hb=>?_⟩
    ·rcases List.mem_cons.1 l with rfl|l
     ·rw[show 7 * d=(7 * d-1)+1 from by omega];exact Zx3 _ _
     ·exact I x l
    ·rcases List.mem_cons.1 hb with rfl|hb
     ·exact ih y _ hy
     ·exact J b hb
 have hL:∀(g:List Tm) (c:Int),(∀y∈g,y∈xs)->(∀x∈(Tm.M5 g c).1,x.Rt (7 * d))/\(Tm.M5 g c).1.length=g.length:=by
  intro g;induction g with
  |nil=>intro c _;exact⟨λx h=>by simp[Tm.M5]at h,rfl⟩
  |cons y r j=>
   intro c o;obtain⟨I,J⟩:=j (y.pl c).2 λz P=>o z (List.mem_cons_of_mem _ P)
   rw[Tm.M5];refine⟨λx i=>?_,by simp[J]⟩;rcases List.mem_cons.1 i with rfl|i
   ·exact ih y c (l y (o y (List.mem_cons_self ..)))
   ·exact I x i
 have hC:∀(g:List Cs) (c:Int),(∀y∈g,y∈cs)->(∀x∈(Cs.M5 g c).1,x.2.length<=6/\x.3.Rt (7 * d))/\(Cs.M5 g c).1.length=g.length:=by
  intro g;induction g with
  |nil=>intro c _;exact⟨λx h=>by simp[Cs.M5]at h,rfl⟩
  |cons y r j=>
   intro c o;obtain⟨I,J⟩:=j (y.pl c).2 λz P=>o z (List.mem_cons_of_mem _ P)
   obtain⟨g1,T⟩:=hc y (o y (List.mem_cons_self ..));obtain⟨t,ws,y⟩:=y;rw[Cs.M5];refine⟨λx i=>?_,by simp[J]⟩;rcases List.mem_cons.1 i with rfl|i
   ·rw[Cs.pl];exact⟨g1,ih y c T⟩
   ·exact I x i
 have a8:=ZN xs c;have C:=UQ xs c;obtain⟨hv,hb⟩:=hA xs c λ_ h=>h
 have a9:xs.length+cs.length<=6:=h6;rw[Tm.pl];split
 ·rename_i a2;have a3:cs=[]:=by
   unfold Xx at f;rcases a2 with rfl|rfl|rfl<;> simp at f<;> exact f.2
  subst a3;have hN:(Tm.mk k n a .empty [] (Tm.ats xs c).1 []).Rt (7 * d+1):=⟨hk,by rw[C];exact f,by rw[C];exact h6,hv,by simp⟩
  exact ZZ _ _ _ oM (Ra (7 * d+1) _ _ (λb U=>ZZ _ _ _ oM (hb b U)) hN)
 split
 ·rename_i a4;subst a4;have a5:xs.length=2/\cs=[]:=by
   unfold Xx at f;simp at f;exact f
  obtain⟨g1,T⟩:=hL xs c λ_ h=>h
  refine ZZ (7 * d+1) _ _ oM ⟨hk,?_,by rw[T];simp;omega,g1,by simp⟩;rw[T,a5.1];rfl
 split
 ·rename_i a6;subst a6;obtain⟨g1,T⟩:=hC cs (Tm.ats xs c).2.2 λ_ h=>h
  have hN:(Tm.mk 7 0 .empty .empty [] (Tm.ats xs c).1 (Cs.M5 cs (Tm.ats xs c).2.2).1).Rt (7 * d+1):=⟨hk,by rw[C,T];exact f,by rw[C,T];exact h6,hv,g1⟩
  have b0:xs.length=1:=by
   unfold Xx at f;simp at f;exact f
  exact ZZ _ _ _ oM (Ra (7 * d+1) _ _ (λb U=>ZZ _ _ _ oM (hb b U)) hN)
 ·exact ZZ (d+1) _ _ oM hR
def Xh7:Bs->Nat
 |[]=>0
 |b::r=>1+b.2.sz+Xh7 r
theorem WZ:∀(bs:Bs) (t:Tm),(around bs t).sz=Xh7 bs+t.sz
 |[],t=>by simp[around,Xh7]
 |b::r,t=>by
  have:=WZ r t;simp only[around,Tm.sz,Tm.Xv,Cs.Xv,Xh7,this];omega
theorem MJ(t:Tm):1<=t.sz:=by obtain⟨k,n,a,b,vs,xs,cs⟩:=t;simp only[Tm.sz];omega
mutual
theorem Tm.Hd:∀(t:Tm) (c:Int),(t.pl c).1.sz+2<=3 * t.sz
 | .mk k n a b vs xs cs,c=>by
  have j:=Tm.CY xs c;have o:=Tm.He xs c;have C:=Cs.He cs (Tm.ats xs c).2.2;rw[Tm.pl];split
  ·dsimp only;rw[WZ];simp only[Tm.sz,Cs.Xv];omega
  split
  ·simp only[Tm.sz,Cs.Xv];omega
  split
  ·dsimp only;rw[WZ];simp only[Tm.sz];omega
  ·simp only[Tm.sz];omega
theorem Tm.CY:∀(l:List Tm) (c:Int),Xh7 (Tm.ats l c).2.1+Tm.Xv (Tm.ats l c).1<=3 * Tm.Xv l
 |[],c=>by simp[Tm.ats,Xh7,Tm.Xv]
 |x::r,c=>by
  have f:=Tm.CY r c;have g:=Tm.Hd x (wr (c+1));have I:=Tm.CY r (x.pl (wr (c+1))).2;have i:∀s,(Lm s).sz=1:=λs=>by simp[Lm,Tm.sz,Tm.Xv,Cs.Xv]
  rw[Tm.ats];split
  ·simp only[Tm.Xv];omega
  ·simp only[Tm.Xv,Xh7,i];omega
theorem Tm.He:∀(l:List Tm) (c:Int),Tm.Xv (Tm.M5 l c).1<=3 * Tm.Xv l
 |[],c=>by simp[Tm.M5,Tm.Xv]
 |x::r,c=>by
  have f:=Tm.He r (x.pl c).2;have g:=Tm.Hd x c;rw[Tm.M5];simp only[Tm.Xv];omega
theorem Cs.He:∀(l:List Cs) (c:Int),Cs.Xv (Cs.M5 l c).1<=3 * Cs.Xv l
 |[],c=>by simp[Cs.M5,Cs.Xv]
 |x::r,c=>by
  have f:=Cs.He r (x.pl c).2;have g:=Cs.Hd x c;rw[Cs.M5];simp only[Cs.Xv];omega
theorem Cs.Hd:∀(d:Cs) (c:Int),(d.pl c).1.sz<=3 * d.sz
 | .mk t ws y,c=>by
  have:=Tm.Hd y c;rw[Cs.pl];simp only[Cs.sz];omega
end
mutual
theorem Tm.Ro:∀(t:Tm) (ps:Ps) (c:Int),(t.rn ps c).1.sz<=t.sz
 | .mk k n a b vs xs cs,ps,c=>by
  have f:=Tm.LM k a ps 0 xs a c;have g:=Cs.Qx9 cs ps (Tm.ZT k a ps 0 xs a c).2.2;rw[Tm.rn];split
  ·simp only[Tm.sz,Tm.Xv,Cs.Xv];omega
  ·simp only[Tm.sz];omega
theorem Tm.LM(k:Int)(a:ByteArray)(ps:Ps):∀(i:Nat) (l:List Tm) (nm:ByteArray) (c:Int),Tm.Xv (Tm.ZT k a ps i l nm c).1<=Tm.Xv l
 |_,[],_,_=>by simp[Tm.ZT,Tm.Xv]
 |i,x::r,nm,c=>by
  rw[Tm.ZT];split
  ·have f:=Tm.Ro x (ps++[(a,Xp (wr (c+1)))]) (wr (c+1));have g:=Tm.LM k a ps (i+1) r (Xp (wr (c+1))) (x.rn (ps++[(a,Xp (wr (c+1)))]) (wr (c+1))).2;simp only[Tm.Xv];omega
  ·have f:=Tm.Ro x ps c;have g:=Tm.LM k a ps (i+1) r nm (x.rn ps c).2;simp only[Tm.Xv];omega
theorem Cs.Qx9:∀(l:List Cs) (ps:Ps) (c:Int),Cs.Xv (Cs.VG l ps c).1<=Cs.Xv l
 |[],_,_=>by simp[Cs.VG,Cs.Xv]
 |x::r,ps,c=>by
  have f:=Cs.Ro x ps c;have g:=Cs.Qx9 r ps (x.rn ps c).2;rw[Cs.VG];simp only[Cs.Xv];omega
theorem Cs.Ro:∀(d:Cs) (ps:Ps) (c:Int),(d.rn ps c).1.sz<=d.sz
 | .mk t ws y,ps,c=>by
  have:=Tm.Ro y (ps++ws.zip (Y5 ws c)) (Rz ws c);rw[Cs.rn];simp only[Cs.sz];omega
end
theorem Fn.Jx7(f:Fn)(g:f.body.Ok)(hr:f.body.Rt 25)(hp:f.params.length<=6)(o:f.body.sz<=349525):f.pl.Pt:=by
 obtain⟨i,j⟩:=Fn.BN f g hr hp;have r:f.rn.body.sz<=f.body.sz:=Tm.Ro f.body _ _;have t:f.pl.body.sz+2<=3 * f.rn.body.sz:=Tm.Hd f.rn.body 0;refine⟨Go.Proofs.YtnddiddkmhiclaaGreatDoor.Qj7 25 f.rn.body 0 (f.Zl hr),⟨i,oM⟩,j,λs l=>XL f.params 0 s ?_⟩;exact l
end
end Go.Proofs.YtnddiddkmhiclaaGreatDoor
