import Derived.Test.YtnddiddkmhiclaaGreatDoorRcD
set_option maxRecDepth 20000
set_option maxHeartbeats 16000000
set_option linter.unusedVariables false
set_option linter.unusedSimpArgs false
namespace Go.Proofs.YtnddiddkmhiclaaGreatDoor
section
open Classical Go.RowKit
section
variable {A:X6} {C:C9} {D:Iq} {k n:Int} {a b:ByteArray} {vs:List ByteArray} {xs:List Tm} {cs:List Cs} {s s':LS} {mt:QZ} {dm:List ByteArray} {ρ:J6} {σ:Env} {h h':Hp} {f:Int} {P PT:List Qx}
theorem Ev.step(E:Ev s mt ρ σ h)(o:s.Ok)(g:s'.Ok){T T':List Qx}(H:RK h (Yz s.ct ρ++P) T)(j:RK h' (Yz s'.ct ρ++P) T')(K:Kp h h')(l:∀n,1<=s'.c n->Gd s n)(r:s'.inn=s.inn):Ev s' mt ρ σ h'/\UV P h h':=by
 have t:UV (Yz s'.ct ρ) h h':=K.Zw4 H j (λx f=>by
  obtain⟨n,C,rfl⟩:=(LS.Sj g).1 f;rcases E.in o (l n C)with i|i
  ·exact .inl (List.mem_append_left _ i)
  ·exact .inr i) λx f=>.inl (List.mem_append_left _ f)
 exact⟨E.keep g l r t,K.Zw4 H j (λx f=>.inl (List.mem_append_right _ f)) λx f=>.inl (List.mem_append_right _ f)⟩
theorem RK.Xj1{R T:List Qx}(H:RK h R T){x:Qx}(g:x.kind≠2):RK h R (x::T):=H.SF (λy f=>by
 rcases List.mem_cons.1 f with rfl|f
 ·exact .inr g
 ·exact .inl f) λi=>by rw[Z9,ZG g];omega
theorem Dm.less(M:Dm s mt dm)(g:∀n,(J3 s'.ct n).isSome=true->n∈dm)(f:s'.inn=s.inn)(i:∀b m,J3 s'.tk b=some m->1<=m):Dm s' mt dm:=
 ⟨g,by rw[f];exact M.inn,M.ms,M.nd,M.nx,i,by rw[f];exact M.li⟩
theorem OZ(h:s.there a=true):Gd s a:=by
 unfold LS.there at h;rw[Bool.or_eq_true]at h;rcases h with h|h
 ·exact .has (by have:=of_decide_eq_true h;omega)
 ·cases hi:J3 s.inn a with
  |none=>rw[hi]at h;cases h
  |some u=>
   rw[hi]at h;exact .lies hi (.has (by have:=of_decide_eq_true h;omega))
theorem Mm{c:Cs}:∀{l:List Cs},(Cs.V6 l).Nodup->c∈l->c.bd.Nodup
 |d::r,h,f=>by
  rw[Cs.V6,List.nodup_append]at h;rcases List.mem_cons.1 f with rfl|f
  ·exact h.1
  ·exact Mm h.2.1 f
theorem SI.one(I:SI A (.mk k n a b vs xs cs) s mt dm)(i:k=8\/k=9\/k=10\/k=11\/k=13){x:Tm}(j:xs=[x])(l:x.Y0 s'=0)(o:s'.Ok)(M:Dm s' mt dm):SI A x s' mt dm:=by
 subst j;have r:cs=[]:=I.sh.2.1 oM;subst r;have e:(Tm.mk k n a b vs [x] []).bd=x.bd:=by rw[Tm.bd,if_neg oM,Tm.V6,Tm.V6,Cs.V6];simp
 refine⟨l,I.tk.2.1.1,?_,o,M,by have:=I.bd;rw[e]at this;exact this,by have:=I.nd;rw[e]at this;exact this,I.sh.2.2.2.1.1⟩;obtain⟨names,f,g⟩:=I.wr;rw[QL i]at g;exact⟨names,f,g⟩
theorem Hm(I:SI A (.mk k n a b vs xs cs) s mt dm)(t:k=10\/k=11)(E:Ev s mt ρ σ h)(C:(s.Xq a vs).1=0):
  1<=s.c a/\(a,vs)∈mt/\(s.Xq a vs).2.Ok/\(∀m,(s.Xq a vs).2.c m=s.c m+M4 vs m-if a=m then 1 else 0)/\(∀m,1<=(s.Xq a vs).2.c m->Gd s m)/\(Qj ρ a).kind=2/\∃c,h.cells[(Qj ρ a).n.toNat]? =some c/\c.slots=vs.map (Qj ρ):=by
 obtain⟨f,g⟩:=I.tk.1 t;obtain⟨o,i,T⟩:=LS.Ud I.ok C;have J:a ∉ vs:=(I.dms.nd _ f).1;have j:1<=s.c a:=by
  have l:=i a;rw[if_pos rfl]at l;have U:=o.nn a;have P:¬1<=M4 vs a:=λh=>J (Hy h)
  omega
 refine⟨j,f,o,i,λm hc=>?_,E.opn _ f (.has j) g⟩;by_cases r:m∈vs
 ·exact .lies (I.dms.li _ f m r) (.has j)
 ·have l:=i m;have P:¬1<=M4 vs m:=λh=>r (Hy h)
  exact .has (by split at l<;> omega)
theorem SN(I:SI A (.mk k n a b vs xs cs) s mt dm)(f:(a,vs)∈mt):∀m,(J3 (s.Xq a vs).2.ct m).isSome=true->m∈dm:=λm h=>by
 rcases Ht m h with h|h
 ·exact I.dms.ct m h
 ·exact(I.dms.ms _ f).2 m h
theorem Qz4(hk:k=8\/k=9\/k=10\/k=11\/k=13)(I:SI A (.mk k n a b vs xs cs) s mt dm)(E:Ev s mt ρ σ h)(H:RK h (Yz s.ct ρ++P) (R6 s.tk ρ++PT)):
  ∃x,xs=[x]/\SI A x (F8 k a b vs s) mt dm/\(Nj k (Qj ρ a) (Qj ρ (excl b)) h).2.2=0/\UV P h (Nj k (Qj ρ a) (Qj ρ (excl b)) h).1/\
   Ev (F8 k a b vs s) mt (if k=11 then (excl b,(Nj k (Qj ρ a) (Qj ρ (excl b)) h).2.1)::ρ else ρ) σ (Nj k (Qj ρ a) (Qj ρ (excl b)) h).1/\
   RK (Nj k (Qj ρ a) (Qj ρ (excl b)) h).1 (Yz (F8 k a b vs s).ct (if k=11 then (excl b,(Nj k (Qj ρ a) (Qj ρ (excl b)) h).2.1)::ρ else ρ)++P) (R6 (F8 k a b vs s).tk (if k=11 then (excl b,(Nj k (Qj ρ a) (Qj ρ (excl b)) h).2.1)::ρ else ρ)++PT):=by
 obtain⟨x,hx,c8,c9,a8,a9,b0⟩:=Ei hk I.Y0;refine⟨x,hx,?_⟩;rcases hk with rfl|rfl|rfl|rfl|rfl
 ·obtain⟨b1,J⟩:=c8 rfl;have T:=OZ b1;obtain⟨f,i⟩:=LS.Qp I.ok a;have U:F8 8 a b vs s=s.inc a:=by unfold F8;rw[if_pos rfl]
  have eh:Nj 8 (Qj ρ a) (Qj ρ (excl b)) h=((h.dup (Qj ρ a)).1,z0,(h.dup (Qj ρ a)).2):=rfl;rw[U,eh,if_neg (by decide)];dsimp only;obtain⟨d1,l,d3⟩:=H.dup (s:=Qj ρ a) (by
   rcases E.in I.ok T with h2|h2
   ·exact .inl (List.mem_append_left _ h2)
   ·exact .inr (.inl h2))
  have H':RK (h.dup (Qj ρ a)).1 (Yz (s.inc a).ct ρ++P) (R6 s.tk ρ++PT):=RK.give [a] l I.ok f λm=>by rw[i m,R3];simp only[M4,List.filter_nil,List.length_nil];split<;> omega
  obtain⟨q1,q2⟩:=E.step I.ok f H H' d3 (λm g=>by
   rw[i m]at g;split at g
   ·rename_i e;rw[<-e];exact T
   ·exact .has g) rfl
  exact⟨I.one oM hx J f (I.dms.less (λm g=>by
   unfold LS.inc at g;dsimp only at g;rw[Xj]at g;by_cases e:a=m
   ·rw[<-e];exact T.dm I.dms
   ·rw[if_neg e]at g;exact I.dms.ct m g) rfl I.dms.tk),d1,q2,q1,H'⟩
 ·obtain⟨h0,J⟩:=c9 rfl;obtain⟨f,i,ht,j,b2,h1⟩:=LS.D5 I.ok h0;have U:F8 9 a b vs s=(s.Vz a).2:=by unfold F8;rw[if_neg (by decide),if_pos rfl]
  have eh:Nj 9 (Qj ρ a) (Qj ρ (excl b)) h=((h.drop (Qj ρ a)).1,z0,(h.drop (Qj ρ a)).2):=rfl;rw[U,eh,if_neg (by decide)];dsimp only;have H1:=H.take [a] I.ok f λm=>by rw[i m,R3];simp only[M4,List.filter_nil,List.length_nil];split<;> omega
  obtain⟨d1,l,d3⟩:=RK.drop H1;obtain⟨q1,q2⟩:=E.step I.ok f H l d3 (λm g=>.has (by rw[i m]at g;split at g<;> omega)) j;rw[ht];exact⟨I.one oM hx J f (I.dms.less (λm g=>I.dms.ct m (by rw[<-b2 m];exact g)) j (by rw[ht];exact I.dms.tk)),d1,q2,q1,l⟩
 ·obtain⟨h0,J⟩:=a9 rfl;obtain⟨h1,g,f,i,a2,a3,c,hc,a4⟩:=Hm I (.inl rfl) E h0;obtain⟨j,ht⟩:=KY s a vs;have U:F8 10 a b vs s=(s.Xq a vs).2:=by unfold F8;rw[if_neg (by decide),if_neg (by decide),if_neg (by decide),if_neg (by decide)]
  have eh:Nj 10 (Qj ρ a) (Qj ρ (excl b)) h=((h.open (Qj ρ a) false).1,z0,(h.open (Qj ρ a) false).2.2):=rfl;rw[U,eh,if_neg (by decide)];dsimp only;obtain⟨t,C,-,-,-,-⟩:=LS.D5 I.ok (Wh h1);have H1:=H.take [a] I.ok t λm=>by rw[C m,R3];simp only[M4,List.filter_nil,List.length_nil];split<;> omega
  obtain⟨c',d0,d1,l,d3⟩:=RK.open H1 a3 false;rw[hc]at d0;cases d0;rw[if_neg (by simp),List.nil_append,a4]at l;have H':=RK.give vs l t f λm=>by rw[i m,C m];split<;> omega
  obtain⟨q1,q2⟩:=E.step I.ok f H H' d3 a2 j;rw[ht];exact⟨I.one oM hx J f (I.dms.less (SN I g) j (by rw[ht];exact I.dms.tk)),d1,q2,q1,H'⟩
 ·obtain⟨h0,hb,b6,J⟩:=b0 rfl;obtain⟨h1,g,f,i,a2,a3,c,hc,a4⟩:=Hm I (.inr rfl) E h0;obtain⟨j,ht⟩:=KY s a vs;have U:F8 11 a b vs s={ (s.Xq a vs).2 with tk:=Jz s.tk b (vs.length:Int) }:=by unfold F8;rw[if_neg (by decide),if_neg (by decide),if_neg (by decide),if_pos rfl,ht]
  have eh:Nj 11 (Qj ρ a) (Qj ρ (excl b)) h=h.hold (Qj ρ a):=rfl;rw[U,eh,if_pos rfl];rw[ht]at J;obtain⟨t,C,-,-,-,-⟩:=LS.D5 I.ok (Wh h1);have H1:=H.take [a] I.ok t λm=>by rw[C m,R3];simp only[M4,List.filter_nil,List.length_nil];split<;> omega
  obtain⟨c',d0,d1,l,d3⟩:=RK.open H1 a3 true;rw[hc]at d0;cases d0;rw[a4]at l;have b3:RK (h.open (Qj ρ a) true).1 (vs.map (Qj ρ)++(Yz (s.Vz a).2.ct ρ++P)) ((h.hold (Qj ρ a)).2.1::(R6 s.tk ρ++PT)):=by
   by_cases a1:(h.open (Qj ρ a) true).2.1=true
   ·rw[if_pos ⟨rfl,a1⟩]at l;have e:(h.hold (Qj ρ a)).2.1=Qj ρ a:=by show(if _ then _ else _)=_;rw[if_pos a1]
    rw[e];exact l
   ·rw[if_neg (λq=>a1 q.2),List.nil_append]at l;have e:(h.hold (Qj ρ a)).2.1=z0:=by show(if _ then _ else _)=_;rw[if_neg a1]
    rw[e];exact l.Xj1 (show(0:Int)≠2 by decide)
  have H':=RK.give vs b3 t f λm=>by rw[i m,C m];split<;> omega
  obtain⟨q1,q2⟩:=E.step I.ok f H H' d3 a2 j;have a5:=SN I g;have a6:({ (s.Xq a vs).2 with tk:=Jz s.tk b (vs.length:Int) }:LS).Ok:=LS.I8 f (I.ok.kt.put _ _);have b4:1<=(vs.length:Int):=by
   have:=(I.tk.1 (.inr rfl)).2;cases vs with
   |nil=>exact absurd rfl this
   |cons v r=>simp;omega
  have M2:Dm ({ (s.Xq a vs).2 with tk:=Jz s.tk b (vs.length:Int) }:LS) mt dm:=I.dms.less a5 j λd m o=>by
   dsimp only at o;rw[Xj]at o;by_cases e:b=d
   ·rw[if_pos e]at o;cases o;exact b4
   ·rw[if_neg e]at o;exact I.dms.tk d m o
  have a7:∀n∈dm,Qj ((excl b,(h.hold (Qj ρ a)).2.1)::ρ) n=Qj ρ n:=λn hn=>Qz9 (I.dms.nx n hn)
  have M1:Dm (s.Xq a vs).2 mt dm:=I.dms.less a5 j (by rw[ht];exact I.dms.tk);have E2:Ev ({ (s.Xq a vs).2 with tk:=Jz s.tk b (vs.length:Int) }:LS) mt ((excl b,(h.hold (Qj ρ a)).2.1)::ρ) σ (h.open (Qj ρ a) true).1:=by
   have:=q1.env M1 a7 (λn _=>rfl);have gd:∀n,Gd ({ (s.Xq a vs).2 with tk:=Jz s.tk b (vs.length:Int) }:LS) n->Gd (s.Xq a vs).2 n:=λn T=>Gd.mono (s:=(s.Xq a vs).2) (s':=({ (s.Xq a vs).2 with tk:=Jz s.tk b (vs.length:Int) }:LS)) (λm g=>.has g) rfl T
   exact⟨λn T=>this.val n (gd n T),this.lies,λp hp T b5=>this.opn p hp (gd _ T) b5⟩
  have er:Yz (s.Xq a vs).2.ct ((excl b,(h.hold (Qj ρ a)).2.1)::ρ)=Yz (s.Xq a vs).2.ct ρ:=Bu f M1 a7;have et:R6 (Jz s.tk b (vs.length:Int)) ((excl b,(h.hold (Qj ρ a)).2.1)::ρ)=(h.hold (Qj ρ a)).2.1::R6 s.tk ρ:=by
   unfold Jz;rw[RF hb];show Qj ((excl b,(h.hold (Qj ρ a)).2.1)::ρ) (excl b)::R6 s.tk _=_;rw[YL rfl,GA λp hp=>YK (λe=>?_) _ _];have e2:=EJ e;have:J3 s.tk p.1=some p.2:=Vb I.ok.kt hp;rw[<-e2,hb]at this;cases this
  refine⟨I.one oM hx J a6 M2,d1,q2,E2,?_⟩;show RK (h.open (Qj ρ a) true).1 (Yz (s.Xq a vs).2.ct _++P) (R6 (Jz s.tk b (vs.length:Int)) _++PT);rw[er,et];exact H'
 ·obtain⟨hb,J⟩:=a8 rfl;have f:({ s with tk:=Pk s.tk b }:LS).Ok:=LS.I8 I.ok (I.ok.kt.filter _);have U:F8 13 a b vs s={ s with tk:=Pk s.tk b }:=by unfold F8;rw[if_neg (by decide),if_neg (by decide),if_pos rfl]
  have eh:Nj 13 (Qj ρ a) (Qj ρ (excl b)) h=((h.free (Qj ρ (excl b))).1,z0,(h.free (Qj ρ (excl b))).2):=rfl;rw[U,eh,if_neg (by decide)];dsimp only;obtain⟨d1,l,d3⟩:=RK.free (H.token I.ok.kt hb);obtain⟨q1,q2⟩:=E.step (s':={ s with tk:=Pk s.tk b }) I.ok f H l d3 (λm g=>.has g) rfl;exact⟨I.one oM hx J f (I.dms.less I.dms.ct rfl λd m o=>by
   dsimp only at o;rw[Zy]at o;split at o
   ·cases o
   ·exact I.dms.tk d m o),d1,q2,q1,l⟩
end
end
section
open Classical Go.RowKit
section
variable {A:X6} {C:C9} {D:Iq} {k n:Int} {a b:ByteArray} {vs:List ByteArray} {xs:List Tm} {cs:List Cs} {s s':LS} {mt:QZ} {dm:List ByteArray} {ρ:J6} {σ:Env} {h h':Hp} {f:Int} {P PT:List Qx}
def Xh8(A:X6)(C:C9)(D:Iq)(N:Nat):Prop:=∀(t:Tm) (s:LS) (mt:QZ) (dm:List ByteArray) (ρ:J6) (σ:Env) (h:Hp) (f:Int) (P PT:List Qx),t.sz<N->SI A t s mt dm->Ev s mt ρ σ h->RK h (Yz s.ct ρ++P) (R6 s.tk ρ++PT)->
 Tn (Tj C t ρ h f) (JF true D t.er σ f) P PT h
theorem Xg6{t:Tm}{m:ByteArray}(h:(J3 (s.fst t).ct m).isSome=true):(J3 s.ct m).isSome=true:=by
 unfold LS.fst at h;dsimp only at h;rw[Fv (λ_ k=>Mk k),Zq t.P5]at h;split at h
 ·rw[Option.isSome_map]at h;exact h
 ·cases h
theorem Xx3{t:Tm}{m:ByteArray}(h:(J3 (s.Nz t).ct m).isSome=true):(J3 s.ct m).isSome=true:=by
 unfold LS.Nz at h;dsimp only at h;rw[Fv (λk v=>if t.P5 k then v-Mk v else v),Option.isSome_map]at h;exact h
theorem NU{q:ByteArray->Bool}{l:List (ByteArray×Int)}{d:ByteArray}{m:Int}(h:J3 (l.filter λp=>q p.1) d=some m):J3 l d=some m:=by
 rw[Zq q]at h;split at h
 ·exact h
 ·cases h
theorem Zj9{N:Nat}(ih:Xh8 A C D N)(hN:Tm.Xv xs<N)(I:SI A (.mk 6 n a b vs xs cs) s mt dm)(E:Ev s mt ρ σ h)(H:RK h (Yz s.ct ρ++P) (R6 s.tk ρ++PT)):Tn (Tj C (.mk 6 n a b vs xs cs) ρ h f) (JF true D (Tm.mk 6 n a b vs xs cs).er σ f) P PT h:=by
 obtain⟨x,y,rfl,b4,a7,a8⟩:=IA I.Y0;simp only[Tm.Xv]at hN;have a9:cs=[]:=I.sh.2.1 (by decide);subst a9;have b0:(Tm.mk 6 n a b vs [x,y] []).bd=[a]++(x.bd++y.bd):=by rw[Tm.bd,if_pos rfl,Tm.V6,Tm.V6,Tm.V6,Cs.V6];simp
 have J:=I.bd;have a2:=I.nd;rw[b0]at J a2;rw[List.nodup_append,List.nodup_append]at a2;obtain⟨-,⟨nx,ny,b5⟩,na⟩:=a2;have ha:=J a (by simp);obtain⟨names,t,hw⟩:=I.wr;rw[Gx (by decide)]at hw⊢;obtain⟨-,-,-,-,-,h6,-⟩:=K3 hw;have wx:∃names t,x.er.wrong A names t=0:=⟨_,_,G6 h6 0 x.er (by rw[Ox];rfl)⟩
 have wy:∃names t,y.er.wrong A names t=0:=⟨_,_,G6 h6 1 y.er (by rw[Ox];rfl)⟩
 have a4:=LS.Qr I.ok x;have a1:=LS.Zi I.ok x;have a5:({ s.Nz x with ct:=Jz (s.Nz x).ct a 1 }:LS).Ok:=LS.O3 a1 a (by decide);have Mx:Dm (s.fst x) mt dm:=I.dms.less (λm j=>I.dms.ct m (Xg6 j)) rfl λd m hd=>I.dms.tk d m (NU hd)
 have U:Dm (s.Nz x) mt dm:=I.dms.less (λm j=>I.dms.ct m (Xx3 j)) rfl λd m hd=>I.dms.tk d m (NU (q:=λb=>!x.Tz b) hd)
 have Ix:SI A x (s.fst x) mt dm:=⟨a7,I.tk.2.1.1,wx,a4,Mx,λm j=>J m (by simp[j]),nx,I.sh.2.2.2.1.1⟩
 have gx:∀m,1<=(s.fst x).c m->Gd s m:=λm j=>.has (by
  rw[LS.Ab]at j;split at j
  ·unfold Mk at j;split at j<;> omega
  ·omega)
 have gr:∀m,1<=(s.Nz x).c m->Gd s m:=λm j=>.has (by
  have:=I.ok.nn m;rw[LS.BB]at j;split at j
  ·unfold Mk at j;split at j<;> omega
  ·exact j)
 have H1:RK h (Yz (s.fst x).ct ρ++(Yz (s.Nz x).ct ρ++P)) (R6 (s.fst x).tk ρ++(R6 (s.Nz x).tk ρ++PT)):=by
  refine RK.SF (T:=R6 s.tk ρ++PT) (H.perm (λz l=>.inl ?_) λi=>?_) (λz l=>.inl ?_) λi=>?_
  ·simp only[List.mem_append]at l⊢;rcases l with l|l|l
   ·exact .inl (Ky I.ok x (.inl l))
   ·exact .inl (Ky I.ok x (.inr l))
   ·exact .inr l
  ·rw[Qw,Qw,Qw,AY I.ok x ρ i];omega
  ·simp only[List.mem_append]at l⊢;rcases l with l|l|l
   ·unfold R6 LS.fst at l;obtain⟨p,h1,rfl⟩:=List.mem_map.1 l;exact .inl (List.mem_map.2 ⟨p,(List.mem_filter.1 h1).1,rfl⟩)
   ·unfold R6 LS.Nz at l;obtain⟨p,h1,rfl⟩:=List.mem_map.1 l;exact .inl (List.mem_map.2 ⟨p,(List.mem_filter.1 h1).1,rfl⟩)
   ·exact .inr l
  ·rw[Qw,Qw,Qw,AB s.tk x.Tz ρ i];show _+(_+_)=_;unfold LS.fst LS.Nz;dsimp only;omega
 have Kr:UV (Yz (s.fst x).ct ρ) h h:=UV.refl H1 λz l=>List.mem_append_left _ l
 have Ex:Ev (s.fst x) mt ρ σ h:=E.keep a4 gx rfl Kr;have g:=ih x _ mt dm ρ σ h f _ _ oM Ix Ex H1;have er:Tj C (.mk 6 n a b vs [x,y] []) ρ h f=Nr C a [x,y] ρ h f:=by rw[Tj,if_neg (by decide),if_neg (by decide),if_neg (by decide),if_neg (by decide),if_neg (by decide),if_neg (by decide),if_pos rfl]
 have ee:JF true D (.mk 6 n a b vs (Tm.D9 [x,y]) (Cs.D9 [])) σ f=EK true D a [x.er,y.er] σ f:=by rw[JF,if_neg (by decide),if_neg (by decide),if_pos rfl,Tm.D9,Tm.D9,Tm.D9]
 rw[er,ee,Nr,EK];generalize Tj C x ρ h f=o at g⊢;generalize JF true D x.er σ f=w at g⊢;obtain⟨r,h1,f1,e1⟩:=o;obtain⟨v,b6,b7⟩:=w;unfold Tn at g;dsimp only at g⊢;rcases g with g|⟨g1,g2⟩
 ·rw[g,if_pos (by decide)];exact .inl rfl
 subst g1;by_cases he:e1=0
 ·obtain⟨rfl,R1,V1,K1⟩:=g2 he;subst he;rw[if_neg (λe=>e rfl),if_neg (λe=>e rfl),WG,Zg5];have a6:∀m∈dm,Qj ((a,r)::ρ) m=Qj ρ m:=λm j=>YK (λe=>ha.1 (by rw[e];exact j)) _ _
  have b1:∀m∈dm,Y8 ((a,v)::σ) m=Y8 σ m:=λm j=>NZ (λe=>ha.1 (by rw[e];exact j)) _ _
  have Er:Ev (s.Nz x) mt ρ σ h1:=E.keep a1 gr rfl (K1.sub λz l=>List.mem_append_left _ l);have a3:=Er.env U a6 b1;have My:Dm ({ s.Nz x with ct:=Jz (s.Nz x).ct a 1 }:LS) mt (a::dm):=by
   refine⟨λm j=>?_,λm j=>List.mem_cons_of_mem _ (U.inn m j),λp hp=>⟨List.mem_cons_of_mem _ (U.ms p hp).1,λz l=>List.mem_cons_of_mem _ ((U.ms p hp).2 z l)⟩,U.nd,λm j=>?_,U.tk,U.li⟩
   ·dsimp only at j;rw[Xj]at j;by_cases e:a=m
    ·rw[e];exact List.mem_cons_self ..
    ·rw[if_neg e]at j;exact List.mem_cons_of_mem _ (U.ct m j)
   ·rcases List.mem_cons.1 j with rfl|j
    ·exact ha.2
    ·exact U.nx m j
  have ga:∀m,Gd ({ s.Nz x with ct:=Jz (s.Nz x).ct a 1 }:LS) m->m=a\/Gd (s.Nz x) m:=λm hg=>by
   induction hg with
   | @has m hc=>
    rw[LS.Mi]at hc;by_cases e:a=m
    ·exact .inl e.symm
    ·rw[if_neg e]at hc;exact .inr (.has hc)
   | @lies m up hi hu b2=>
    right;rcases b2 with e|e
    ·exfalso;obtain⟨ws,h1,-⟩:=E.lies m up hi;exact ha.1 (by rw[<-e];exact(I.dms.ms _ h1).1)
    ·exact .lies hi e
  have Ey:Ev ({ s.Nz x with ct:=Jz (s.Nz x).ct a 1 }:LS) mt ((a,r)::ρ) ((a,v)::σ) h1:=by
   refine⟨λm hg=>?_,a3.lies,λp hp hg b3=>?_⟩
   ·rcases ga m hg with rfl|hg
    ·rw[YL rfl,Ma rfl];exact V1
    ·exact a3.val m hg
   ·rcases ga p.1 hg with e|hg
    ·exfalso;exact ha.1 (by rw[<-e];exact(I.dms.ms p hp).1)
    ·exact a3.opn p hp hg b3
  have H2:RK h1 (Yz ({ s.Nz x with ct:=Jz (s.Nz x).ct a 1 }:LS).ct ((a,r)::ρ)++P) (R6 (s.Nz x).tk ((a,r)::ρ)++PT):=by
   have e1:Yz (s.Nz x).ct ((a,r)::ρ)=Yz (s.Nz x).ct ρ:=Bu a1 U a6;have e2:R6 (s.Nz x).tk ((a,r)::ρ)=R6 (s.Nz x).tk ρ:=GA λp hp=>YK (λe=>ha.2 p.1 e) _ _
   rw[e2];refine RK.give (s:=s.Nz x) [a] ?_ a1 a5 λm=>?_
   ·show RK h1 ([Qj ((a,r)::ρ) a]++(Yz (s.Nz x).ct ((a,r)::ρ)++P)) _;rw[e1,YL rfl];exact R1
   ·rw[LS.Mi,R3];simp only[M4,List.filter_nil,List.length_nil];by_cases e:a=m
    ·subst e;have:(s.Nz x).c a=0:=by
      have h0:J3 (s.Nz x).ct a=none:=by
       cases hq:J3 (s.Nz x).ct a with
       |none=>rfl
       |some q=>exact absurd (U.ct a (by rw[hq];rfl)) ha.1
      unfold LS.c;rw[h0];rfl
     rw[if_pos rfl,if_pos rfl,this];rfl
    ·rw[if_neg e,if_neg e];omega
  have Iy:SI A y ({ s.Nz x with ct:=Jz (s.Nz x).ct a 1 }:LS) mt (a::dm):=⟨a8,I.tk.2.1.2.1,wy,a5,My,λm j=>⟨λhq=>by
   rcases List.mem_cons.1 hq with e|hq
   ·exact na a (by simp) m (by simp[j]) e.symm
   ·exact(J m (by simp[j])).1 hq,(J m (by simp[j])).2⟩,ny,I.sh.2.2.2.1.2.1⟩
  have g':=ih y _ mt (a::dm) _ _ h1 f1 P PT oM Iy Ey H2;rcases g' with g'|⟨g1,g2⟩
  ·exact .inl g'
  ·refine .inr ⟨g1,λq=>?_⟩;obtain⟨q1,q2,q3,q4⟩:=g2 q;exact⟨q1,q2,q3,(K1.sub λz l=>List.mem_append_right _ l).trans q4⟩
 ·rw[if_pos he,if_pos he];exact .inr ⟨rfl,λq=>absurd q he⟩
end
end
section
open Classical Go.RowKit
section
variable {A:X6} {C:C9} {D:Iq} {k n:Int} {a b:ByteArray} {vs:List ByteArray} {xs:List Tm} {cs:List Cs} {s s':LS} {mt:QZ} {dm:List ByteArray} {ρ:J6} {σ:Env} {h h':Hp} {f:Int} {P PT:List Qx}
theorem Qz6{nm:ByteArray}{t:Int}{ws:List ByteArray}{y:Tm}{l:List Qx}{U:List Vl}(hs:s.Ok)(M:Dm s mt dm)(E:Ev s mt ρ σ h)(H:RK h (Yz s.ct ρ++P) (R6 s.tk ρ++PT))(hg:Gd s nm)(h0:(s.U1 nm ws).1=0)(o:∀m∈ws,m ∉ dm/\RX m)
  (hl:ws.length=l.length) (hu:l.length=U.length) (hv:∀(i:Nat) (x:Qx) (v:Vl),l[i]? =some x->U[i]? =some v->SV h x v)
  (ho:l≠[]->(Qj ρ nm).kind=2/\∃c,h.cells[(Qj ρ nm).n.toNat]? =some c/\c.slots=l):
  (s.U1 nm ws).2.Ok/\Dm (s.U1 nm ws).2 ((nm,ws)::mt) (ws++dm)/\Ev (s.U1 nm ws).2 ((nm,ws)::mt) (Yx ws l ρ) (JG ws U σ) h/\RK h (Yz (s.U1 nm ws).2.ct (Yx ws l ρ)++P) (R6 (s.U1 nm ws).2.tk (Yx ws l ρ)++PT):=by
 obtain⟨nd,a4⟩:=Ui nm ws h0;obtain⟨ok',hc,ht⟩:=LS.Xe nm ws hs h0;obtain⟨-,-,hi⟩:=Uh nm ws nd a4;obtain⟨a5,-,-⟩:=WJ nm ws (s:=s);have j:∀m∈dm,m ∉ ws:=λm f hw=>(o m hw).1 f
 have r:∀m∈dm,Qj (Yx ws l ρ) m=Qj ρ m:=λm f=>Qh ws l ρ (j m f)
 have a6:∀m∈dm,Y8 (JG ws U σ) m=Y8 σ m:=λm f=>YB ws U σ (j m f)
 have C:nm∈dm:=hg.dm M;have gd:∀m,Gd (s.U1 nm ws).2 m->m ∉ ws->Gd s m:=λm I=>by
  induction I with
  | @has m a1=>exact λ_=>.has (by rw[hc m]at a1;exact a1)
  | @lies m up g hu ih=>
   intro f;rw[hi m,if_neg f]at g;obtain⟨w2,J,-⟩:=E.lies m up g;exact .lies g (ih (j up (M.ms _ J).1))
 have M':Dm (s.U1 nm ws).2 ((nm,ws)::mt) (ws++dm):=by
  refine⟨λm f=>?_,λm f=>?_,λp hp=>?_,λp hp=>?_,λm f=>?_,by rw[ht];exact M.tk,λp hp v T=>?_⟩
  ·rcases a5 m f with f|f
   ·exact List.mem_append_right _ (M.ct m f)
   ·exact List.mem_append_left _ f
  ·rw[hi m]at f;by_cases e:m∈ws
   ·exact List.mem_append_left _ e
   ·rw[if_neg e]at f;exact List.mem_append_right _ (M.inn m f)
  ·rcases List.mem_cons.1 hp with rfl|hp
   ·exact⟨List.mem_append_right _ C,λv hv=>List.mem_append_left _ hv⟩
   ·exact⟨List.mem_append_right _ (M.ms p hp).1,λv hv=>List.mem_append_right _ ((M.ms p hp).2 v hv)⟩
  ·rcases List.mem_cons.1 hp with rfl|hp
   ·exact⟨j nm C,nd⟩
   ·exact M.nd p hp
  ·rcases List.mem_append.1 f with f|f
   ·exact(o m f).2
   ·exact M.nx m f
  ·rw[hi v];rcases List.mem_cons.1 hp with rfl|hp
   ·rw[if_pos T]
   ·rw[if_neg (j v ((M.ms p hp).2 v T))];exact M.li p hp v T
 have E':=E.env M r a6;refine⟨ok',M',⟨λm I=>?_,λm up g=>?_,λp hp a7 a2=>?_⟩,?_⟩
 ·by_cases f:m∈ws
  ·exact Te ws l U ρ σ nd hl hu hv m f
  ·exact E'.val m (gd m I f)
 ·rw[hi m]at g;by_cases f:m∈ws
  ·rw[if_pos f]at g;cases g;exact⟨ws,List.mem_cons_self ..,f⟩
  ·rw[if_neg f]at g;obtain⟨w2,J,h2⟩:=E.lies m up g;exact⟨w2,List.mem_cons_of_mem _ J,h2⟩
 ·rcases List.mem_cons.1 hp with rfl|hp
  ·have a3:l≠[]:=λe=>a2 (List.eq_nil_of_length_eq_zero (by rw[hl,e];rfl))
   obtain⟨k2,c,J,h2⟩:=ho a3;rw[r nm C];exact⟨k2,c,J,by rw[h2,WX ws l ρ nd hl]⟩
  ·exact E'.opn p hp (gd p.1 a7 (j _ (M.ms p hp).1)) a2
 ·have e2:R6 (s.U1 nm ws).2.tk (Yx ws l ρ)=R6 s.tk ρ:=by
   rw[ht];exact GA λp hp=>Qh ws l ρ λf=>(o _ f).2 p.1 rfl
  have e1:Yz (s.U1 nm ws).2.ct (Yx ws l ρ)=Yz (s.U1 nm ws).2.ct ρ:=Sg λp hp J=>by
   have a8:1<=s.c p.1:=by rw[<-hc,(Di ok' hp).1];exact J
   exact r _ ((Gd.has a8).dm M)
  rw[e1,e2];exact H.take [] hs ok' λm=>by rw[hc m];simp[M4]
theorem AP{N:Nat}(ih:Xh8 A C D N)(hN:Cs.Xv cs<N)(I:SI A (.mk 7 n a b vs xs cs) s mt dm)(E:Ev s mt ρ σ h)(H:RK h (Yz s.ct ρ++P) (R6 s.tk ρ++PT)):Tn (Tj C (.mk 7 n a b vs xs cs) ρ h f) (JF true D (Tm.mk 7 n a b vs xs cs).er σ f) P PT h:=by
 obtain⟨x,rfl,a2,a5,a6⟩:=Iu I.Y0;obtain⟨names,b6,hw⟩:=I.wr;rw[Gx (by decide)]at hw⊢;obtain⟨-,-,-,-,-,-,h7⟩:=K3 hw;obtain⟨-,-,h9⟩:=h7 rfl;have hg:Gd s x.nm:=.has a5;have V:=E.val x.nm hg;have KP:UV P h h:=UV.refl H λz hz=>List.mem_append_right _ hz
 have a7:x.bd=[]:=by
  obtain⟨k,m,a',b',v',b7,b8⟩:=x;obtain rfl:k=1:=a2;have hS:=I.sh.2.2.2.1.1;rw[Tm.bd,if_neg (by decide),hS.1 (.inl rfl),hS.2.1 (by decide),Tm.V6,Cs.V6];rfl
 have a8:(Tm.mk 7 n a b vs [x] cs).bd=Cs.V6 cs:=by rw[Tm.bd,if_neg (by decide),Tm.V6,Tm.V6,a7];simp
 have j:=I.bd;have a3:=I.nd;rw[a8]at j a3;have ee:∀f,JF true D (.mk 7 n a b vs (Tm.D9 [x]) (Cs.D9 cs)) σ f=if (Y8 σ x.nm).KD=true then Zg6 true D (Y8 σ x.nm) (Cs.D9 cs) σ f else (zeroV,f,10):=λf=>by
  rw[JF,if_neg (by decide),if_neg (by decide),if_neg (by decide),XO true D σ f [x] (λz hz=>by rw[List.mem_singleton.1 hz];exact a2),VE,if_neg (by decide),if_neg (λe=>e rfl),if_neg (by decide),if_neg (by decide)];rfl
 have er:Tj C (.mk 7 n a b vs [x] cs) ρ h f=(if (Qj ρ x.nm).kind=0 then (z0,h,f,10)else if (Cv h (Qj ρ x.nm)).2.2≠0 then (z0,h,f,(Cv h (Qj ρ x.nm)).2.2)else Rs C (Cv h (Qj ρ x.nm)).1 (Cv h (Qj ρ x.nm)).2.1 cs ρ h f):=by
  rw[Tj,if_neg (by decide),if_neg (by decide),if_neg (by decide),if_neg (by decide),if_neg (by decide),if_neg (by decide),if_neg (by decide),if_pos rfl];rfl
 rw[ee,er];by_cases h0:(Qj ρ x.nm).kind=0
 ·rw[if_pos h0,if_neg (by rw[V.kind.1.2 h0];exact Bool.false_ne_true)];exact .inr ⟨rfl,λe=>by cases e⟩
 have J:(Y8 σ x.nm).KD=true:=by
  cases U:(Y8 σ x.nm).KD with
  |true=>rfl
  |false=>exact absurd (V.kind.1.1 U) h0
 rw[if_neg h0,if_pos J]
 -- what is seen
 have key:∃(tag:Int) (l:List Qx) (o:List Vl),Cv h (Qj ρ x.nm)=(tag,l,0)/\Y8 σ x.nm= .mk true tag o/\l.length=o.length/\(∀(i:Nat) (z:Qx) (v:Vl),l[i]? =some z->o[i]? =some v->SV h z v)/\
   (l≠[]->(Qj ρ x.nm).kind=2/\∃c,h.cells[(Qj ρ x.nm).n.toNat]? =some c/\c.slots=l):=by
  generalize Y8 σ x.nm=v at V J⊢;generalize a9:Qj ρ x.nm=sl at V h0⊢;cases V with
  |int hk=>exact absurd hk h0
  |KD hk=>exact⟨sl.n,[],[],by rw[Cv,if_neg oM],rfl,rfl,λi z v hz=>by simp at hz,λe=>absurd rfl e⟩
  | @cell _ c ks hk hc hl hs=>
   have b0:sl∈Yz s.ct ρ++P\/sl∈Tx h.cells:=by
    rw[<-a9];rcases E.in I.ok hg with h1|h1
    ·exact .inl (List.mem_append_left _ h1)
    ·exact .inr h1
   obtain⟨c',q1,q2,q3⟩:=H.get b0 hk;rw[hc]at q1;cases q1;exact⟨c.tag,c.slots,ks,by rw[Cv,if_pos hk,q3],rfl,hl,hs,λ_=>⟨hk,c,hc,rfl⟩⟩
 obtain⟨tag,l,o,k1,k2,k3,k4,k5⟩:=key;rw[k1,k2,if_neg (λe=>e rfl)];dsimp only;have a4:∀ds:List Cs,(∀d∈ds,d∈cs)->Tn (Rs C tag l ds ρ h f) (Zg6 true D (.mk true tag o) (Cs.D9 ds) σ f) P PT h:=by
  intro ds;induction ds with
  |nil=>intro _;rw[Rs,Cs.D9,Zg6];exact .inr ⟨rfl,λe=>by cases e⟩
  |cons d r b1=>
   intro T;obtain⟨t,ws,y⟩:=d;have g:=T _ (List.mem_cons_self ..);rw[Rs,Cs.D9,Cs.er,Zg6];by_cases et:t=tag
   ·rw[if_pos (show(Cs.mk t ws y).tag=tag from et),if_pos (show(Cs.mk t ws y.er).tag=(Vl.mk true tag o).n from et)];by_cases el:ws.length=l.length
    ·rw[if_pos (show(Cs.mk t ws y).vars.length=l.length from el),if_pos (show(Cs.mk t ws y.er).vars.length=(Vl.mk true tag o).kids.length from el.trans k3),rnB,evB];obtain⟨b2,b3⟩:=XR (a6 _ g);have b4:∀m∈ws,m ∉ dm/\RX m:=λm T=>j m (ZJ.2 ⟨_,g,by rw[Cs.bd];exact List.mem_append_left _ T⟩)
     obtain⟨q1,q2,q3,q4⟩:=Qz6 (t:=t) (y:=y) I.ok I.dms E H hg b2 b4 el k3 k4 k5;have a1:=Mm a3 g;rw[Cs.bd,List.nodup_append]at a1;have hs:(Cs.mk t ws y).sz<=Cs.Xv cs:=Cs.Z4 g;rw[Cs.sz]at hs;have b5:Cs.mk t ws y.er∈Cs.D9 cs:=by
      rw[UM];exact List.mem_map.2 ⟨_,g,by rw[Cs.er]⟩
     obtain⟨-,-,-,-,-,q6⟩:=Nq h9 b5;refine ih y _ ((x.nm,ws)::mt) (ws++dm) _ _ h f P PT oM ⟨b3,Qi.1 (I.tk.2.2 rfl) _ g,⟨_,_,q6⟩,q1,q2,λm T=>⟨λU=>?_,(j m (ZJ.2 ⟨_,g,by rw[Cs.bd];exact List.mem_append_right _ T⟩)).2⟩,a1.2.1,P6.1 I.sh.2.2.2.2 _ g⟩ q3 q4;rcases List.mem_append.1 U with U|U
     ·exact a1.2.2 m U m T rfl
     ·exact(j m (ZJ.2 ⟨_,g,by rw[Cs.bd];exact List.mem_append_right _ T⟩)).1 U
    ·rw[if_neg (show¬(Cs.mk t ws y).vars.length=l.length from el),if_neg (show¬(Cs.mk t ws y.er).vars.length=(Vl.mk true tag o).kids.length from λe=>el (e.trans k3.symm))];exact .inr ⟨rfl,λe=>by cases e⟩
   ·rw[if_neg (show¬(Cs.mk t ws y).tag=tag from et),if_neg (show¬(Cs.mk t ws y.er).tag=(Vl.mk true tag o).n from et)];exact b1 λd g=>T d (List.mem_cons_of_mem _ g)
 exact a4 cs λ_ h=>h
theorem Qz3(o:Xd2 C D):∀N,Xh8 A C D N:=by
 intro N;induction N with
 |zero=>intro t _ _ _ _ _ _ _ _ _ h;omega
 |succ N i=>
  intro t s mt dm ρ σ h f P PT j I E H;obtain⟨k,n,a,b,vs,xs,cs⟩:=t;rw[Tm.sz]at j;rcases XG I.Y0 with rfl|rfl|(rfl|rfl|rfl)|rfl|rfl|rfl|l
  ·exact Zj7 I E H
  ·exact Zk0 I H
  ·exact Zk1 I E H
  ·exact Qz7 o I E H
  ·exact Qz5 I E H
  ·exact Zj8 I E H
  ·exact Zj9 i oM I E H
  ·exact AP i oM I E H
  ·obtain⟨x,rfl,r,J,T,U,H2⟩:=Qz4 l I E H;simp only[Tm.Xv]at j;have a1:cs=[]:=I.sh.2.1 oM;rw[QL l,Tj,if_neg oM,if_neg oM,if_neg oM,if_neg oM,if_neg oM,if_neg oM,if_neg oM,if_neg oM,if_neg (λe=>e J),WG];have g:=i x _ mt dm _ σ _ f P PT oM r U H2;rcases g with g|⟨g1,g2⟩
   ·exact .inl g
   ·refine .inr ⟨g1,λq=>?_⟩;obtain⟨q1,q2,q3,q4⟩:=g2 q;exact⟨q1,q2,q3,T.trans q4⟩
end
structure FS (A:X6) (x:Fn):Prop where
 Y0:x.Y0=0
 nd:x.params.Nodup
 tk:x.body.Tk []
 wr:∃names deep,x.body.er.wrong A names deep=0
 bd:∀n∈x.body.bd,n ∉ x.params/\RX n
 bn:x.body.bd.Nodup
 px:∀n∈x.params,RX n
 sh:x.body.Sh
def Fn.er(x:Fn):Fn:=⟨x.name,x.params,x.body.er⟩
theorem Ta(name:ByteArray):∀l:List Fn,(l.map Fn.er).find? (λx=>NY x.name name)=(DT l name).map Fn.er
 |[]=>rfl
 |x::r=>by
  rw[List.map_cons,List.find?_cons,DT];by_cases e:x.name=name
  ·rw[if_pos e,show x.er.name=name from e,DV];rfl
  ·rw[if_neg e,CK (show x.er.name≠name from e),Ta name r]
theorem GU(ρ:J6):∀l:List ByteArray,Yz (l.map λp=>(p,(1:Int))) ρ=l.map (Qj ρ)
 |[]=>rfl
 |p::r=>by rw[List.map_cons,Pz,GU ρ r];rfl
theorem AQ{A:X6}{l:List Fn}(hl:∀x∈l,FS A x):∀n,Xd2 (J4 l n) (Qs true (l.map Fn.er) n):=by
 intro m;induction m with
 |zero=>
  intro name vs i h f P PT H o U;rw[J4,Qs,Ta];cases hx:DT l name with
  |none=>exact .inr ⟨rfl,λe=>by cases e⟩
  |some x=>
   show Tn (if _ then _ else _) (if _ then _ else _) P PT h;by_cases hp:x.params.length≠vs.length
   ·rw[if_pos hp,if_pos (show x.er.params.length≠i.length from λe=>hp (e.trans o.symm))];exact .inr ⟨rfl,λe=>by cases e⟩
   ·rw[if_neg hp,if_neg (show¬x.er.params.length≠i.length from λe=>hp λq=>e (q.trans o))];by_cases g:f=0
    ·rw[if_pos g,if_pos g];exact .inr ⟨rfl,λe=>by cases e⟩
    ·rw[if_neg g,if_neg g];exact .inr ⟨rfl,λe=>by cases e⟩
 |succ m ih=>
  intro name vs i h f P PT H o U;rw[J4,Qs,Ta];cases hx:DT l name with
  |none=>exact .inr ⟨rfl,λe=>by cases e⟩
  |some x=>
   show Tn (if _ then _ else _) (if _ then _ else _) P PT h;by_cases hp:x.params.length≠vs.length
   ·rw[if_pos hp,if_pos (show x.er.params.length≠i.length from λe=>hp (e.trans o.symm))];exact .inr ⟨rfl,λe=>by cases e⟩
   ·rw[if_neg hp,if_neg (show¬x.er.params.length≠i.length from λe=>hp λq=>e (q.trans o))];by_cases g:f=0
    ·rw[if_pos g,if_pos g];exact .inr ⟨rfl,λe=>by cases e⟩
    ·rw[if_neg g,if_neg g];have hp:=Decidable.not_not.1 hp;have F:=hl x (EF hx).1;have r:∀n,J3 (Vf x).ct n=if n∈x.params then some 1 else none:=YW x.params
     have C:=Gn F.nd;have a1:∀n,(Vf x).c n=if n∈x.params then 1 else 0:=λn=>by
      unfold LS.c;rw[r n];split<;> rfl
     have t:x.body.Y0 (Vf x)=0:=by rw[<-Fn.Yf F.nd];exact F.Y0
     have J:∀n,(J3 (Vf x).ct n).isSome=true->n∈x.params:=λn j=>by
      rw[r n]at j;by_cases e:n∈x.params
      ·exact e
      ·rw[if_neg e]at j;cases j
     have M:Dm (Vf x) [] x.params:=⟨J,(λn j=>by cases j),(λp hp=>by cases hp),(λp hp=>by cases hp),F.px,(λb m hb=>by cases hb),(λp hp=>by cases hp)⟩
     have I:SI A x.body (Vf x) [] x.params:=⟨t,F.tk,F.wr,C,M,F.bd,F.bn,F.sh⟩
     have gd:∀n,Gd (Vf x) n->n∈x.params:=λn T=>T.dm M
     have E:Ev (Vf x) [] (Yx x.params vs []) (JG x.params i []) h:=⟨λn T=>Te x.params vs i [] [] F.nd hp o U n (gd n T),(λn up j=>by cases j),(λp hp=>by cases hp)⟩
     have H2:RK h (Yz (Vf x).ct (Yx x.params vs [])++P) (R6 (Vf x).tk (Yx x.params vs [])++PT):=by
      show RK h (Yz (x.params.map λp=>(p,(1:Int))) _++P) PT;rw[GU,WX x.params vs [] F.nd hp];exact H
     exact Qz3 ih _ x.body (Vf x) [] x.params _ _ h (f-1) P PT (Nat.lt_succ_self _) I E H2
end
section
open Classical Go.RowKit
def CNe(D:Iq):Prop:=∀a g f,(D a g f).2.2≠14
theorem Qj5(n p q:Int):(Wj n p q).2≠14:=by
 unfold Wj;repeat' split
 all_goals (dsimp only;decide)
theorem Xh2{D:Iq}(J:CNe D)(g:Bool):∀(N:Nat) (t:Tm) (σ:Env) (f:Int),t.sz<N->(JF g D t σ f).2.2≠14:=by
 intro N;induction N with
 |zero=>intro t _ _ h;omega
 |succ N o=>
  intro t σ f P;obtain⟨k,n,a,b,vs,xs,cs⟩:=t;rw[Tm.sz]at P;have C:∀x∈xs,x.sz<N:=λx i=>by have:=Tm.Z4 i;omega
  have T:∀(l:List Tm) (f:Int),(∀x∈l,x.sz<N)->(Xq3 g D l σ f).2.2≠14:=by
   intro l;induction l with
   |nil=>intro f _;rw[Xq3];dsimp only;decide
   |cons x r j=>
    intro f i;rw[Xq3];split
    ·exact o x σ f (i x (List.mem_cons_self ..))
    ·exact j _ λy U=>i y (List.mem_cons_of_mem _ U)
  have hC:∀(v:Vl) (l:List Cs) (f:Int),(∀c∈l,c∈cs)->(Zg6 g D v l σ f).2.2≠14:=by
   intro v l;induction l with
   |nil=>intro f _;rw[Zg6];dsimp only;decide
   |cons c r j=>
    intro f i;have hc:=i c (List.mem_cons_self ..);rw[Zg6];split
    ·split
     ·obtain⟨t,ws,y⟩:=c;have hs:(Cs.mk t ws y).sz<=Cs.Xv cs:=Cs.Z4 hc;rw[Cs.sz]at hs;rw[evB];exact o y _ f oM
     ·dsimp only;decide
    ·exact j f λd hd=>i d (List.mem_cons_of_mem _ hd)
  rw[JF];split
  ·dsimp only;decide
  split
  ·dsimp only;decide
  split
  ·cases xs with
   |nil=>rw[EK];dsimp only;decide
   |cons x r=>
    rw[EK];split
    ·exact o x σ f (C x (List.mem_cons_self ..))
    ·cases r with
     |nil=>rw[Zg5];dsimp only;decide
     |cons y q=>rw[Zg5];exact o y _ _ (C y (by simp))
  ·have I:=T xs f C;unfold VE;split
   ·exact I
   split
   ·exact I
   split
   ·exact J _ _ _
   split
   ·unfold SE;split
    ·dsimp only;decide
    ·split
     ·exact Qj5 _ _ _
     ·dsimp only;decide
   split
   ·exact hC _ cs _ λ_ h=>h
   ·dsimp only;decide
theorem IZ(g:Bool)(l:List Fn):∀n,CNe (Qs g l n):=by
 intro n;induction n with
 |zero=>
  intro a i f;rw[Qs];split
  ·dsimp only;decide
  ·split
   ·dsimp only;decide
   ·split<;> (dsimp only;decide)
 |succ n j=>
  intro a i f;rw[Qs];split
  ·dsimp only;decide
  ·split
   ·dsimp only;decide
   ·split
    ·dsimp only;decide
    ·exact Xh2 j g _ _ _ _ (Nat.lt_succ_self _)
theorem Bb{F:Qx->Int->Vl×Int×Int}{d:Int}:∀(l:List Qx) (f:List Vl) (left:Int),l.length=f.length->0<=left->left<=d->
  (∀(i:Nat) (x:Qx) (v:Vl),l[i]? =some x->f[i]? =some v->∀m,0<=m->m<=d->(0<=v.left m->F x m=(v,v.left m,0))/\(¬0<=v.left m->(F x m).2.2=4))->
  (0<=Vl.lefts f left->Cj F l left=(f,Vl.lefts f left,0))/\(¬0<=Vl.lefts f left->(Cj F l left).2.2=4)
 |[],[],left,_,g,_,_=>⟨λ_=>rfl,λh=>absurd g h⟩
 |x::r,v::f,left,j,g,C,t=>by
  obtain⟨I,J⟩:=t 0 x v rfl rfl left g C;have P:=Vl.BS v left g;rw[Vl.lefts,if_pos g];by_cases o:0<=v.left left
  ·have e:=I o;obtain⟨T,U⟩:=Bb r f (v.left left) (by simpa using j) o oM λi y w hy hw=>t (i+1) y w (by simpa using hy) (by simpa using hw)
   refine⟨λh=>?_,λh=>?_⟩
   ·rw[Cj,e,if_neg (λe=>e rfl)];dsimp only;rw[T h]
   ·rw[Cj,e,if_neg (λe=>e rfl)];exact U h
  ·rw[Vl.WP f (v.left left) oM];refine⟨λh=>absurd h o,λ_=>?_⟩;have e:=J o;rw[Cj,if_pos (by rw[e];decide)];exact e
 |[],_::_,_,j,_,_,_=>by simp at j
 |_::_,[],_,j,_,_,_=>by simp at j
theorem Zx5{h:Hp}{R T:List Qx}(H:RK h R T):∀(d:Nat) (s:Qx) (v:Vl) (left:Int),SV h s v->(s∈R\/s∈Tx h.cells)->0<=left->left<=d->
  (0<=v.left left->Qa h d s left=(v,v.left left,0))/\(¬0<=v.left left->(Qa h d s left).2.2=4):=by
 have zero:∀(v:Vl),¬0<=v.left 0:=λv h=>by
  obtain⟨c,n,j⟩:=v;rw[Vl.left,Vl.WP j _ oM]at h;omega
 intro d;induction d with
 |zero=>
  intro s v left V t U hd;obtain rfl:left=0:=oM;exact⟨λh=>absurd h (zero v),λ_=>by rw[Qa]⟩
 |succ d ih=>
  intro s v left V t U hd;by_cases C:left-1<0
  ·obtain rfl:left=0:=oM;exact⟨λh=>absurd h (zero v),λ_=>by rw[Qa,if_pos C]⟩
  rw[Qa,if_neg C];cases V with
  |int f=>
   have e:Vl.left (.mk false s.n []) left=left-1:=by rw[Vl.left,Vl.lefts]
   rw[e,if_pos f];exact⟨λ_=>rfl,λh=>absurd oM h⟩
  |KD f=>
   have e:Vl.left (.mk true s.n []) left=left-1:=by rw[Vl.left,Vl.lefts]
   rw[e,if_neg oM,if_pos f];exact⟨λ_=>rfl,λh=>absurd oM h⟩
  | @cell _ c j f I g l=>
   obtain⟨c',J,q2,q3⟩:=H.get t f;rw[I]at J;cases J;rw[if_neg oM,if_neg oM,q3,Vl.left];dsimp only;obtain⟨g1,g2⟩:=Bb (F:=Qa h d) (d:=d) c.slots j (left-1) g oM oM λi x v P hv m o r=>ih x v m (l i x v P hv) (.inr (Gw.2 ⟨c,List.mem_of_getElem? I,List.mem_of_getElem? P⟩)) o r
   refine⟨λh=>?_,λh=>?_⟩
   ·rw[g1 h,if_neg (λe=>e rfl)]
   ·have e:=g2 h;rw[if_pos (by rw[e];decide)];exact e
theorem Zk2{A:X6}{l:List Fn}(hl:∀x∈l,FS A x)(name:ByteArray)(args:List Int)(fuel:Int):
  (GR l name args fuel).left=0/\(GR l name args fuel).e≠14/\((GR l name args fuel).e=13\/((GR l name args fuel).e=(Xx0 true (l.map Fn.er) name args fuel).2/\(GR l name args fuel).v=(Xx0 true (l.map Fn.er) name args fuel).1)):=by
 unfold GR Xx0;by_cases t:fuel<0\/300<fuel
 ·rw[if_pos t,if_pos t];exact⟨rfl,by decide,.inr ⟨rfl,rfl⟩⟩
 rw[if_neg t,if_neg t];have g:=AQ hl 40 name (args.map FW) (args.map CZ) Hp.zero fuel [] [] (by
  have:RK Hp.zero (args.map FW++[]) []:=by
   refine RK.start.perm (λs T=>.inr ?_) λi=>?_
   ·rw[List.append_nil]at T;obtain⟨n,-,rfl⟩:=List.mem_map.1 T;exact(by decide:(0:Int)≠2)
   ·rw[List.append_nil,Kv];rcases Nat.eq_zero_or_pos (J5 (args.map FW) i)with q|q
    ·exact q
    ·obtain⟨s,q1,q2,-⟩:=YA q;obtain⟨n,-,rfl⟩:=List.mem_map.1 q1;exact absurd q2 (by decide:¬(0:Int)=2)
  exact this) (by simp) λi x v j I=>by
   rw[List.getElem?_map]at j I;cases hn:args[i]? with
   |none=>rw[hn]at j;cases j
   |some n=>
    rw[hn]at j I;cases j;cases I;exact .int (s:=FW n) rfl
 have J:=IZ true (l.map Fn.er) 40 name (args.map CZ) fuel;generalize J4 l 40 name (args.map FW) Hp.zero fuel=o at g⊢;generalize Qs true (l.map Fn.er) 40 name (args.map CZ) fuel=w at g J⊢;obtain⟨s,h,f,e⟩:=o;obtain⟨v,f',e'⟩:=w;unfold Tn at g;unfold Xh4;dsimp only at g J⊢;rcases g with g|⟨rfl,g⟩
 ·subst g;rw[if_pos (by decide)];exact⟨rfl,by decide,.inl rfl⟩
 by_cases r:e≠0
 ·rw[if_pos r,if_pos r];exact⟨rfl,J,.inr ⟨rfl,rfl⟩⟩
 ·rw[if_neg r,if_neg r];obtain⟨rfl,U,V1,-⟩:=g (Decidable.not_not.1 r);obtain⟨g1,g2⟩:=Zx5 U 1000 s v 1000 V1 (.inl (List.mem_cons_self ..)) oM oM;by_cases C:0<=v.left 1000
  ·have P:UZ h s=(v,0):=by unfold UZ;rw[g1 C,if_neg (λe=>e rfl)]
   obtain⟨d1,d2,-⟩:=U.drop;rw[P,if_neg (λe=>e rfl),if_pos C,if_neg (λe=>e d1)];exact⟨d2.none,(show(0:Int)≠14 by decide),.inr ⟨rfl,rfl⟩⟩
  ·have e4:=g2 C;have P:UZ h s=(zeroV,4):=by unfold UZ;rw[if_pos (by rw[e4];decide),e4]
   rw[P,if_pos (show(zeroV,(4:Int)).2≠0 by decide),if_neg C];exact⟨rfl,by decide,.inr ⟨rfl,rfl⟩⟩
end
section
open Go.RowKit
attribute [local simp] Jb WL WQ WA VO QA Zo Pv Uw Wv Vk Vj Y4 V8 Xo V5 Gj O1 Value.oneCell' X4 Q4 Z6 Yn Nv Z5 AS.after Zz Uj K7 AV.ids ZB Q9.ids UC Qy E5 Nw Lx Kk V9 Gz D8 D6 U4 KI ZQ setAt Fz Je O4 XT L8 XU WY AV.cells Yv K9 L6 M6 AV.kill Q9.kill AV.has AV.Uv Op.operands Call.operands Qf QB X3 Km Zw Jv ZV NE Qt Mj Vv AV.ren ZU Q9.ren Q9.like kept X7 Zr AV.F7 ZC Jp JD Qo Hw AS.F7 Xf T9 Q9.F7 Sz FV Nat.ble_eq Ez E9 U6 D.U7 Xa Ij Rw H6 Ki XM O5 Bw Fx R8 Low ZX
abbrev Hz(l:List Fn)(h:Hp)(f c e:Int):Q9:=.blk 64 [F4 l,La (h.cells.map Qk.row),Iv h.made,Iv h.used,Iv h.live,Iv h.peak,Iv f,Iv c,Iv e]
theorem AL(env:J6)(s:ByteArray):Qv Tryz.prog 77 [.d (Jw env),Sv s] (λ_=>.tuple [Dq (Qj env s),Bv (M9 env s)]) none:=by
 refine Qv.of Tryz.func77 rfl rfl rfl (Nat.le_of_ble_eq_true rfl) ?_;show X8 _ _ (Z7 _ Tryz.f77 _ _ _) (Z6 23 _);refine Wb ?_;apply Wx [] []
 ·conv=>lhs;simp
 ·trivial
 refine Wb ?_;refine Wl (σ:=λu:{e:J6 // Qj e s=Qj env s/\M9 e s=M9 env s}=>⟨23,[(0,.d (Jw u.1)),(1,Sv s),(4,.ptr 4 0)],[(4,some (.blk 48 [Iv 0,Iv 0]))]⟩)
  (μ:=λu=>u.1.length) ⟨env,rfl,rfl⟩ (Le.sub (by simp) (by simp)) (λ⟨e,g,i⟩=>?_)
 dsimp only;cases e with
 |nil=>
  refine Wb ?_;apply Wx [] []
  ·conv=>lhs;simp[Jw]
  ·trivial
  refine Wn ?_;refine We ?_;refine Wb ?_;apply Wx [] []
  ·conv=>lhs;simp
  ·trivial
  refine Wt ?_;try dsimp only[Q8,Q5]
  apply Z7.ret
  ·rfl
  ·conv=>lhs;simp[Q7,Tryz.results77]
  ·rw[<-g,<-i];rfl
 |cons p r=>
  obtain⟨x,v⟩:=p;refine Wb ?_;apply Wx [] []
  ·conv=>lhs;simp[Jw]
  ·trivial
  refine Wy ?_;refine Ws ?_;by_cases f:x=s
  ·rw[YL f]at g;rw[VT f]at i;refine Wb ?_;apply Wx [] []
   ·conv=>lhs;simp[f]
   ·trivial
   refine Wy ?_;refine Wb ?_;apply Wx [] []
   ·conv=>lhs;simp
   ·trivial
   refine Wt ?_;try dsimp only[Q8,Q5]
   apply Z7.ret
   ·rfl
   ·conv=>lhs;simp[Q7,Tryz.results77]
   ·rw[<-g,<-i];rfl
  ·rw[YK f]at g;rw[MP f]at i;refine Wb ?_;apply Wx [] []
   ·conv=>lhs;simp[f]
   ·trivial
   refine Wn ?_;refine Ws ?_;refine Wb ?_;apply Wx [] []
   ·conv=>lhs;simp
   ·trivial
   exact⟨⟨r,g,i⟩,Nat.lt_succ_self _,Le.sub (by simp) (by simp)⟩
theorem Rj(l:List Fn)(h:Hp)(f c x:Int):Z0 Tryz.prog 38 [.ptr 1000 0,Iv x] [(1000,Hz l h f c 0)] (Dq z0) [(1000,Hz l h f c x)]:=by
 refine Z0.of Tryz.func38 rfl rfl (Nat.le_of_ble_eq_true rfl) ?_;show X8 _ _ (Qz _ Tryz.f38 _ _) (X7 19 _ _);refine Wr ?_;by_cases g:x=0
 ·refine Wr ?_ (r:=by conv=>lhs;simp[g]);refine Wn ?_;refine Ws ?_;subst g;refine Wr ?_;refine Wt ?_;try dsimp only[Q8,Q5]
  apply Qz.ret
  ·rfl
  ·conv=>lhs;simp[Q7,Tryz.results38]
  ·rfl
  ·simp[Qq,Q4]
 refine Wr ?_ (r:=by conv=>lhs;simp[g]);refine Wy ?_;refine Wr ?_;refine Wr ?_;refine Wt ?_;try dsimp only[Q8,Q5]
 apply Qz.ret
 ·rfl
 ·conv=>lhs;simp[Q7,Tryz.results38]
 ·rfl
 ·simp[Qq,Q4]
theorem QF(env:J6)(s:ByteArray)(h:M9 env s=true):Qv Tryz.prog 57 [.ptr 1000 0,.d (Jw env),Sv s] (λ_=>Dq (Qj env s)) none:=by
 have f:=AL env s;rw[h]at f;generalize Qj env s=v at f⊢;refine Qv.of Tryz.func57 rfl rfl rfl (Nat.le_of_ble_eq_true rfl) ?_;show X8 _ _ (Z7 _ Tryz.f57 _ _ _) (Z6 20 _);refine Wr ?_;refine Wg [] [.p (λ_=>.tuple [.agg [Iv v.kind,Iv v.n],Bv true]) none] ?_;refine Wr ?_;refine Wn ?_;refine Ws ?_;refine Wr ?_;refine Wt ?_;try dsimp only[Q8,Q5]
 apply Z7.ret
 ·rfl
 ·conv=>lhs;simp[Q7,Tryz.results57]
 ·rfl
theorem Js(l:List Fn)(h g:Hp)(f c e:Int):Z0 Tryz.prog 80 [.ptr 1000 0,Aq g,Iv e] [(1000,Hz l h f c 0)] (.tuple []) [(1000,Hz l (if e=0 then g else h) f c e)]:=by
 refine Z0.of Tryz.func80 rfl rfl (Nat.le_of_ble_eq_true rfl) ?_;show X8 _ _ (Qz _ Tryz.f80 _ _) (X7 15 _ _);refine Wr ?_;by_cases i:e=0
 ·refine Wr ?_ (r:=by conv=>lhs;simp[i]);refine Wn ?_;refine Ws ?_;subst i;refine Wr ?_;try dsimp only[Q8,Q5]
  apply Qz.normal
  ·rfl
  ·conv=>lhs;simp[Q7,Tryz.results80]
  ·rfl
  ·simp[Qq,Q4]
 refine Wr ?_ (r:=by conv=>lhs;simp[i]);refine Wy ?_;have j:=Rj l h f c e;refine Wg [] [.c [] [.ptr 1000 0,Iv e] [(1000,.blk 64 [La (l.map Fn.row),La (h.cells.map Qk.row),Iv h.made,Iv h.used,Iv h.live,Iv h.peak,Iv f,Iv c,Iv 0])] (.agg [Iv 0,Iv 0]) [(1000,.blk 64 [La (l.map Fn.row),La (h.cells.map Qk.row),Iv h.made,Iv h.used,Iv h.live,Iv h.peak,Iv f,Iv c,Iv e])]] ?_;refine Wt ?_;rw[if_neg i];try dsimp only[Q8,Q5]
 apply Qz.ret
 ·rfl
 ·conv=>lhs;simp[Q7,Tryz.results80]
 ·rfl
 ·simp[Qq,Q4]
theorem MM(env:J6)(xs:List Tm)(hl:xs.length<=8796093022207)(U:∀x∈xs,M9 env x.nm=true):Qv Tryz.prog 59 [.ptr 1000 0,Zh9 xs,.d (Jw env)] (λ_=>Rn (Fq env xs)) none:=by
 obtain⟨vs,g⟩:∃vs,vs=Fq env xs:=⟨_,rfl⟩
 rw[<-g];refine Qv.of Tryz.func59 rfl rfl rfl (Nat.le_of_ble_eq_true rfl) ?_;show X8 _ _ (Z7 _ Tryz.f59 _ _ _) (Z6 26 _);refine Wr ?_;refine Wr ?_;refine Wr ?_;refine Wb ?_;refine X8.le (Le.low [400] [] (fr:=[(0,.ptr 1000 0),(2,.d (Jw env)),(7,.arr 400 0 0),(10,La (xs.map Tm.row)),(11,Iv (xs.length:Int)),(12,Iv (0:Int))]) (mem:=[(400,some (.arr 48 2 ((vs.map Qx.row).take 0)))]) rfl (by simp) (by simp)) ?_;refine Wl (σ:=λu:{u:Nat // u<=xs.length}=>⟨26,[(0,.ptr 1000 0),(2,.d (Jw env)),(7,.arr 400 0 u.1),(10,La (xs.map Tm.row)),(11,Iv (xs.length:Int)),(12,Iv (u.1:Int))],[(400,some (.arr 48 2 ((vs.map Qx.row).take u.1)))]⟩)
  (μ:=λu=>xs.length-u.1) ⟨0,Nat.zero_le _⟩ (Le.sub (by simp) (by simp)) (λ⟨i,a1⟩=>?_)
 dsimp only;refine Wr ?_;refine Wb ?_;refine Wc rfl (λo=>?_) (λo=>?_)
 ·have f:i<xs.length:=by have:=of_decide_eq_true o;omega
  clear o;have j:xs[i]? =some xs[i]:=List.getElem?_eq_getElem f;have t:xs[i]∈xs:=List.getElem_mem f;have I:xs.drop i=xs[i]::xs.drop (i+1):=List.drop_eq_getElem_cons f;generalize xs[i]=y at j t I;have T:=QF env y.nm (U y t);have J:vs[i]? =some (Qj env y.nm):=by rw[g];unfold Fq;rw[List.getElem?_map,j];rfl
  have l:(vs.map Qx.row).take (i+1)=(vs.map Qx.row).take i++[(Qj env y.nm).row]:=by rw[List.take_add_one,List.getElem?_map,J];rfl
  have a2:vs.length=xs.length:=by rw[g];exact QY env xs
  have P:min i vs.length=i:=Nat.min_eq_left oM;obtain⟨yk,yn,C,yb,a3,a4,a5⟩:=y;change Qv _ _ [_,_,Sv C] (λ_=>Dq (Qj env C)) none at T;change List.take (i+1) _=_++[(Qj env C).row]at l;generalize Qj env C=v at T l;refine Ws ?_;refine Wr ?_ (r:=by conv=>lhs;simp[Tm.row,Tm.Q3,Cs.Q3,j]);refine Wg [] [.p (λ_=>.agg [Iv v.kind,Iv v.n]) none] ?_;refine Wr ?_;refine⟨⟨i+1,f⟩,by simp;omega,?_⟩;dsimp only;rw[l];exact Le.sub (by simp[P]) (by simp[Qx.row])
 have f:i=xs.length:=by have:=of_decide_eq_false o;omega
 subst f;clear o;rw[show xs.length=vs.length by rw[g];exact(QY env xs).symm,Sz];refine We ?_;apply X8.Hw [400]
 ·conv=>lhs;simp
 refine Wr ?_;refine Wt ?_;try dsimp only[Q8,Q5]
 apply Z7.ret
 ·rfl
 ·conv=>lhs;simp[Q7,Tryz.results59]
 ·rfl
theorem CU(x:Fn)(s:ByteArray):Z0 Tryz.prog 37 [Ae x,.ptr 1000 0] [(1000,Yd s)] (Bv (NY x.name s)) [(1000,Yd s)]:=by
 obtain⟨g,ps,bd⟩:=x;obtain⟨f,i,j,l,o,r,t⟩:=bd;refine Z0.of Tryz.func37 rfl rfl (Nat.le_of_ble_eq_true rfl) ?_;show X8 _ _ (Qz _ Tryz.f37 _ _) (X7 8 _ _);refine Wb ?_;apply Wx [] []
 ·conv=>lhs;simp
 ·trivial
 by_cases h:g=s
 ·subst h;refine Wb ?_;apply Wx [] []
  ·conv=>lhs;simp
  ·trivial
  refine Wt ?_;try dsimp only[Q8,Q5]
  apply Qz.ret
  ·rfl
  ·conv=>lhs;simp[Q7,Tryz.results37]
  ·rw[DV];rfl
  ·simp[Qq,Q4]
 ·refine Wb ?_;apply Wx [] []
  ·conv=>lhs;simp[h]
  ·trivial
  refine Wt ?_;try dsimp only[Q8,Q5]
  apply Qz.ret
  ·rfl
  ·conv=>lhs;simp[Q7,Tryz.results37]
  ·rw[CK h];rfl
  ·simp[Qq,Q4]
theorem Qx8(C:C9){k:Int}(g:k=3\/k=12)(n:Int)(a b:ByteArray)(vs:List ByteArray)(xs:List Tm)(cs:List Cs)(env:J6)(h:Hp)(f:Int):
  Tj C (.mk k n a b vs xs cs) env h f=if xs.length=0 then (⟨1,n⟩,h,f,0)else WE h f (if k=12 then h.use (Qj env (⟨#[33]⟩++b)) n (Fq env xs)else h.make n (Fq env xs)):=by
 rw[Tj,if_neg oM,if_neg oM];rcases g with rfl|rfl
 ·rw[if_pos rfl,if_neg (by decide:¬(3:Int)=12)]
 ·rw[if_neg (by decide),if_pos rfl,if_pos rfl];rfl
theorem Br(h:Hp)(f:Int)(g:Hp)(r:Qx)(e:Int):WE h f (g,r,e)=(r,(if e=0 then g else h),f,e):=by
 unfold WE;by_cases i:e=0
 ·subst i;rfl
 ·dsimp only;rw[if_neg i,if_neg i]
theorem EP(l:List Fn){A:X6}(C:C9){tk P:Int}{ta tb:ByteArray}{I:List ByteArray}{i:List Tm}{J:List Cs}{s:LS}{mt:QZ}{env:J6}(hI:RI A (.mk tk P ta tb I i J) s mt env)(hk:tk=3\/tk=12)(hO:(Tm.mk tk P ta tb I i J).Ok)
  (h:Hp) (f c M:Int) (hH:HI M h) (hM:M<=333333000000) (R:JJ) (j:R=Tj C (.mk tk P ta tb I i J) env h f):
  Z0 Tryz.prog 58 [.ptr 1000 0,.d (.ptr (Tm.mk tk P ta tb I i J).row),.d (Jw env)] [(1000,Hz l h f c 0)] (Dq R.1) [(1000,Hz l R.2.1 R.2.2.1 c R.2.2.2)]:=by
 rw[Qx8 C hk]at j;have T:=hH.ok hM;have U:∀x∈i,M9 env x.nm=true:=by
  rcases hk with rfl|rfl
  ·exact λx U=>(hI.args oM x U).2
  ·exact λx U=>(hI.use.1 x U).2
 have a5:=(hI.KD hk).1;have a1:=MM env i oM U;have a2:=QY env i;obtain⟨V,hV⟩:∃V:Int,((Fq env i).length:Int)=V:=⟨_,rfl⟩
 generalize Fq env i=vs at a1 j a2 hV;have a6:tb.size<=140737488355328:=hO.1.2.1;refine Z0.of Tryz.func58 rfl rfl (Nat.le_of_ble_eq_true rfl) ?_;show X8 _ _ (Qz _ Tryz.f58 _ _) (X7 78 _ _);refine Wr ?_ (r:=by conv=>lhs;simp[Tm.row,Tm.Q3,Cs.Q3]);refine Wg [] [.p (λ_=>La (vs.map Qx.row)) none] ?_;refine Wr ?_;refine Wn ?_;refine Ws ?_;by_cases q1:V=0
 ·refine Wr ?_ (r:=by conv=>lhs;simp[hV,q1]);refine Wy ?_;rw[if_pos oM]at j;subst j;refine Wr ?_;refine Wt ?_;try dsimp only[Q8,Q5]
  apply Qz.ret
  ·rfl
  ·conv=>lhs;simp[Q7,Tryz.results58]
  ·rfl
  ·simp[Qq,Q4]
 refine Wr ?_ (r:=by conv=>lhs;simp[hV,q1]);refine Wn ?_;refine Ws ?_;rw[if_neg oM]at j;refine Wr ?_;refine Wr ?_;refine Wr ?_;by_cases q2:tk=12
 ·refine Wr ?_ (r:=by conv=>lhs;simp[q2]);refine Wy ?_;subst q2;have hg:=QF env (⟨#[33]⟩++tb) hI.use.2;generalize Qj env (⟨#[33]⟩++tb)=u at hg j;have hu:=LA T oM u P vs oM;rw[if_pos rfl]at j;generalize h.use u P vs=o at hu j;obtain⟨g,r,e⟩:=o;rw[Br]at j;dsimp only at hu;refine Wz [] [.p (λ_=>.agg [Iv u.kind,Iv u.n]) none,.p (λ_=>.tuple [.agg [La (g.cells.map Qk.row),Iv g.made,Iv g.used,Iv g.live,Iv g.peak],.agg [Iv r.kind,Iv r.n],Iv e]) none] mixed ?_;have a3:=Js l h g f c e;obtain⟨k,t⟩:∃k,k=(if e=0 then g else h):=⟨_,rfl⟩
  rw[<-t]at a3;refine Wg [] [.c [] [.ptr 1000 0,.agg [La (g.cells.map Qk.row),Iv g.made,Iv g.used,Iv g.live,Iv g.peak],Iv e] [(1000,.blk 64 [La (l.map Fn.row),La (h.cells.map Qk.row),Iv h.made,Iv h.used,Iv h.live,Iv h.peak,Iv f,Iv c,Iv 0])] (.tuple []) [(1000,.blk 64 [La (l.map Fn.row),La (k.cells.map Qk.row),Iv k.made,Iv k.used,Iv k.live,Iv k.peak,Iv f,Iv c,Iv e])]] ?_;rw[<-t]at j;subst j;refine Wr ?_;refine Wt ?_;try dsimp only[Q8,Q5]
  apply Qz.ret
  ·rfl
  ·conv=>lhs;simp[Q7,Tryz.results58]
  ·rfl
  ·simp[Qq,Q4]
 refine Wr ?_ (r:=by conv=>lhs;simp[q2]);refine Wn ?_;have hu:=TT T oM P vs oM;rw[if_neg q2]at j;generalize h.make P vs=o at hu j;obtain⟨g,r,e⟩:=o;rw[Br]at j;dsimp only at hu;refine Wz [] [.p (λ_=>.tuple [.agg [La (g.cells.map Qk.row),Iv g.made,Iv g.used,Iv g.live,Iv g.peak],.agg [Iv r.kind,Iv r.n],Iv e]) none] mixed ?_;have a4:=Js l h g f c e;obtain⟨k,t⟩:∃k,k=(if e=0 then g else h):=⟨_,rfl⟩
 rw[<-t]at a4;refine Wg [] [.c [] [.ptr 1000 0,.agg [La (g.cells.map Qk.row),Iv g.made,Iv g.used,Iv g.live,Iv g.peak],Iv e] [(1000,.blk 64 [La (l.map Fn.row),La (h.cells.map Qk.row),Iv h.made,Iv h.used,Iv h.live,Iv h.peak,Iv f,Iv c,Iv 0])] (.tuple []) [(1000,.blk 64 [La (l.map Fn.row),La (k.cells.map Qk.row),Iv k.made,Iv k.used,Iv k.live,Iv k.peak,Iv f,Iv c,Iv e])]] ?_;rw[<-t]at j;subst j;refine Wr ?_;refine Wt ?_;try dsimp only[Q8,Q5]
 apply Qz.ret
 ·rfl
 ·conv=>lhs;simp[Q7,Tryz.results58]
 ·rfl
 ·simp[Qq,Q4]
theorem Qd8(l:List Fn){A:X6}(C:C9){U:Int}{ta tb:ByteArray}{J:List ByteArray}{i:List Tm}{P:List Cs}{s:LS}{mt:QZ}{env:J6}(hI:RI A (.mk 5 U ta tb J i P) s mt env)
  (h:Hp) (f c:Int) (R:JJ) (g:R=Tj C (.mk 5 U ta tb J i P) env h f):
  Z0 Tryz.prog 60 [.ptr 1000 0,.d (.ptr (Tm.mk 5 U ta tb J i P).row),.d (Jw env)] [(1000,Hz l h f c 0)] (Dq R.1) [(1000,Hz l R.2.1 R.2.2.1 c R.2.2.2)]:=by
 rw[Tj,if_neg oM,if_neg oM,if_neg oM,if_neg oM,if_neg oM,if_pos rfl]at g;have hx:∀x∈i,M9 env x.nm=true:=λx hx=>(hI.args oM x hx).2
 obtain⟨⟨y,z,a1⟩,-⟩:=hI.prim;have t:=MM env i (by rw[a1];simp) hx;obtain⟨vs,T⟩:∃vs,vs=Fq env i:=⟨_,rfl⟩
 rw[<-T]at t g;have j:vs=[Qj env y.nm,Qj env z.nm]:=by rw[T,a1];rfl
 have e0:vs.getD 0 z0=Qj env y.nm:=by rw[j];rfl
 have e1:vs.getD 1 z0=Qj env z.nm:=by rw[j];rfl
 rw[e0,e1]at g;rw[j]at t;clear j e0 e1 T;generalize Qj env y.nm=u at t g;generalize Qj env z.nm=v at t g;obtain⟨uk,un⟩:=u;obtain⟨vk,vn⟩:=v;have t:Qv Tryz.prog 59 [.ptr 1000 0,Zh9 i,.d (Jw env)] (λ_=>La [[.int uk,.int un],[.int vk,.int vn]]) none:=t;refine Z0.of Tryz.func60 rfl rfl (Nat.le_of_ble_eq_true rfl) ?_;show X8 _ _ (Qz _ Tryz.f60 _ _) (X7 72 _ _);refine Wr ?_ (r:=by conv=>lhs;simp[Tm.row,Tm.Q3,Cs.Q3]);refine Wg [] [.p (λ_=>La [[.int uk,.int un],[.int vk,.int vn]]) none] ?_;refine Wr ?_;refine Wn ?_;refine Ws ?_;by_cases q0:uk=0
 ·by_cases I:vk=0
  ·refine Wr ?_ (r:=by conv=>lhs;simp[q0,I]);refine Wn ?_;refine Ws ?_;subst q0;subst I;rw[VZ,if_neg (by dsimp only;omega)]at g;dsimp only at g;have a2:=AO U un vn;generalize Wj U un vn=o at a2 g;obtain⟨⟨rc,rn,a3⟩,w⟩:=o;dsimp only at a2 g;refine Wz [] [.p (λ_=>.tuple [.agg [Bv rc,Iv rn,La (a3.map Vl.row)],Iv w]) none] mixed ?_;by_cases q1:w=0
   ·refine Wr ?_ (r:=by conv=>lhs;simp[q1]);refine Wn ?_;refine Ws ?_;subst q1;rw[if_neg (λe=>e rfl)]at g;subst g;cases rc with
    |true=>
     refine Wr ?_;refine Wy ?_;refine Wr ?_;refine Wt ?_;try dsimp only[Q8,Q5]
     apply Qz.ret
     ·rfl
     ·conv=>lhs;simp[Q7,Tryz.results60]
     ·rfl
     ·simp[Qq,Q4]
    |false=>
     refine Wr ?_;refine Wn ?_;refine Ws ?_;refine Wr ?_;refine Wt ?_;try dsimp only[Q8,Q5]
     apply Qz.ret
     ·rfl
     ·conv=>lhs;simp[Q7,Tryz.results60]
     ·rfl
     ·simp[Qq,Q4]
   refine Wr ?_ (r:=by conv=>lhs;simp[q1]);refine Wy ?_;rw[if_pos q1]at g;subst g;have a4:=Rj l h f c w;refine Wg [] [.c [] [.ptr 1000 0,Iv w] [(1000,.blk 64 [La (l.map Fn.row),La (h.cells.map Qk.row),Iv h.made,Iv h.used,Iv h.live,Iv h.peak,Iv f,Iv c,Iv 0])] (.agg [Iv 0,Iv 0]) [(1000,.blk 64 [La (l.map Fn.row),La (h.cells.map Qk.row),Iv h.made,Iv h.used,Iv h.live,Iv h.peak,Iv f,Iv c,Iv w])]] ?_;refine Wt ?_;try dsimp only[Q8,Q5]
   apply Qz.ret
   ·rfl
   ·conv=>lhs;simp[Q7,Tryz.results60]
   ·rfl
   ·simp[Qq,Q4]
  refine Wr ?_ (r:=by conv=>lhs;simp[q0,I]);refine Wy ?_;obtain rfl:R=(z0,h,f,10):=by
   rw[g,VZ,if_pos (by dsimp only;omega)]
  have a5:=Rj l h f c 10;refine Wg [] [.c [] [.ptr 1000 0,Iv 10] [(1000,.blk 64 [La (l.map Fn.row),La (h.cells.map Qk.row),Iv h.made,Iv h.used,Iv h.live,Iv h.peak,Iv f,Iv c,Iv 0])] (.agg [Iv 0,Iv 0]) [(1000,.blk 64 [La (l.map Fn.row),La (h.cells.map Qk.row),Iv h.made,Iv h.used,Iv h.live,Iv h.peak,Iv f,Iv c,Iv 10])]] ?_;refine Wt ?_;try dsimp only[Q8,Q5]
  apply Qz.ret
  ·rfl
  ·conv=>lhs;simp[Q7,Tryz.results60]
  ·rfl
  ·simp[Qq,Q4]
 by_cases I:vk=0
 ·refine Wr ?_ (r:=by conv=>lhs;simp[q0,I]);refine Wy ?_;obtain rfl:R=(z0,h,f,10):=by
   rw[g,VZ,if_pos (by dsimp only;omega)]
  have a6:=Rj l h f c 10;refine Wg [] [.c [] [.ptr 1000 0,Iv 10] [(1000,.blk 64 [La (l.map Fn.row),La (h.cells.map Qk.row),Iv h.made,Iv h.used,Iv h.live,Iv h.peak,Iv f,Iv c,Iv 0])] (.agg [Iv 0,Iv 0]) [(1000,.blk 64 [La (l.map Fn.row),La (h.cells.map Qk.row),Iv h.made,Iv h.used,Iv h.live,Iv h.peak,Iv f,Iv c,Iv 10])]] ?_;refine Wt ?_;try dsimp only[Q8,Q5]
  apply Qz.ret
  ·rfl
  ·conv=>lhs;simp[Q7,Tryz.results60]
  ·rfl
  ·simp[Qq,Q4]
 refine Wr ?_ (r:=by conv=>lhs;simp[q0]);refine Wy ?_;obtain rfl:R=(z0,h,f,10):=by
  rw[g,VZ,if_pos (by dsimp only;omega)]
 have a7:=Rj l h f c 10;refine Wg [] [.c [] [.ptr 1000 0,Iv 10] [(1000,.blk 64 [La (l.map Fn.row),La (h.cells.map Qk.row),Iv h.made,Iv h.used,Iv h.live,Iv h.peak,Iv f,Iv c,Iv 0])] (.agg [Iv 0,Iv 0]) [(1000,.blk 64 [La (l.map Fn.row),La (h.cells.map Qk.row),Iv h.made,Iv h.used,Iv h.live,Iv h.peak,Iv f,Iv c,Iv 10])]] ?_;refine Wt ?_;try dsimp only[Q8,Q5]
 apply Qz.ret
 ·rfl
 ·conv=>lhs;simp[Q7,Tryz.results60]
 ·rfl
 ·simp[Qq,Q4]
theorem C8(l:List Fn)(name:ByteArray):DT l name=l.find? (λx=>NY x.name name):=by
 induction l with
 |nil=>rfl
 |cons x r f=>
  rw[DT,List.find?_cons];by_cases e:x.name=name
  ·rw[if_pos e,e,DV]
  ·rw[if_neg e,CK e,f]
theorem Sr{l:List Fn}{name:ByteArray}(h:l.find? (λx=>NY x.name name)=none):∀(m:Nat) (vs:List Qx) (g:Hp) (f:Int),J4 l m name vs g f=(z0,g,f,6)
 |0,vs,g,f=>by rw[J4,C8,h]
 |m+1,vs,g,f=>by rw[J4,C8,h]
theorem LQ{l:List Fn}{name:ByteArray}{x:Fn}(h:l.find? (λx=>NY x.name name)=some x):∀(m:Nat) (vs:List Qx) (g:Hp) (f:Int),x.params.length≠vs.length->J4 l m name vs g f=(z0,g,f,6)
 |0,vs,g,f,i=>by rw[J4,C8,h];exact if_pos i
 |m+1,vs,g,f,i=>by rw[J4,C8,h];exact if_pos i
theorem LP{l:List Fn}{name:ByteArray}{x:Fn}(h:l.find? (λx=>NY x.name name)=some x):∀(m:Nat) (vs:List Qx) (g:Hp) (f:Int),x.params.length=vs.length->f=0->J4 l m name vs g f=(z0,g,f,12)
 |0,vs,g,f,i,j=>by rw[J4,C8,h];exact(if_neg (λe=>e i)).trans (if_pos j)
 |m+1,vs,g,f,i,j=>by rw[J4,C8,h];exact(if_neg (λe=>e i)).trans (if_pos j)
theorem Su{l:List Fn}{name:ByteArray}{x:Fn}(h:l.find? (λx=>NY x.name name)=some x){vs:List Qx}{g:Hp}{f:Int}(i:x.params.length=vs.length)(j:¬f=0):J4 l 0 name vs g f=(z0,g,f,9):=by
 rw[J4,C8,h];exact(if_neg (λe=>e i)).trans (if_neg j)
theorem AZ{l:List Fn}{name:ByteArray}{x:Fn}(h:l.find? (λx=>NY x.name name)=some x){m:Nat}{vs:List Qx}{g:Hp}{f:Int}(i:x.params.length=vs.length)(j:¬f=0):J4 l (m+1) name vs g f=Tj (J4 l m) x.body (Yx x.params vs []) g (f-1):=by
 rw[J4,C8,h];exact(if_neg (λe=>e i)).trans (if_neg j)
theorem Vt{ws:List ByteArray}{l:List Qx}{i:Nat}{x:ByteArray}{y:Qx}(f:ws[i]? =some x)(g:l[i]? =some y)(env:J6):Yx (ws.take (i+1)) (l.take (i+1)) env=(x,y)::Yx (ws.take i) (l.take i) env:=by
 unfold Yx;rw[List.take_add_one,List.take_add_one,f,g];have j:=(List.getElem?_eq_some_iff.1 f).1;have o:=(List.getElem?_eq_some_iff.1 g).1;rw[List.zip_append (by simp;omega)];simp
theorem BI{C:C9}{tag t:Int}{l:List Qx}{ws:List ByteArray}{b:Tm}{r:List Cs}{env:J6}{h:Hp}{f:Int}(e:t=tag)(g:ws.length=l.length):Rs C tag l (.mk t ws b::r) env h f=Tj C b (Yx ws l env) h f:=by
 rw[Rs];exact(if_pos e).trans ((if_pos g).trans (by rw[rnB]))
theorem BJ{C:C9}{tag t:Int}{l:List Qx}{ws:List ByteArray}{b:Tm}{r:List Cs}{env:J6}{h:Hp}{f:Int}(e:t=tag)(g:¬ws.length=l.length):Rs C tag l (.mk t ws b::r) env h f=(z0,h,f,11):=by
 rw[Rs];exact(if_pos e).trans (if_neg g)
theorem Sy{C:C9}{tag t:Int}{l:List Qx}{ws:List ByteArray}{b:Tm}{r:List Cs}{env:J6}{h:Hp}{f:Int}(e:¬t=tag):Rs C tag l (.mk t ws b::r) env h f=Rs C tag l r env h f:=by
 rw[Rs];exact if_neg e
structure Rm (X f:Int) (w:Nat) (h:Hp):Prop where
 rm:Room X f w h
 lo:1<=X-60000000 * f-6 * (w:Int)
 hi:X<=333333000000
 f0:0<=f
 f1:f<=300
def KG(A:X6)(l:List Fn)(n N:Nat):Prop:=∀(t:Tm) (s:LS) (mt:QZ) (env:J6) (h:Hp) (f X:Int),t.sz<N->t.Ok->RI A t s mt env->Rm X f t.wg h->
 Z0 Tryz.prog 39 [.ptr 1000 0,.d (.ptr t.row),.d (Jw env)] [(1000,Hz l h f (40-n) 0)] (Dq (Tj (J4 l n) t env h f).1) [(1000,Hz l (Tj (J4 l n) t env h f).2.1 (Tj (J4 l n) t env h f).2.2.1 (40-n) (Tj (J4 l n) t env h f).2.2.2)]
def FC(A:X6)(l:List Fn)(n:Nat):Prop:=∀(name:ByteArray) (vs:List Qx) (h:Hp) (f X:Int),vs.length<=1048576->Rm X f 0 h->
 Z0 Tryz.prog 18 [.ptr 1000 0,Sv name,Rn vs] [(1000,Hz l h f (40-n) 0)] (Dq (J4 l n name vs h f).1) [(1000,Hz l (J4 l n name vs h f).2.1 (J4 l n name vs h f).2.2.1 (40-n) (J4 l n name vs h f).2.2.2)]
theorem Sm{A:X6}(l:List Fn)(n N:Nat)(ih:KG A l n N){tn:Int}{U tb:ByteArray}{I:List ByteArray}{i:List Tm}{J:List Cs}{s:LS}{mt:QZ}{env:J6}(hI:RI A (.mk 8 tn U tb I i J) s mt env)(hO:(Tm.mk 8 tn U tb I i J).Ok)(a6:∀x∈i,x.sz<N)
  (h:Hp) (f X:Int) (hX:Rm X f (Tm.mk 8 tn U tb I i J).wg h) (R:JJ) (P:R=Tj (J4 l n) (.mk 8 tn U tb I i J) env h f):
  Z0 Tryz.prog 62 [.ptr 1000 0,.d (.ptr (Tm.mk 8 tn U tb I i J).row),.d (Jw env)] [(1000,Hz l h f (40-n) 0)] (Dq R.1) [(1000,Hz l R.2.1 R.2.2.1 (40-n) R.2.2.2)]:=by
 obtain⟨C,a3⟩:∃C,C=J4 l n:=⟨_,rfl⟩
 obtain⟨c,a4⟩:∃c:Int,c=40-n:=⟨_,rfl⟩
 rw[<-a3]at P;rw[<-a4];have hw:=hX.rm;have a2:=hX.lo;rw[Tm.wg]at hw a2;obtain⟨y,t,ha,hb,a1⟩:=hI.step oM;rw[t]at hw a2;simp only[Tm.M0]at hw a2;have a7:=hw.ok (by have:=hX.hi;have:=hX.f0;omega);have a8:y.sz<N:=a6 y (by rw[t];simp);have a9:y.Ok:=(Tm.Xz.1 hO.2.2.1) y (by rw[t];simp);have b7:tb.size<=140737488355328:=hO.1.2.1;have b0:i[0]? =some y:=by rw[t];rfl
 have b6:i.head? =some y:=by rw[t];rfl
 have hg:=QF env (U) (ha oM);rw[Tj,if_neg oM,if_neg oM,if_neg oM,if_neg oM,if_neg oM,if_neg oM,if_neg oM,if_neg oM,t]at P;rw[if_neg (by omega:¬(8:Int)=11)]at P;have a1:=a1 z0;rw[if_neg (by omega:¬(8:Int)=11)]at a1;have b1:Nj 8 (Qj env U) (Qj env (excl tb)) h=((h.dup (Qj env U)).1,z0,(h.dup (Qj env U)).2):=rfl;rw[b1]at P;dsimp only at P;generalize Qj env U=u at hg P;have a5:=LB a7 oM oM u;have j:=HI.dup hw oM u;generalize h.dup u=o at a5 P j;obtain⟨g,e⟩:=o;dsimp only at a5 P j;refine Z0.of Tryz.func62 rfl rfl (Nat.le_of_ble_eq_true rfl) ?_;show X8 _ _ (Qz _ Tryz.f62 _ _) (X7 127 _ _);refine Wr ?_ (r:=by conv=>lhs;simp[Tm.row,Tm.Q3,Cs.Q3]);refine Wr ?_;refine Wr ?_;refine Wy ?_;refine Wg [] [.p (λ_=>.agg [Iv u.kind,Iv u.n]) none] ?_;refine Wr ?_;refine Wn ?_;refine Ws ?_;refine Wr ?_;refine Wr ?_;refine Wy ?_;have b2:=Js l h g f c e;obtain⟨k,T⟩:∃k,k=(if e=0 then g else h):=⟨_,rfl⟩
 rw[<-T]at b2;refine Wz [] [.p (λ_=>.tuple [.agg [La (g.cells.map Qk.row),Iv g.made,Iv g.used,Iv g.live,Iv g.peak],Iv e]) none,.c [] [.ptr 1000 0,.agg [La (g.cells.map Qk.row),Iv g.made,Iv g.used,Iv g.live,Iv g.peak],Iv e] [(1000,.blk 64 [La (l.map Fn.row),La (h.cells.map Qk.row),Iv h.made,Iv h.used,Iv h.live,Iv h.peak,Iv f,Iv c,Iv 0])] (.tuple []) [(1000,.blk 64 [La (l.map Fn.row),La (k.cells.map Qk.row),Iv k.made,Iv k.used,Iv k.live,Iv k.peak,Iv f,Iv c,Iv e])]] mixed ?_;by_cases q2:e=0
 ·refine Wr ?_ (r:=by conv=>lhs;simp[q2]);refine Wn ?_;refine Ws ?_;subst q2;rw[if_pos rfl]at T;subst T;rw[if_neg (λe=>e rfl),WG]at P;have hx:=ih y _ mt env k f X a8 a9 a1 ⟨j.mono oM,by have:=hX.lo;omega,hX.hi,hX.f0,hX.f1⟩;rw[<-a3,<-a4,<-P]at hx;obtain⟨yk,yn,ya,yb,b3,b4,b5⟩:=y;simp only[Tm.row,Tm.Q3,Cs.Q3]at hx;obtain⟨v,g2,f2,e2⟩:=R;dsimp only at hx⊢;refine Wg [] [.c [] [.ptr 1000 0,.d (.ptr [.int yk,.int yn,.str ya,.str yb,Q6 b3,.sl (b4.map Tm.row),.sl (b5.map Cs.row)]),.d (Jw env)] [(1000,.blk 64 [La (l.map Fn.row),La (k.cells.map Qk.row),Iv k.made,Iv k.used,Iv k.live,Iv k.peak,Iv f,Iv c,Iv 0])] (.agg [Iv v.kind,Iv v.n]) [(1000,.blk 64 [La (l.map Fn.row),La (g2.cells.map Qk.row),Iv g2.made,Iv g2.used,Iv g2.live,Iv g2.peak,Iv f2,Iv c,Iv e2])]] ?_ (hr:=by conv=>lhs;simp[Tm.row,Tm.Q3,Cs.Q3,b0]);refine Wt ?_;try dsimp only[Q8,Q5]
  apply Qz.ret
  ·rfl
  ·conv=>lhs;simp[Q7,Tryz.results62]
  ·rfl
  ·simp[Qq,Q4]
 refine Wr ?_ (r:=by conv=>lhs;simp[q2]);refine Wy ?_;rw[if_neg q2]at T;obtain rfl:R=(z0,h,f,e):=by rw[P,if_pos q2]
 subst T;refine Wr ?_;refine Wt ?_;try dsimp only[Q8,Q5]
 apply Qz.ret
 ·rfl
 ·conv=>lhs;simp[Q7,Tryz.results62]
 ·rfl
 ·simp[Qq,Q4]
theorem Sl{A:X6}(l:List Fn)(n N:Nat)(ih:KG A l n N){tn:Int}{U tb:ByteArray}{I:List ByteArray}{i:List Tm}{J:List Cs}{s:LS}{mt:QZ}{env:J6}(hI:RI A (.mk 9 tn U tb I i J) s mt env)(hO:(Tm.mk 9 tn U tb I i J).Ok)(a6:∀x∈i,x.sz<N)
  (h:Hp) (f X:Int) (hX:Rm X f (Tm.mk 9 tn U tb I i J).wg h) (R:JJ) (P:R=Tj (J4 l n) (.mk 9 tn U tb I i J) env h f):
  Z0 Tryz.prog 62 [.ptr 1000 0,.d (.ptr (Tm.mk 9 tn U tb I i J).row),.d (Jw env)] [(1000,Hz l h f (40-n) 0)] (Dq R.1) [(1000,Hz l R.2.1 R.2.2.1 (40-n) R.2.2.2)]:=by
 obtain⟨C,a3⟩:∃C,C=J4 l n:=⟨_,rfl⟩
 obtain⟨c,a4⟩:∃c:Int,c=40-n:=⟨_,rfl⟩
 rw[<-a3]at P;rw[<-a4];have hw:=hX.rm;have a2:=hX.lo;rw[Tm.wg]at hw a2;obtain⟨y,t,ha,hb,a1⟩:=hI.step oM;rw[t]at hw a2;simp only[Tm.M0]at hw a2;have a7:=hw.ok (by have:=hX.hi;have:=hX.f0;omega);have a8:y.sz<N:=a6 y (by rw[t];simp);have a9:y.Ok:=(Tm.Xz.1 hO.2.2.1) y (by rw[t];simp);have b7:tb.size<=140737488355328:=hO.1.2.1;have b0:i[0]? =some y:=by rw[t];rfl
 have b6:i.head? =some y:=by rw[t];rfl
 have hg:=QF env (U) (ha oM);rw[Tj,if_neg oM,if_neg oM,if_neg oM,if_neg oM,if_neg oM,if_neg oM,if_neg oM,if_neg oM,t]at P;rw[if_neg (by omega:¬(9:Int)=11)]at P;have a1:=a1 z0;rw[if_neg (by omega:¬(9:Int)=11)]at a1;have b1:Nj 9 (Qj env U) (Qj env (excl tb)) h=((h.drop (Qj env U)).1,z0,(h.drop (Qj env U)).2):=rfl;rw[b1]at P;dsimp only at P;generalize Qj env U=u at hg P;have a5:=Rl a7 oM u;have j:=HI.drop hw oM u;generalize h.drop u=o at a5 P j;obtain⟨g,e⟩:=o;dsimp only at a5 P j;refine Z0.of Tryz.func62 rfl rfl (Nat.le_of_ble_eq_true rfl) ?_;show X8 _ _ (Qz _ Tryz.f62 _ _) (X7 127 _ _);refine Wr ?_ (r:=by conv=>lhs;simp[Tm.row,Tm.Q3,Cs.Q3]);refine Wr ?_;refine Wr ?_;refine Wy ?_;refine Wg [] [.p (λ_=>.agg [Iv u.kind,Iv u.n]) none] ?_;refine Wr ?_;refine Wn ?_;refine Ws ?_;refine Wr ?_;refine Wr ?_;refine Wn ?_;refine Wr ?_;refine Wy ?_;have b2:=Js l h g f c e;obtain⟨k,T⟩:∃k,k=(if e=0 then g else h):=⟨_,rfl⟩
 rw[<-T]at b2;refine Wz [] [.p (λ_=>.tuple [.agg [La (g.cells.map Qk.row),Iv g.made,Iv g.used,Iv g.live,Iv g.peak],Iv e]) none,.c [] [.ptr 1000 0,.agg [La (g.cells.map Qk.row),Iv g.made,Iv g.used,Iv g.live,Iv g.peak],Iv e] [(1000,.blk 64 [La (l.map Fn.row),La (h.cells.map Qk.row),Iv h.made,Iv h.used,Iv h.live,Iv h.peak,Iv f,Iv c,Iv 0])] (.tuple []) [(1000,.blk 64 [La (l.map Fn.row),La (k.cells.map Qk.row),Iv k.made,Iv k.used,Iv k.live,Iv k.peak,Iv f,Iv c,Iv e])]] mixed ?_;by_cases q2:e=0
 ·refine Wr ?_ (r:=by conv=>lhs;simp[q2]);refine Wn ?_;refine Ws ?_;subst q2;rw[if_pos rfl]at T;subst T;rw[if_neg (λe=>e rfl),WG]at P;have hx:=ih y _ mt env k f X a8 a9 a1 ⟨j.mono oM,by have:=hX.lo;omega,hX.hi,hX.f0,hX.f1⟩;rw[<-a3,<-a4,<-P]at hx;obtain⟨yk,yn,ya,yb,b3,b4,b5⟩:=y;simp only[Tm.row,Tm.Q3,Cs.Q3]at hx;obtain⟨v,g2,f2,e2⟩:=R;dsimp only at hx⊢;refine Wg [] [.c [] [.ptr 1000 0,.d (.ptr [.int yk,.int yn,.str ya,.str yb,Q6 b3,.sl (b4.map Tm.row),.sl (b5.map Cs.row)]),.d (Jw env)] [(1000,.blk 64 [La (l.map Fn.row),La (k.cells.map Qk.row),Iv k.made,Iv k.used,Iv k.live,Iv k.peak,Iv f,Iv c,Iv 0])] (.agg [Iv v.kind,Iv v.n]) [(1000,.blk 64 [La (l.map Fn.row),La (g2.cells.map Qk.row),Iv g2.made,Iv g2.used,Iv g2.live,Iv g2.peak,Iv f2,Iv c,Iv e2])]] ?_ (hr:=by conv=>lhs;simp[Tm.row,Tm.Q3,Cs.Q3,b0]);refine Wt ?_;try dsimp only[Q8,Q5]
  apply Qz.ret
  ·rfl
  ·conv=>lhs;simp[Q7,Tryz.results62]
  ·rfl
  ·simp[Qq,Q4]
 refine Wr ?_ (r:=by conv=>lhs;simp[q2]);refine Wy ?_;rw[if_neg q2]at T;obtain rfl:R=(z0,h,f,e):=by rw[P,if_pos q2]
 subst T;refine Wr ?_;refine Wt ?_;try dsimp only[Q8,Q5]
 apply Qz.ret
 ·rfl
 ·conv=>lhs;simp[Q7,Tryz.results62]
 ·rfl
 ·simp[Qq,Q4]
theorem Pb{A:X6}(l:List Fn)(n N:Nat)(ih:KG A l n N){tn:Int}{U tb:ByteArray}{I:List ByteArray}{i:List Tm}{J:List Cs}{s:LS}{mt:QZ}{env:J6}(hI:RI A (.mk 10 tn U tb I i J) s mt env)(hO:(Tm.mk 10 tn U tb I i J).Ok)(a6:∀x∈i,x.sz<N)
  (h:Hp) (f X:Int) (hX:Rm X f (Tm.mk 10 tn U tb I i J).wg h) (R:JJ) (P:R=Tj (J4 l n) (.mk 10 tn U tb I i J) env h f):
  Z0 Tryz.prog 62 [.ptr 1000 0,.d (.ptr (Tm.mk 10 tn U tb I i J).row),.d (Jw env)] [(1000,Hz l h f (40-n) 0)] (Dq R.1) [(1000,Hz l R.2.1 R.2.2.1 (40-n) R.2.2.2)]:=by
 obtain⟨C,a3⟩:∃C,C=J4 l n:=⟨_,rfl⟩
 obtain⟨c,a4⟩:∃c:Int,c=40-n:=⟨_,rfl⟩
 rw[<-a3]at P;rw[<-a4];have hw:=hX.rm;have a2:=hX.lo;rw[Tm.wg]at hw a2;obtain⟨y,t,ha,hb,a1⟩:=hI.step oM;rw[t]at hw a2;simp only[Tm.M0]at hw a2;have a7:=hw.ok (by have:=hX.hi;have:=hX.f0;omega);have a8:y.sz<N:=a6 y (by rw[t];simp);have a9:y.Ok:=(Tm.Xz.1 hO.2.2.1) y (by rw[t];simp);have b7:tb.size<=140737488355328:=hO.1.2.1;have b0:i[0]? =some y:=by rw[t];rfl
 have b6:i.head? =some y:=by rw[t];rfl
 have hg:=QF env (U) (ha oM);rw[Tj,if_neg oM,if_neg oM,if_neg oM,if_neg oM,if_neg oM,if_neg oM,if_neg oM,if_neg oM,t]at P;rw[if_neg (by omega:¬(10:Int)=11)]at P;have a1:=a1 z0;rw[if_neg (by omega:¬(10:Int)=11)]at a1;have b1:Nj 10 (Qj env U) (Qj env (excl tb)) h=((h.open (Qj env U) false).1,z0,(h.open (Qj env U) false).2.2):=rfl;rw[b1]at P;dsimp only at P;generalize Qj env U=u at hg P;have a5:=TS a7 oM oM u;have j:=HI.open hw oM u false;generalize h.open u false=o at a5 P j;obtain⟨g,b,e⟩:=o;dsimp only at a5 P j;refine Z0.of Tryz.func62 rfl rfl (Nat.le_of_ble_eq_true rfl) ?_;show X8 _ _ (Qz _ Tryz.f62 _ _) (X7 127 _ _);refine Wr ?_ (r:=by conv=>lhs;simp[Tm.row,Tm.Q3,Cs.Q3]);refine Wr ?_;refine Wr ?_;refine Wy ?_;refine Wg [] [.p (λ_=>.agg [Iv u.kind,Iv u.n]) none] ?_;refine Wr ?_;refine Wn ?_;refine Ws ?_;refine Wr ?_;refine Wr ?_;refine Wn ?_;refine Wr ?_;refine Wn ?_;refine Wr ?_;refine Wy ?_;have b2:=Js l h g f c e;obtain⟨k,T⟩:∃k,k=(if e=0 then g else h):=⟨_,rfl⟩
 rw[<-T]at b2;refine Wz [] [.p (λ_=>.tuple [.agg [La (g.cells.map Qk.row),Iv g.made,Iv g.used,Iv g.live,Iv g.peak],Iv e]) none,.c [] [.ptr 1000 0,.agg [La (g.cells.map Qk.row),Iv g.made,Iv g.used,Iv g.live,Iv g.peak],Iv e] [(1000,.blk 64 [La (l.map Fn.row),La (h.cells.map Qk.row),Iv h.made,Iv h.used,Iv h.live,Iv h.peak,Iv f,Iv c,Iv 0])] (.tuple []) [(1000,.blk 64 [La (l.map Fn.row),La (k.cells.map Qk.row),Iv k.made,Iv k.used,Iv k.live,Iv k.peak,Iv f,Iv c,Iv e])]] mixed ?_;by_cases q2:e=0
 ·refine Wr ?_ (r:=by conv=>lhs;simp[q2]);refine Wn ?_;refine Ws ?_;subst q2;rw[if_pos rfl]at T;subst T;rw[if_neg (λe=>e rfl),WG]at P;have hx:=ih y _ mt env k f X a8 a9 a1 ⟨j.mono oM,by have:=hX.lo;omega,hX.hi,hX.f0,hX.f1⟩;rw[<-a3,<-a4,<-P]at hx;obtain⟨yk,yn,ya,yb,b3,b4,b5⟩:=y;simp only[Tm.row,Tm.Q3,Cs.Q3]at hx;obtain⟨v,g2,f2,e2⟩:=R;dsimp only at hx⊢;refine Wg [] [.c [] [.ptr 1000 0,.d (.ptr [.int yk,.int yn,.str ya,.str yb,Q6 b3,.sl (b4.map Tm.row),.sl (b5.map Cs.row)]),.d (Jw env)] [(1000,.blk 64 [La (l.map Fn.row),La (k.cells.map Qk.row),Iv k.made,Iv k.used,Iv k.live,Iv k.peak,Iv f,Iv c,Iv 0])] (.agg [Iv v.kind,Iv v.n]) [(1000,.blk 64 [La (l.map Fn.row),La (g2.cells.map Qk.row),Iv g2.made,Iv g2.used,Iv g2.live,Iv g2.peak,Iv f2,Iv c,Iv e2])]] ?_ (hr:=by conv=>lhs;simp[Tm.row,Tm.Q3,Cs.Q3,b0]);refine Wt ?_;try dsimp only[Q8,Q5]
  apply Qz.ret
  ·rfl
  ·conv=>lhs;simp[Q7,Tryz.results62]
  ·rfl
  ·simp[Qq,Q4]
 refine Wr ?_ (r:=by conv=>lhs;simp[q2]);refine Wy ?_;rw[if_neg q2]at T;obtain rfl:R=(z0,h,f,e):=by rw[P,if_pos q2]
 subst T;refine Wr ?_;refine Wt ?_;try dsimp only[Q8,Q5]
 apply Qz.ret
 ·rfl
 ·conv=>lhs;simp[Q7,Tryz.results62]
 ·rfl
 ·simp[Qq,Q4]
theorem MZ{A:X6}(l:List Fn)(n N:Nat)(ih:KG A l n N){tn:Int}{J tb:ByteArray}{t:List ByteArray}{i:List Tm}{P:List Cs}{s:LS}{mt:QZ}{env:J6}(hI:RI A (.mk 11 tn J tb t i P) s mt env)(hO:(Tm.mk 11 tn J tb t i P).Ok)(a6:∀x∈i,x.sz<N)
  (h:Hp) (f X:Int) (hX:Rm X f (Tm.mk 11 tn J tb t i P).wg h) (R:JJ) (T:R=Tj (J4 l n) (.mk 11 tn J tb t i P) env h f):
  Z0 Tryz.prog 62 [.ptr 1000 0,.d (.ptr (Tm.mk 11 tn J tb t i P).row),.d (Jw env)] [(1000,Hz l h f (40-n) 0)] (Dq R.1) [(1000,Hz l R.2.1 R.2.2.1 (40-n) R.2.2.2)]:=by
 obtain⟨C,a3⟩:∃C,C=J4 l n:=⟨_,rfl⟩
 obtain⟨c,a4⟩:∃c:Int,c=40-n:=⟨_,rfl⟩
 rw[<-a3]at T;rw[<-a4];have hw:=hX.rm;have a1:=hX.lo;rw[Tm.wg]at hw a1;obtain⟨y,I,ha,hb,a2⟩:=hI.step oM;rw[I]at hw a1;simp only[Tm.M0]at hw a1;have a7:=hw.ok (by have:=hX.hi;have:=hX.f0;omega);have a8:y.sz<N:=a6 y (by rw[I];simp);have a9:y.Ok:=(Tm.Xz.1 hO.2.2.1) y (by rw[I];simp);have b7:tb.size<=140737488355328:=hO.1.2.1;have b0:i[0]? =some y:=by rw[I];rfl
 have b6:i.head? =some y:=by rw[I];rfl
 have hg:=QF env (J) (ha oM);rw[Tj,if_neg oM,if_neg oM,if_neg oM,if_neg oM,if_neg oM,if_neg oM,if_neg oM,if_neg oM,I]at T;rw[if_pos rfl]at T;have a2:∀r,RI A y (F8 11 J tb t s) mt ((⟨#[33]⟩++tb,r)::env):=λr=>by have:=a2 r;rw[if_pos rfl]at this;exact this
 have b1:Nj 11 (Qj env J) (Qj env (excl tb)) h=h.hold (Qj env J):=rfl;rw[b1]at T;change R=if (h.hold (Qj env J)).2.2≠0 then _ else WG C [y] ((⟨#[33]⟩++tb,_)::env) _ f at T
 generalize Qj env J=u at hg T;have a5:=TU a7 oM oM u;have j:=HI.hold hw oM u;generalize h.hold u=o at a5 T j;obtain⟨g,r,e⟩:=o;dsimp only at a5 T j;refine Z0.of Tryz.func62 rfl rfl (Nat.le_of_ble_eq_true rfl) ?_;show X8 _ _ (Qz _ Tryz.f62 _ _) (X7 127 _ _);refine Wr ?_ (r:=by conv=>lhs;simp[Tm.row,Tm.Q3,Cs.Q3]);refine Wr ?_;refine Wr ?_;refine Wy ?_;refine Wg [] [.p (λ_=>.agg [Iv u.kind,Iv u.n]) none] ?_;refine Wr ?_;refine Wn ?_;refine Ws ?_;refine Wr ?_;refine Wr ?_;refine Wn ?_;refine Wr ?_;refine Wn ?_;refine Wr ?_;refine Wn ?_;refine Wr ?_;refine Wy ?_;refine Wz [] [.p (λ_=>.tuple [.agg [La (g.cells.map Qk.row),Iv g.made,Iv g.used,Iv g.live,Iv g.peak],.agg [Iv r.kind,Iv r.n],Iv e]) none] mixed ?_;have b2:=Js l h g f c e;obtain⟨k,U⟩:∃k,k=(if e=0 then g else h):=⟨_,rfl⟩
 rw[<-U]at b2;refine Wg [] [.c [] [.ptr 1000 0,.agg [La (g.cells.map Qk.row),Iv g.made,Iv g.used,Iv g.live,Iv g.peak],Iv e] [(1000,.blk 64 [La (l.map Fn.row),La (h.cells.map Qk.row),Iv h.made,Iv h.used,Iv h.live,Iv h.peak,Iv f,Iv c,Iv 0])] (.tuple []) [(1000,.blk 64 [La (l.map Fn.row),La (k.cells.map Qk.row),Iv k.made,Iv k.used,Iv k.live,Iv k.peak,Iv f,Iv c,Iv e])]] ?_;refine Wz [8] [] mixed ?_;by_cases q2:e=0
 ·refine Wr ?_ (r:=by conv=>lhs;simp[q2]);refine Wn ?_;refine Ws ?_;subst q2;rw[if_pos rfl]at U;subst U;rw[if_neg (λe=>e rfl),WG]at T;have hx:=ih y _ mt ((⟨#[33]⟩++tb,r)::env) k f X a8 a9 (a2 r) ⟨j.mono oM,by have:=hX.lo;omega,hX.hi,hX.f0,hX.f1⟩;rw[<-a3,<-a4,<-T]at hx;simp only[Jw]at hx;obtain⟨yk,yn,ya,yb,b3,b4,b5⟩:=y;simp only[Tm.row,Tm.Q3,Cs.Q3]at hx;obtain⟨v,g2,f2,e2⟩:=R;dsimp only at hx⊢;refine Wg [] [.c [] [.ptr 1000 0,.d (.ptr [.int yk,.int yn,.str ya,.str yb,Q6 b3,.sl (b4.map Tm.row),.sl (b5.map Cs.row)]),.d (.ptr [.str (⟨#[33]⟩++tb),.int r.kind,.int r.n,Jw env])] [(1000,.blk 64 [La (l.map Fn.row),La (k.cells.map Qk.row),Iv k.made,Iv k.used,Iv k.live,Iv k.peak,Iv f,Iv c,Iv 0])] (.agg [Iv v.kind,Iv v.n]) [(1000,.blk 64 [La (l.map Fn.row),La (g2.cells.map Qk.row),Iv g2.made,Iv g2.used,Iv g2.live,Iv g2.peak,Iv f2,Iv c,Iv e2])]] ?_ (hr:=by conv=>lhs;simp[Tm.row,Tm.Q3,Cs.Q3,b0]);refine Wt ?_;try dsimp only[Q8,Q5]
  apply Qz.ret
  ·rfl
  ·conv=>lhs;simp[Q7,Tryz.results62]
  ·rfl
  ·simp[Qq,Q4]
 refine Wr ?_ (r:=by conv=>lhs;simp[q2]);refine Wy ?_;rw[if_neg q2]at U;obtain rfl:R=(z0,h,f,e):=by rw[T,if_pos q2]
 subst U;refine Wr ?_;refine Wt ?_;try dsimp only[Q8,Q5]
 apply Qz.ret
 ·rfl
 ·conv=>lhs;simp[Q7,Tryz.results62]
 ·rfl
 ·simp[Qq,Q4]
theorem MX{A:X6}(l:List Fn)(n N:Nat)(ih:KG A l n N){tn:Int}{ta tb:ByteArray}{I:List ByteArray}{i:List Tm}{J:List Cs}{s:LS}{mt:QZ}{env:J6}(hI:RI A (.mk 13 tn ta tb I i J) s mt env)(hO:(Tm.mk 13 tn ta tb I i J).Ok)(a5:∀x∈i,x.sz<N)
  (h:Hp) (f X:Int) (hX:Rm X f (Tm.mk 13 tn ta tb I i J).wg h) (R:JJ) (P:R=Tj (J4 l n) (.mk 13 tn ta tb I i J) env h f):
  Z0 Tryz.prog 62 [.ptr 1000 0,.d (.ptr (Tm.mk 13 tn ta tb I i J).row),.d (Jw env)] [(1000,Hz l h f (40-n) 0)] (Dq R.1) [(1000,Hz l R.2.1 R.2.2.1 (40-n) R.2.2.2)]:=by
 obtain⟨C,a2⟩:∃C,C=J4 l n:=⟨_,rfl⟩
 obtain⟨c,a3⟩:∃c:Int,c=40-n:=⟨_,rfl⟩
 rw[<-a2]at P;rw[<-a3];have hw:=hX.rm;have a1:=hX.lo;rw[Tm.wg]at hw a1;obtain⟨y,t,ha,hb,U⟩:=hI.step oM;rw[t]at hw a1;simp only[Tm.M0]at hw a1;have a6:=hw.ok (by have:=hX.hi;have:=hX.f0;omega);have a7:y.sz<N:=a5 y (by rw[t];simp);have a8:y.Ok:=(Tm.Xz.1 hO.2.2.1) y (by rw[t];simp);have b6:tb.size<=140737488355328:=hO.1.2.1;have a9:i[0]? =some y:=by rw[t];rfl
 have b5:i.head? =some y:=by rw[t];rfl
 have hg:=QF env (⟨#[33]⟩++tb) (hb rfl);rw[Tj,if_neg oM,if_neg oM,if_neg oM,if_neg oM,if_neg oM,if_neg oM,if_neg oM,if_neg oM,t]at P;rw[if_neg (by omega:¬(13:Int)=11)]at P;have U:=U z0;rw[if_neg (by omega:¬(13:Int)=11)]at U;have b0:Nj 13 (Qj env ta) (Qj env (excl tb)) h=((h.free (Qj env (⟨#[33]⟩++tb))).1,z0,(h.free (Qj env (⟨#[33]⟩++tb))).2):=rfl;rw[b0]at P;dsimp only at P;generalize Qj env (⟨#[33]⟩++tb)=u at hg P;have a4:=TV a6 oM u;have j:=HI.free hw oM u;generalize h.free u=o at a4 P j;obtain⟨g,e⟩:=o;dsimp only at a4 P j;refine Z0.of Tryz.func62 rfl rfl (Nat.le_of_ble_eq_true rfl) ?_;show X8 _ _ (Qz _ Tryz.f62 _ _) (X7 127 _ _);refine Wr ?_ (r:=by conv=>lhs;simp[Tm.row,Tm.Q3,Cs.Q3]);refine Wr ?_;refine Wr ?_;refine Wn ?_;refine Ws ?_;refine Wr ?_;refine Wn ?_;refine Ws ?_;refine Wr ?_;refine Wr ?_;refine Wn ?_;refine Wr ?_;refine Wn ?_;refine Wr ?_;refine Wn ?_;refine Wr ?_;refine Wn ?_;refine Wr ?_;refine Wy ?_;have b1:=Js l h g f c e;obtain⟨k,T⟩:∃k,k=(if e=0 then g else h):=⟨_,rfl⟩
 rw[<-T]at b1;refine Wz [] [.p (λ_=>.agg [Iv u.kind,Iv u.n]) none,.p (λ_=>.tuple [.agg [La (g.cells.map Qk.row),Iv g.made,Iv g.used,Iv g.live,Iv g.peak],Iv e]) none,.c [] [.ptr 1000 0,.agg [La (g.cells.map Qk.row),Iv g.made,Iv g.used,Iv g.live,Iv g.peak],Iv e] [(1000,.blk 64 [La (l.map Fn.row),La (h.cells.map Qk.row),Iv h.made,Iv h.used,Iv h.live,Iv h.peak,Iv f,Iv c,Iv 0])] (.tuple []) [(1000,.blk 64 [La (l.map Fn.row),La (k.cells.map Qk.row),Iv k.made,Iv k.used,Iv k.live,Iv k.peak,Iv f,Iv c,Iv e])]] mixed ?_;by_cases q2:e=0
 ·refine Wr ?_ (r:=by conv=>lhs;simp[q2]);refine Wn ?_;refine Ws ?_;subst q2;rw[if_pos rfl]at T;subst T;rw[if_neg (λe=>e rfl),WG]at P;have hx:=ih y _ mt env k f X a7 a8 U ⟨j.mono oM,by have:=hX.lo;omega,hX.hi,hX.f0,hX.f1⟩;rw[<-a2,<-a3,<-P]at hx;obtain⟨yk,yn,ya,yb,b2,b3,b4⟩:=y;simp only[Tm.row,Tm.Q3,Cs.Q3]at hx;obtain⟨v,g2,f2,e2⟩:=R;dsimp only at hx⊢;refine Wg [] [.c [] [.ptr 1000 0,.d (.ptr [.int yk,.int yn,.str ya,.str yb,Q6 b2,.sl (b3.map Tm.row),.sl (b4.map Cs.row)]),.d (Jw env)] [(1000,.blk 64 [La (l.map Fn.row),La (k.cells.map Qk.row),Iv k.made,Iv k.used,Iv k.live,Iv k.peak,Iv f,Iv c,Iv 0])] (.agg [Iv v.kind,Iv v.n]) [(1000,.blk 64 [La (l.map Fn.row),La (g2.cells.map Qk.row),Iv g2.made,Iv g2.used,Iv g2.live,Iv g2.peak,Iv f2,Iv c,Iv e2])]] ?_ (hr:=by conv=>lhs;simp[Tm.row,Tm.Q3,Cs.Q3,a9]);refine Wt ?_;try dsimp only[Q8,Q5]
  apply Qz.ret
  ·rfl
  ·conv=>lhs;simp[Q7,Tryz.results62]
  ·rfl
  ·simp[Qq,Q4]
 refine Wr ?_ (r:=by conv=>lhs;simp[q2]);refine Wy ?_;rw[if_neg q2]at T;obtain rfl:R=(z0,h,f,e):=by rw[P,if_pos q2]
 subst T;refine Wr ?_;refine Wt ?_;try dsimp only[Q8,Q5]
 apply Qz.ret
 ·rfl
 ·conv=>lhs;simp[Q7,Tryz.results62]
 ·rfl
 ·simp[Qq,Q4]
theorem Qx6{A:X6}(l:List Fn)(n N:Nat)(ih:KG A l n N){tn:Int}{ta tb:ByteArray}{a5:List ByteArray}{U:List Tm}{I:List Cs}{s:LS}{mt:QZ}{env:J6}(hI:RI A (.mk 7 tn ta tb a5 U I) s mt env)(hO:(Tm.mk 7 tn ta tb a5 U I).Ok)
  (c7:∀t ws y,Cs.mk t ws y∈I->y.sz<N) (h:Hp) (f X:Int) (hX:Rm X f (Tm.mk 7 tn ta tb a5 U I).wg h) (R:JJ) (T:R=Tj (J4 l n) (.mk 7 tn ta tb a5 U I) env h f):
  Z0 Tryz.prog 61 [.ptr 1000 0,.d (.ptr (Tm.mk 7 tn ta tb a5 U I).row),.d (Jw env)] [(1000,Hz l h f (40-n) 0)] (Dq R.1) [(1000,Hz l R.2.1 R.2.2.1 (40-n) R.2.2.2)]:=by
 obtain⟨C,b5⟩:∃C,C=J4 l n:=⟨_,rfl⟩
 obtain⟨c,b6⟩:∃c:Int,c=40-n:=⟨_,rfl⟩
 rw[<-b5]at T;rw[<-b6];have hw:=hX.rm;have d3:=hX.lo;rw[Tm.wg]at hw d3;obtain⟨y,b7,e1,d4,e3,b8⟩:=hI.match
 have d5:U[0]? =some y:=by rw[b7];rfl
 have d8:U.head? =some y:=by rw[b7];rfl
 have d6:(QK U).nm=y.nm:=by rw[b7];rfl
 have hg:=QF env y.nm d4;rw[Tj,if_neg oM,if_neg oM,if_neg oM,if_neg oM,if_neg oM,if_neg oM,if_neg oM,if_pos rfl,d6]at T;obtain⟨yk,yn,ya,yb,e4,e5,e6⟩:=y;change Qv _ _ [_,_,Sv ya] (λ_=>Dq (Qj env ya)) none at hg;change R=(if (Qj env ya).kind=0 then _ else if (Cv h (Qj env ya)).2.2≠0 then (z0,h,f,(Cv h (Qj env ya)).2.2)else Rs C (Cv h (Qj env ya)).1 (Cv h (Qj env ya)).2.1 I env h f)at T;change∀t ws y,Cs.mk t ws y∈I->ws.length<=6/\∀l:List Qx,ws.length=l.length->RI A y (s.U1 ya ws).2 ((ya,ws)::mt) (Yx ws l env)at b8;generalize Qj env ya=u at hg T;obtain⟨sk,sn⟩:=u;dsimp only at T;refine Z0.of Tryz.func61 rfl rfl (Nat.le_of_ble_eq_true rfl) ?_;show X8 _ _ (Qz _ Tryz.f61 _ _) (X7 118 _ _);refine Wr ?_ (r:=by conv=>lhs;simp[Tm.row,Tm.Q3,Cs.Q3]);refine Wg [] [.p (λ_=>.agg [Iv sk,Iv sn]) none] ?_ (hr:=by conv=>lhs;simp[Tm.row,Tm.Q3,Cs.Q3,d5]);refine Wr ?_;refine Wn ?_;refine Ws ?_;by_cases q1:sk=0
 ·refine Wr ?_ (r:=by conv=>lhs;simp[q1]);refine Wy ?_;subst q1;rw[if_pos rfl]at T;subst T;have e7:=Rj l h f c 10;refine Wg [] [.c [] [.ptr 1000 0,Iv 10] [(1000,.blk 64 [La (l.map Fn.row),La (h.cells.map Qk.row),Iv h.made,Iv h.used,Iv h.live,Iv h.peak,Iv f,Iv c,Iv 0])] (.agg [Iv 0,Iv 0]) [(1000,.blk 64 [La (l.map Fn.row),La (h.cells.map Qk.row),Iv h.made,Iv h.used,Iv h.live,Iv h.peak,Iv f,Iv c,Iv 10])]] ?_;refine Wt ?_;try dsimp only[Q8,Q5]
  apply Qz.ret
  ·rfl
  ·conv=>lhs;simp[Q7,Tryz.results61]
  ·rfl
  ·simp[Qq,Q4]
 refine Wr ?_ (r:=by conv=>lhs;simp[q1]);refine Wn ?_;refine Ws ?_;rw[if_neg q1]at T;have e8:=q1;refine Wr ?_;by_cases q3:sk=2
 ·refine Wr ?_ (r:=by conv=>lhs;simp[q3]);refine Wy ?_;subst q3;have c8:=GL h ⟨2,sn⟩ (λx hx=>by have:=hw.six x hx;omega) hw.tag;obtain⟨c9,b9⟩:=hw.get ⟨2,sn⟩;have c0:Cv h ⟨2,sn⟩=h.get ⟨2,sn⟩:=if_pos rfl;rw[c0]at T;generalize h.get ⟨2,sn⟩=o at c8 T c9 b9;obtain⟨tag,vs,e⟩:=o;dsimp only at c8 T c9 b9;refine Wz [] [.p (λ_=>.tuple [Iv tag,La (vs.map Qx.row),Iv e]) none] mixed ?_;by_cases q4:e=0
  ·refine Wr ?_ (r:=by conv=>lhs;simp[q4]);refine Wn ?_;refine Ws ?_;subst q4;rw[if_neg (λe=>e rfl)]at T;refine Wr ?_;refine Wr ?_;refine Wb ?_;refine Wl (σ:=λu:{u:Nat // u<=I.length/\Rs C tag vs I env h f=Rs C tag vs (I.drop u) env h f}=>⟨118,[(0,.ptr 1000 0),(1,.d (.ptr [.int 7,.int tn,.str ta,.str tb,Q6 a5,.sl (U.map Tm.row),.sl (I.map Cs.row)])),(2,.d (Jw env)),(6,.ptr 6 0),(8,Iv tag),(9,La (vs.map Qx.row)),(64,Iv (I.length:Int)),(65,Iv (u.1:Int))],[(6,some (.blk 48 [Iv 0,Iv 0])),(1000,some (.blk 64 [La (l.map Fn.row),La (h.cells.map Qk.row),Iv h.made,Iv h.used,Iv h.live,Iv h.peak,Iv f,Iv c,Iv 0]))]⟩)
    (μ:=λu=>I.length-u.1) ⟨0,⟨Nat.zero_le _,rfl⟩⟩ (Le.sub (by simp) (by simp)) (λ⟨i,⟨d0,P⟩⟩=>?_)
   dsimp only;refine Wr ?_;refine Wb ?_;refine Wc rfl (λhc=>?_) (λhc=>?_)
   ·have J:i<I.length:=by have:=of_decide_eq_true hc;omega
    clear hc;have a9:I[i]? =some I[i]:=List.getElem?_eq_getElem J;have a1:I[i]∈I:=List.getElem_mem J;have b0:I.drop i=I[i]::I.drop (i+1):=List.drop_eq_getElem_cons J;generalize I[i]=d at a9 a1 b0;obtain⟨dt,g,⟨dk,dn,da,db,a2,a3,a4⟩⟩:=d;obtain⟨d7,c1⟩:=b8 dt g _ a1;rw[b0]at P;obtain⟨W,hW⟩:∃W:Int,(g.length:Int)=W:=⟨_,rfl⟩
    obtain⟨V,hV⟩:∃V:Int,(vs.length:Int)=V:=⟨_,rfl⟩
    refine Ws ?_;refine Wr ?_;refine Wr ?_ (r:=by conv=>lhs;simp[Tm.row,Tm.Q3,Cs.Q3,a9,Cs.row]);by_cases q5:dt=tag
    ·refine Wr ?_ (r:=by conv=>lhs;simp[q5]);refine Wn ?_;refine Ws ?_;by_cases q6:W=V
     ·refine Wr ?_ (r:=by conv=>lhs;simp[hW,hV,q6]);refine Wn ?_;refine Ws ?_;have a6:g.length=vs.length:=oM;rw[BI q5 a6]at P;rw[P]at T;have c2:(Tm.mk dk dn da db a2 a3 a4).sz<N:=c7 dt g _ a1;have c3:(Cs.mk dt g (.mk dk dn da db a2 a3 a4)).wg<=Cs.M0 I:=Cs.RZ a1;rw[Cs.wg]at c3;have hx:=ih (.mk dk dn da db a2 a3 a4) _ _ (Yx g vs env) h f X c2 (Cs.Xz.1 hO.2.2.2 _ a1).2.2 (c1 vs a6) ⟨hw.mono oM,oM,hX.hi,hX.f0,hX.f1⟩;rw[<-b5,<-b6,<-T]at hx;simp only[Tm.row,Tm.Q3,Cs.Q3]at hx;obtain⟨v,g2,f2,e2⟩:=R;dsimp only at hx⊢;refine Wr ?_ (r:=by conv=>lhs;simp[hW,q6]);refine Wb ?_;refine Wl (σ:=λu:{u:Nat // u<=g.length}=>⟨118,[(0,.ptr 1000 0),(2,.d (Jw (Yx (g.take u.1) (vs.take u.1) env))),(6,.ptr 6 0),(9,La (vs.map Qx.row)),(14,.d (.ptr [.int tag,Q6 g,.int dk,.int dn,.str da,.str db,Q6 a2,.sl (a3.map Tm.row),.sl (a4.map Cs.row)])),(93,.d (Q6 g)),(94,Iv V),(95,Iv (u.1:Int))],[(6,some (.blk 48 [Iv 0,Iv 0])),(1000,some (.blk 64 [La (l.map Fn.row),La (h.cells.map Qk.row),Iv h.made,Iv h.used,Iv h.live,Iv h.peak,Iv f,Iv c,Iv 0]))]⟩)
       (μ:=λu=>g.length-u.1) ⟨0,Nat.zero_le _⟩ (Le.sub (by simp[WW]) (by simp)) (λ⟨j,d1⟩=>?_)
      dsimp only;refine Wr ?_;refine Wb ?_;refine Wc rfl (λhc=>?_) (λhc=>?_)
      ·have J:j<g.length:=by have:=of_decide_eq_true hc;omega
       clear hc;have a7:g[j]? =some g[j]:=List.getElem?_eq_getElem J;have c4:g[j]∈g:=List.getElem_mem J;have c5:g.drop j=g[j]::g.drop (j+1):=List.drop_eq_getElem_cons J;generalize g[j]=x at a7 c4 c5;have a8:vs[j]? =some (vs[j]'oM):=List.getElem?_eq_getElem oM;generalize vs[j]'oM=y at a8;have b1:=Vt a7 a8 env;generalize Yx (g.take j) (vs.take j) env=E at b1⊢;obtain⟨zk,zn⟩:=y;refine Ws ?_;refine Wr ?_ (r:=by conv=>lhs;simp[a7]);refine Wg [7] [] ?_ (hr:=by conv=>lhs;simp[Qx.row,a8]);refine Wr ?_;refine⟨⟨j+1,J⟩,by simp;omega,?_⟩;dsimp only;rw[b1];exact Le.sub (by simp[Jw]) (by simp)
      have J:j=g.length:=by have:=of_decide_eq_false hc;omega
      subst J;clear hc;rw[List.take_length,show vs.take g.length=vs by rw[a6,List.take_length]];obtain⟨E,hE⟩:∃E,E=Yx g vs env:=⟨_,rfl⟩
      rw[<-hE]at hx⊢;refine We ?_;refine Wg [] [.c [] [.ptr 1000 0,.d (.ptr [.int dk,.int dn,.str da,.str db,Q6 a2,.sl (a3.map Tm.row),.sl (a4.map Cs.row)]),.d (Jw E)] [(1000,.blk 64 [La (l.map Fn.row),La (h.cells.map Qk.row),Iv h.made,Iv h.used,Iv h.live,Iv h.peak,Iv f,Iv c,Iv 0])] (.agg [Iv v.kind,Iv v.n]) [(1000,.blk 64 [La (l.map Fn.row),La (g2.cells.map Qk.row),Iv g2.made,Iv g2.used,Iv g2.live,Iv g2.peak,Iv f2,Iv c,Iv e2])]] ?_ (hr:=by conv=>lhs;simp[hW,q6]);refine Wt ?_;try dsimp only[Q8,Q5]
      apply Qz.ret
      ·rfl
      ·conv=>lhs;simp[Q7,Tryz.results61]
      ·rfl
      ·simp[Qq,Q4]
     refine Wr ?_ (r:=by conv=>lhs;simp[hW,hV,q6]);refine Wy ?_;rw[BJ q5 oM]at P;rw[P]at T;subst T;have e9:=Rj l h f c 11;refine Wg [] [.c [] [.ptr 1000 0,Iv 11] [(1000,.blk 64 [La (l.map Fn.row),La (h.cells.map Qk.row),Iv h.made,Iv h.used,Iv h.live,Iv h.peak,Iv f,Iv c,Iv 0])] (.agg [Iv 0,Iv 0]) [(1000,.blk 64 [La (l.map Fn.row),La (h.cells.map Qk.row),Iv h.made,Iv h.used,Iv h.live,Iv h.peak,Iv f,Iv c,Iv 11])]] ?_;refine Wt ?_;try dsimp only[Q8,Q5]
     apply Qz.ret
     ·rfl
     ·conv=>lhs;simp[Q7,Tryz.results61]
     ·rfl
     ·simp[Qq,Q4]
    refine Wr ?_ (r:=by conv=>lhs;simp[q5]);refine Wy ?_;refine We ?_;refine Wr ?_;rw[Sy q5]at P;refine⟨⟨i+1,J,P⟩,by simp;omega,?_⟩;dsimp only;exact Le.sub (by simp) (by simp)
   have J:i=I.length:=by have:=of_decide_eq_false hc;omega
   subst J;clear hc;rw[List.drop_length]at P;simp only[Rs]at P;refine We ?_;rw[P]at T;subst T;have f3:=Rj l h f c 11;refine Wg [] [.c [] [.ptr 1000 0,Iv 11] [(1000,.blk 64 [La (l.map Fn.row),La (h.cells.map Qk.row),Iv h.made,Iv h.used,Iv h.live,Iv h.peak,Iv f,Iv c,Iv 0])] (.agg [Iv 0,Iv 0]) [(1000,.blk 64 [La (l.map Fn.row),La (h.cells.map Qk.row),Iv h.made,Iv h.used,Iv h.live,Iv h.peak,Iv f,Iv c,Iv 11])]] ?_;refine Wt ?_;try dsimp only[Q8,Q5]
   apply Qz.ret
   ·rfl
   ·conv=>lhs;simp[Q7,Tryz.results61]
   ·rfl
   ·simp[Qq,Q4]
  refine Wr ?_ (r:=by conv=>lhs;simp[q4]);refine Wy ?_;rw[if_pos q4]at T;subst T;have f4:=Rj l h f c e;refine Wg [] [.c [] [.ptr 1000 0,Iv e] [(1000,.blk 64 [La (l.map Fn.row),La (h.cells.map Qk.row),Iv h.made,Iv h.used,Iv h.live,Iv h.peak,Iv f,Iv c,Iv 0])] (.agg [Iv 0,Iv 0]) [(1000,.blk 64 [La (l.map Fn.row),La (h.cells.map Qk.row),Iv h.made,Iv h.used,Iv h.live,Iv h.peak,Iv f,Iv c,Iv e])]] ?_;refine Wt ?_;try dsimp only[Q8,Q5]
  apply Qz.ret
  ·rfl
  ·conv=>lhs;simp[Q7,Tryz.results61]
  ·rfl
  ·simp[Qq,Q4]
 refine Wr ?_ (r:=by conv=>lhs;simp[q3]);refine Wn ?_;refine Ws ?_;have c0:Cv h ⟨sk,sn⟩=(sn,[],0):=if_neg q3;rw[c0]at T;dsimp only at T;rw[if_neg (λe=>e rfl)]at T;obtain⟨tag,b4⟩:∃tag:Int,sn=tag:=⟨_,rfl⟩
 obtain⟨vs,c6⟩:∃vs:List Qx,[]=vs:=⟨_,rfl⟩
 have b9:vs.length<=6:=by rw[<-c6];simp
 rw[b4,c6]at T;have d2:([]:List (List D))=vs.map Qx.row:=by rw[<-c6];rfl
 refine Wb ?_;refine X8.le (Le.low [] [] (fr:=[(0,.ptr 1000 0),(1,.d (.ptr [.int 7,.int tn,.str ta,.str tb,Q6 a5,.sl (U.map Tm.row),.sl (I.map Cs.row)])),(2,.d (Jw env)),(6,.ptr 6 0),(8,Iv tag),(9,La (vs.map Qx.row))]) (mem:=[(6,some (.blk 48 [Iv 0,Iv 0])),(1000,some (.blk 64 [La (l.map Fn.row),La (h.cells.map Qk.row),Iv h.made,Iv h.used,Iv h.live,Iv h.peak,Iv f,Iv c,Iv 0]))]) rfl (by simp[<-d2,b4]) (by simp)) ?_;refine Wr ?_;refine Wb ?_;refine Wl (σ:=λu:{u:Nat // u<=I.length/\Rs C tag vs I env h f=Rs C tag vs (I.drop u) env h f}=>⟨118,[(0,.ptr 1000 0),(1,.d (.ptr [.int 7,.int tn,.str ta,.str tb,Q6 a5,.sl (U.map Tm.row),.sl (I.map Cs.row)])),(2,.d (Jw env)),(6,.ptr 6 0),(8,Iv tag),(9,La (vs.map Qx.row)),(64,Iv (I.length:Int)),(65,Iv (u.1:Int))],[(6,some (.blk 48 [Iv 0,Iv 0])),(1000,some (.blk 64 [La (l.map Fn.row),La (h.cells.map Qk.row),Iv h.made,Iv h.used,Iv h.live,Iv h.peak,Iv f,Iv c,Iv 0]))]⟩)
  (μ:=λu=>I.length-u.1) ⟨0,⟨Nat.zero_le _,rfl⟩⟩ (Le.sub (by simp) (by simp)) (λ⟨i,⟨d0,P⟩⟩=>?_)
 dsimp only;refine Wr ?_;refine Wb ?_;refine Wc rfl (λhc=>?_) (λhc=>?_)
 ·have J:i<I.length:=by have:=of_decide_eq_true hc;omega
  clear hc;have a9:I[i]? =some I[i]:=List.getElem?_eq_getElem J;have a1:I[i]∈I:=List.getElem_mem J;have b0:I.drop i=I[i]::I.drop (i+1):=List.drop_eq_getElem_cons J;generalize I[i]=d at a9 a1 b0;obtain⟨dt,g,⟨dk,dn,da,db,a2,a3,a4⟩⟩:=d;obtain⟨d7,c1⟩:=b8 dt g _ a1;rw[b0]at P;obtain⟨W,hW⟩:∃W:Int,(g.length:Int)=W:=⟨_,rfl⟩
  obtain⟨V,hV⟩:∃V:Int,(vs.length:Int)=V:=⟨_,rfl⟩
  refine Ws ?_;refine Wr ?_;refine Wr ?_ (r:=by conv=>lhs;simp[Tm.row,Tm.Q3,Cs.Q3,a9,Cs.row]);by_cases b2:dt=tag
  ·refine Wr ?_ (r:=by conv=>lhs;simp[b2]);refine Wn ?_;refine Ws ?_;by_cases b3:W=V
   ·refine Wr ?_ (r:=by conv=>lhs;simp[hW,hV,b3]);refine Wn ?_;refine Ws ?_;have a6:g.length=vs.length:=oM;rw[BI b2 a6]at P;rw[P]at T;have c2:(Tm.mk dk dn da db a2 a3 a4).sz<N:=c7 dt g _ a1;have c3:(Cs.mk dt g (.mk dk dn da db a2 a3 a4)).wg<=Cs.M0 I:=Cs.RZ a1;rw[Cs.wg]at c3;have hx:=ih (.mk dk dn da db a2 a3 a4) _ _ (Yx g vs env) h f X c2 (Cs.Xz.1 hO.2.2.2 _ a1).2.2 (c1 vs a6) ⟨hw.mono oM,oM,hX.hi,hX.f0,hX.f1⟩;rw[<-b5,<-b6,<-T]at hx;simp only[Tm.row,Tm.Q3,Cs.Q3]at hx;obtain⟨v,g2,f2,e2⟩:=R;dsimp only at hx⊢;refine Wr ?_ (r:=by conv=>lhs;simp[hW,b3]);refine Wb ?_;refine Wl (σ:=λu:{u:Nat // u<=g.length}=>⟨118,[(0,.ptr 1000 0),(2,.d (Jw (Yx (g.take u.1) (vs.take u.1) env))),(6,.ptr 6 0),(9,La (vs.map Qx.row)),(14,.d (.ptr [.int tag,Q6 g,.int dk,.int dn,.str da,.str db,Q6 a2,.sl (a3.map Tm.row),.sl (a4.map Cs.row)])),(93,.d (Q6 g)),(94,Iv V),(95,Iv (u.1:Int))],[(6,some (.blk 48 [Iv 0,Iv 0])),(1000,some (.blk 64 [La (l.map Fn.row),La (h.cells.map Qk.row),Iv h.made,Iv h.used,Iv h.live,Iv h.peak,Iv f,Iv c,Iv 0]))]⟩)
     (μ:=λu=>g.length-u.1) ⟨0,Nat.zero_le _⟩ (Le.sub (by simp[WW]) (by simp)) (λ⟨j,d1⟩=>?_)
    dsimp only;refine Wr ?_;refine Wb ?_;refine Wc rfl (λhc=>?_) (λhc=>?_)
    ·have J:j<g.length:=by have:=of_decide_eq_true hc;omega
     clear hc;have a7:g[j]? =some g[j]:=List.getElem?_eq_getElem J;have c4:g[j]∈g:=List.getElem_mem J;have c5:g.drop j=g[j]::g.drop (j+1):=List.drop_eq_getElem_cons J;generalize g[j]=x at a7 c4 c5;have a8:vs[j]? =some (vs[j]'oM):=List.getElem?_eq_getElem oM;generalize vs[j]'oM=y at a8;have b1:=Vt a7 a8 env;generalize Yx (g.take j) (vs.take j) env=E at b1⊢;obtain⟨zk,zn⟩:=y;refine Ws ?_;refine Wr ?_ (r:=by conv=>lhs;simp[a7]);refine Wg [7] [] ?_ (hr:=by conv=>lhs;simp[Qx.row,a8]);refine Wr ?_;refine⟨⟨j+1,J⟩,by simp;omega,?_⟩;dsimp only;rw[b1];exact Le.sub (by simp[Jw]) (by simp)
    have J:j=g.length:=by have:=of_decide_eq_false hc;omega
    subst J;clear hc;rw[List.take_length,show vs.take g.length=vs by rw[a6,List.take_length]];obtain⟨E,hE⟩:∃E,E=Yx g vs env:=⟨_,rfl⟩
    rw[<-hE]at hx⊢;refine We ?_;refine Wg [] [.c [] [.ptr 1000 0,.d (.ptr [.int dk,.int dn,.str da,.str db,Q6 a2,.sl (a3.map Tm.row),.sl (a4.map Cs.row)]),.d (Jw E)] [(1000,.blk 64 [La (l.map Fn.row),La (h.cells.map Qk.row),Iv h.made,Iv h.used,Iv h.live,Iv h.peak,Iv f,Iv c,Iv 0])] (.agg [Iv v.kind,Iv v.n]) [(1000,.blk 64 [La (l.map Fn.row),La (g2.cells.map Qk.row),Iv g2.made,Iv g2.used,Iv g2.live,Iv g2.peak,Iv f2,Iv c,Iv e2])]] ?_ (hr:=by conv=>lhs;simp[hW,b3]);refine Wt ?_;try dsimp only[Q8,Q5]
    apply Qz.ret
    ·rfl
    ·conv=>lhs;simp[Q7,Tryz.results61]
    ·rfl
    ·simp[Qq,Q4]
   refine Wr ?_ (r:=by conv=>lhs;simp[hW,hV,b3]);refine Wy ?_;rw[BJ b2 oM]at P;rw[P]at T;subst T;have d9:=Rj l h f c 11;refine Wg [] [.c [] [.ptr 1000 0,Iv 11] [(1000,.blk 64 [La (l.map Fn.row),La (h.cells.map Qk.row),Iv h.made,Iv h.used,Iv h.live,Iv h.peak,Iv f,Iv c,Iv 0])] (.agg [Iv 0,Iv 0]) [(1000,.blk 64 [La (l.map Fn.row),La (h.cells.map Qk.row),Iv h.made,Iv h.used,Iv h.live,Iv h.peak,Iv f,Iv c,Iv 11])]] ?_;refine Wt ?_;try dsimp only[Q8,Q5]
   apply Qz.ret
   ·rfl
   ·conv=>lhs;simp[Q7,Tryz.results61]
   ·rfl
   ·simp[Qq,Q4]
  refine Wr ?_ (r:=by conv=>lhs;simp[b2]);refine Wy ?_;refine We ?_;refine Wr ?_;rw[Sy b2]at P;refine⟨⟨i+1,J,P⟩,by simp;omega,?_⟩;dsimp only;exact Le.sub (by simp) (by simp)
 have J:i=I.length:=by have:=of_decide_eq_false hc;omega
 subst J;clear hc;rw[List.drop_length]at P;simp only[Rs]at P;refine We ?_;rw[P]at T;subst T;have e0:=Rj l h f c 11;refine Wg [] [.c [] [.ptr 1000 0,Iv 11] [(1000,.blk 64 [La (l.map Fn.row),La (h.cells.map Qk.row),Iv h.made,Iv h.used,Iv h.live,Iv h.peak,Iv f,Iv c,Iv 0])] (.agg [Iv 0,Iv 0]) [(1000,.blk 64 [La (l.map Fn.row),La (h.cells.map Qk.row),Iv h.made,Iv h.used,Iv h.live,Iv h.peak,Iv f,Iv c,Iv 11])]] ?_;refine Wt ?_;try dsimp only[Q8,Q5]
 apply Qz.ret
 ·rfl
 ·conv=>lhs;simp[Q7,Tryz.results61]
 ·rfl
 ·simp[Qq,Q4]
theorem BH{A:X6}(l:List Fn)(m:Nat)(hl:l.length<=879609302220)(b0:∀x∈l,FI A x)(hm:m<=40)(ih:∀n,m=n+1->∀N,KG A l n N):FC A l m:=by
 intro name vs h f X c3 U;obtain⟨c,b1⟩:∃c:Int,c=40-m:=⟨_,rfl⟩
 rw[<-b1];refine Z0.of Tryz.func18 rfl rfl (Nat.le_of_ble_eq_true rfl) ?_;show X8 _ _ (Qz _ Tryz.f18 _ _) (X7 115 _ _);refine Wr ?_;have a6:=CV l name hl (λx=>NY x.name name) 37 (λs _=>CU s name);rcases EA (l:=l) (name:=name)with⟨t,hk⟩|⟨x,i,t,b2,a7,hk⟩
 ·rw[hk]at a6;rw[Sr t];refine Wg [] [.c [(1000,4)] [La (l.map Fn.row),.clo 37 [.ptr 1000 0]] [(1000,.blk 9 [Sv name])] (Iv (-1)) [(1000,.blk 9 [Sv name])]] ?_;refine Wr ?_;refine Wn ?_;refine Wr ?_;refine Wy ?_;have c4:=Rj l h f c 6;refine Wg [] [.c [] [.ptr 1000 0,Iv 6] [(1000,.blk 64 [La (l.map Fn.row),La (h.cells.map Qk.row),Iv h.made,Iv h.used,Iv h.live,Iv h.peak,Iv f,Iv c,Iv 0])] (.agg [Iv 0,Iv 0]) [(1000,.blk 64 [La (l.map Fn.row),La (h.cells.map Qk.row),Iv h.made,Iv h.used,Iv h.live,Iv h.peak,Iv f,Iv c,Iv 6])]] ?_;refine Wt ?_;try dsimp only[Q8,Q5]
  apply Qz.ret
  ·rfl
  ·conv=>lhs;simp[Q7,Tryz.results18]
  ·rfl
  ·simp[Qq,Q4]
 obtain⟨j,hj⟩:∃j:Int,(i:Int)=j:=⟨_,rfl⟩
 have c5:0<=j:=oM;have J:l[j.toNat]? =some x:=by rw[<-hj];exact a7
 rw[hk,hj]at a6;clear hk a7 hj;have hF:=b0 x b2;obtain⟨xg,g,⟨xk,xn,xa,xb,a1,a2,a3⟩⟩:=x;have b3:=hF.par;have b4:=hF.wg;dsimp only at b3 b4;obtain⟨P,hP⟩:∃P:Int,(g.length:Int)=P:=⟨_,rfl⟩
 obtain⟨V,hV⟩:∃V:Int,(vs.length:Int)=V:=⟨_,rfl⟩
 refine Wg [] [.c [(1000,4)] [La (l.map Fn.row),.clo 37 [.ptr 1000 0]] [(1000,.blk 9 [Sv name])] (Iv j) [(1000,.blk 9 [Sv name])]] ?_;refine Wr ?_;refine Wn ?_;have q2:¬(j<0):=oM;by_cases q3:P=V
 ·refine Wr ?_ (r:=by conv=>lhs;simp[Tm.row,Tm.Q3,Cs.Q3,Fn.row,J,hP,hV,q2,q3]);refine Wn ?_;have I:g.length=vs.length:=oM;by_cases q4:f=0
  ·refine Wr ?_ (r:=by conv=>lhs;simp[q4]);refine Wy ?_;subst q4;rw[LP t m vs h 0 I rfl];have c6:=Rj l h 0 c 12;refine Wg [] [.c [] [.ptr 1000 0,Iv 12] [(1000,.blk 64 [La (l.map Fn.row),La (h.cells.map Qk.row),Iv h.made,Iv h.used,Iv h.live,Iv h.peak,Iv 0,Iv c,Iv 0])] (.agg [Iv 0,Iv 0]) [(1000,.blk 64 [La (l.map Fn.row),La (h.cells.map Qk.row),Iv h.made,Iv h.used,Iv h.live,Iv h.peak,Iv 0,Iv c,Iv 12])]] ?_;refine Wt ?_;try dsimp only[Q8,Q5]
   apply Qz.ret
   ·rfl
   ·conv=>lhs;simp[Q7,Tryz.results18]
   ·rfl
   ·simp[Qq,Q4]
  refine Wr ?_ (r:=by conv=>lhs;simp[q4]);refine Wn ?_;by_cases q6:40<=c
  ·refine Wr ?_ (r:=by conv=>lhs;simp[q6]);refine Wy ?_;obtain rfl:m=0:=oM;rw[Su t I q4];have c7:=Rj l h f c 9;refine Wg [] [.c [] [.ptr 1000 0,Iv 9] [(1000,.blk 64 [La (l.map Fn.row),La (h.cells.map Qk.row),Iv h.made,Iv h.used,Iv h.live,Iv h.peak,Iv f,Iv c,Iv 0])] (.agg [Iv 0,Iv 0]) [(1000,.blk 64 [La (l.map Fn.row),La (h.cells.map Qk.row),Iv h.made,Iv h.used,Iv h.live,Iv h.peak,Iv f,Iv c,Iv 9])]] ?_;refine Wt ?_;try dsimp only[Q8,Q5]
   apply Qz.ret
   ·rfl
   ·conv=>lhs;simp[Q7,Tryz.results18]
   ·rfl
   ·simp[Qq,Q4]
  refine Wr ?_ (r:=by conv=>lhs;simp[q6]);refine Wn ?_;refine Ws ?_;obtain⟨n,rfl⟩:∃n,m=n+1:=⟨m-1,oM⟩
  rw[AZ t I q4];have c8:=U.lo;have hx:=ih n rfl _ (.mk xk xn xa xb a1 a2 a3) _ _ (Yx g vs []) h (f-1) X (Nat.lt_succ_self _) hF.ok (hF.ri vs I) ⟨U.rm.mono oM,oM,U.hi,by have:=U.f0;omega,by have:=U.f1;omega⟩;obtain⟨c1,b5⟩:∃c1:Int,40-(n:Int)=c1:=⟨_,rfl⟩
  have b6:c+1=c1:=oM;have a8:c1-1=c:=oM;rw[b5]at hx;generalize Tj (J4 l n) (.mk xk xn xa xb a1 a2 a3) (Yx g vs []) h (f-1)=o at hx⊢;simp only[Tm.row,Tm.Q3,Cs.Q3]at hx;obtain⟨v,g2,f2,e2⟩:=o;dsimp only at hx⊢;obtain⟨f1,T⟩:∃f1,f-1=f1:=⟨_,rfl⟩
  rw[T]at hx;have b9:=U.f0;have c0:=U.f1;refine Wr ?_;refine Wr ?_ (r:=by conv=>lhs;simp[b6,T]);refine Wr ?_;refine Wr ?_ (r:=by conv=>lhs;simp[Tm.row,Tm.Q3,Cs.Q3,Fn.row,J,hP,q3]);refine Wb ?_;refine Wl (σ:=λu:{u:Nat // u<=g.length}=>⟨115,[(0,.ptr 1000 0),(2,La (vs.map Qx.row)),(6,.ptr 6 0),(7,Iv j),(8,.d (Jw (Yx (g.take u.1) (vs.take u.1) []))),(81,.d (Q6 g)),(82,Iv V),(83,Iv (u.1:Int))],[(6,some (.blk 48 [Iv 0,Iv 0])),(1000,some (.blk 64 [La (l.map Fn.row),La (h.cells.map Qk.row),Iv h.made,Iv h.used,Iv h.live,Iv h.peak,Iv f1,Iv c1,Iv 0]))]⟩)
   (μ:=λu=>g.length-u.1) ⟨0,Nat.zero_le _⟩ (Le.sub (by simp[WW,Jw]) (by simp)) (λ⟨i,c2⟩=>?_)
  dsimp only;refine Wr ?_;refine Wb ?_;refine Wc rfl (λhc=>?_) (λhc=>?_)
  ·have C:i<g.length:=by have:=of_decide_eq_true hc;omega
   clear hc;have a4:g[i]? =some g[i]:=List.getElem?_eq_getElem C;have b7:g[i]∈g:=List.getElem_mem C;have b8:g.drop i=g[i]::g.drop (i+1):=List.drop_eq_getElem_cons C;generalize g[i]=x at a4 b7 b8;have a5:vs[i]? =some (vs[i]'oM):=List.getElem?_eq_getElem oM;generalize vs[i]'oM=y at a5;have a9:=Vt a4 a5 [];generalize Yx (g.take i) (vs.take i) []=E at a9⊢;obtain⟨zk,zn⟩:=y;refine Ws ?_;refine Wr ?_ (r:=by conv=>lhs;simp[a4]);refine Wg [7] [] ?_ (hr:=by conv=>lhs;simp[a5,Qx.row]);refine Wr ?_;refine⟨⟨i+1,C⟩,by simp;omega,?_⟩;dsimp only;rw[a9];exact Le.sub (by simp[Jw]) (by simp)
  have C:i=g.length:=by have:=of_decide_eq_false hc;omega
  subst C;clear hc;rw[List.take_length,show vs.take g.length=vs by rw[I,List.take_length]];obtain⟨E,hE⟩:∃E,E=Yx g vs []:=⟨_,rfl⟩
  rw[<-hE]at hx⊢;refine We ?_;refine Wg [] [.c [] [.ptr 1000 0,.d (.ptr [.int xk,.int xn,.str xa,.str xb,Q6 a1,.sl (a2.map Tm.row),.sl (a3.map Cs.row)]),.d (Jw E)] [(1000,.blk 64 [La (l.map Fn.row),La (h.cells.map Qk.row),Iv h.made,Iv h.used,Iv h.live,Iv h.peak,Iv f1,Iv c1,Iv 0])] (.agg [Iv v.kind,Iv v.n]) [(1000,.blk 64 [La (l.map Fn.row),La (g2.cells.map Qk.row),Iv g2.made,Iv g2.used,Iv g2.live,Iv g2.peak,Iv f2,Iv c1,Iv e2])]] ?_ (hr:=by conv=>lhs;simp[Tm.row,Tm.Q3,Cs.Q3,Fn.row,J,hP,q3]);refine Wr ?_ (r:=by conv=>lhs;simp[a8]);refine Wr ?_;refine Wt ?_;try dsimp only[Q8,Q5]
  apply Qz.ret
  ·rfl
  ·conv=>lhs;simp[Q7,Tryz.results18]
  ·rfl
  ·simp[Qq,Q4]
 refine Wr ?_ (r:=by conv=>lhs;simp[Tm.row,Tm.Q3,Cs.Q3,Fn.row,J,hP,hV,q2,q3]);refine Wy ?_;rw[LQ t m vs h f (by show g.length≠vs.length;omega)];have c9:=Rj l h f c 6;refine Wg [] [.c [] [.ptr 1000 0,Iv 6] [(1000,.blk 64 [La (l.map Fn.row),La (h.cells.map Qk.row),Iv h.made,Iv h.used,Iv h.live,Iv h.peak,Iv f,Iv c,Iv 0])] (.agg [Iv 0,Iv 0]) [(1000,.blk 64 [La (l.map Fn.row),La (h.cells.map Qk.row),Iv h.made,Iv h.used,Iv h.live,Iv h.peak,Iv f,Iv c,Iv 6])]] ?_;refine Wt ?_;try dsimp only[Q8,Q5]
 apply Qz.ret
 ·rfl
 ·conv=>lhs;simp[Q7,Tryz.results18]
 ·rfl
 ·simp[Qq,Q4]
theorem EO(l:List Fn)(t:Tm)(env:J6)(h:Hp)(f c e:Int)(g:¬e=0):Z0 Tryz.prog 39 [.ptr 1000 0,.d (.ptr t.row),.d (Jw env)] [(1000,Hz l h f c e)] (Dq z0) [(1000,Hz l h f c e)]:=by
 obtain⟨tk,C,I,tb,i,j,o⟩:=t;refine Z0.of Tryz.func39 rfl rfl (Nat.le_of_ble_eq_true rfl) ?_;show X8 _ _ (Qz _ Tryz.f39 _ _) (X7 97 _ _);refine Wr ?_ (r:=by conv=>lhs;simp[Tm.row,Tm.Q3,Cs.Q3]);refine Wr ?_ (r:=by conv=>lhs;simp[g]);refine Wy ?_;refine Wr ?_;refine Wt ?_;try dsimp only[Q8,Q5]
 apply Qz.ret
 ·rfl
 ·conv=>lhs;simp[Q7,Tryz.results39]
 ·rfl
 ·simp[Qq,Q4]
theorem BF{A:X6}(l:List Fn)(b3:∀x∈l,FI A x)(n N:Nat)(ih:KG A l n N)(a7:FC A l n):KG A l n (N+1):=by
 intro t s mt env h f X hN hO hI I;obtain⟨C,a1⟩:∃C,C=J4 l n:=⟨_,rfl⟩
 obtain⟨c,a4⟩:∃c:Int,c=40-n:=⟨_,rfl⟩
 rw[<-a1,<-a4];obtain⟨tk,tn,ta,tb,a2,j,T⟩:=t;rw[Tm.sz]at hN;have a3:∀x∈j,x.sz<N:=λx i=>by have:=Tm.Z4 i;omega
 have b4:∀t ws y,Cs.mk t ws y∈T->y.sz<N:=λt ws y hm=>by
  have hs:(Cs.mk t ws y).sz<=Cs.Xv T:=Cs.Z4 hm;rw[Cs.sz]at hs;omega
 have a6:∀x∈j,x.Ok:=λx i=>Tm.Xz.1 hO.2.2.1 x i
 obtain⟨R,J⟩:∃R,R=Tj C (.mk tk tn ta tb a2 j T) env h f:=⟨_,rfl⟩
 rw[<-J];have c5:=hI.kind;refine Z0.of Tryz.func39 rfl rfl (Nat.le_of_ble_eq_true rfl) ?_;show X8 _ _ (Qz _ Tryz.f39 _ _) (X7 97 _ _);refine Wr ?_ (r:=by conv=>lhs;simp[Tm.row,Tm.Q3,Cs.Q3]);refine Wr ?_;refine Wn ?_;refine Ws ?_;refine Wr ?_;by_cases q1:tk=1
 ·refine Wr ?_ (r:=by conv=>lhs;simp[q1]);refine Wy ?_;subst q1;have hg:=QF env ta hI.var;obtain rfl:R=(Qj env ta,h,f,0):=by rw[J,Tj,if_pos rfl]
  dsimp only;generalize Qj env ta=u at hg⊢;refine Wg [] [.p (λ_=>.agg [Iv u.kind,Iv u.n]) none] ?_;refine Wt ?_;try dsimp only[Q8,Q5]
  apply Qz.ret
  ·rfl
  ·conv=>lhs;simp[Q7,Tryz.results39]
  ·rfl
  ·simp[Qq,Q4]
 refine Wr ?_ (r:=by conv=>lhs;simp[q1]);refine Wn ?_;by_cases q2:tk=2
 ·refine Wr ?_ (r:=by conv=>lhs;simp[q2]);refine Wy ?_;subst q2;obtain rfl:R=(⟨0,tn⟩,h,f,0):=by rw[J,Tj,if_neg oM,if_pos rfl]
  refine Wr ?_;refine Wt ?_;try dsimp only[Q8,Q5]
  apply Qz.ret
  ·rfl
  ·conv=>lhs;simp[Q7,Tryz.results39]
  ·rfl
  ·simp[Qq,Q4]
 refine Wr ?_ (r:=by conv=>lhs;simp[q2]);refine Wn ?_;by_cases q3:tk=3
 ·refine Wr ?_ (r:=by conv=>lhs;simp[q3]);refine Wy ?_;refine Ws ?_;refine Wy ?_;subst q3;have i:=EP l C hI oM hO h f c _ I.rm (by have:=I.hi;have:=I.f0;omega) R J;try simp only[Tm.row,Tm.Q3,Cs.Q3]at i
  obtain⟨v,g,f2,e2⟩:=R;dsimp only at i⊢;refine Wg [] [.c [] [.ptr 1000 0,.d (.ptr [.int 3,.int tn,.str ta,.str tb,Q6 a2,.sl (j.map Tm.row),.sl (T.map Cs.row)]),.d (Jw env)] [(1000,.blk 64 [La (l.map Fn.row),La (h.cells.map Qk.row),Iv h.made,Iv h.used,Iv h.live,Iv h.peak,Iv f,Iv c,Iv 0])] (.agg [Iv v.kind,Iv v.n]) [(1000,.blk 64 [La (l.map Fn.row),La (g.cells.map Qk.row),Iv g.made,Iv g.used,Iv g.live,Iv g.peak,Iv f2,Iv c,Iv e2])]] ?_;refine Wt ?_;try dsimp only[Q8,Q5]
  apply Qz.ret
  ·rfl
  ·conv=>lhs;simp[Q7,Tryz.results39]
  ·rfl
  ·simp[Qq,Q4]
 refine Wr ?_ (r:=by conv=>lhs;simp[q3]);refine Wn ?_;by_cases q4:tk=12
 ·refine Wr ?_ (r:=by conv=>lhs;simp[q4]);refine Wy ?_;subst q4;have i:=EP l C hI oM hO h f c _ I.rm (by have:=I.hi;have:=I.f0;omega) R J;try simp only[Tm.row,Tm.Q3,Cs.Q3]at i
  obtain⟨v,g,f2,e2⟩:=R;dsimp only at i⊢;refine Wg [] [.c [] [.ptr 1000 0,.d (.ptr [.int 12,.int tn,.str ta,.str tb,Q6 a2,.sl (j.map Tm.row),.sl (T.map Cs.row)]),.d (Jw env)] [(1000,.blk 64 [La (l.map Fn.row),La (h.cells.map Qk.row),Iv h.made,Iv h.used,Iv h.live,Iv h.peak,Iv f,Iv c,Iv 0])] (.agg [Iv v.kind,Iv v.n]) [(1000,.blk 64 [La (l.map Fn.row),La (g.cells.map Qk.row),Iv g.made,Iv g.used,Iv g.live,Iv g.peak,Iv f2,Iv c,Iv e2])]] ?_;refine Wt ?_;try dsimp only[Q8,Q5]
  apply Qz.ret
  ·rfl
  ·conv=>lhs;simp[Q7,Tryz.results39]
  ·rfl
  ·simp[Qq,Q4]
 refine Wr ?_ (r:=by conv=>lhs;simp[q4]);refine Wn ?_;by_cases q5:tk=4
 ·refine Wr ?_ (r:=by conv=>lhs;simp[q5]);refine Wy ?_;subst q5;have J:R=C ta (Fq env j) h f:=by rw[J,Tj,if_neg oM,if_neg oM,if_neg oM,if_neg oM,if_pos rfl]
  have h6:=hI.Jk7;have b5:=MM env j oM λx i=>(hI.args oM x i).2
  have i:=a7 ta (Fq env j) h f X (by rw[QY];omega) ⟨I.rm.mono oM,by have:=I.lo;omega,I.hi,I.f0,I.f1⟩;rw[<-a1,<-a4,<-J]at i;generalize Fq env j=vs at b5 i;try simp only[Tm.row,Tm.Q3,Cs.Q3]at i
  obtain⟨v,g,f2,e2⟩:=R;dsimp only at i⊢;refine Wz [] [.p (λ_=>La (vs.map Qx.row)) none,.c [] [.ptr 1000 0,Sv ta,La (vs.map Qx.row)] [(1000,.blk 64 [La (l.map Fn.row),La (h.cells.map Qk.row),Iv h.made,Iv h.used,Iv h.live,Iv h.peak,Iv f,Iv c,Iv 0])] (.agg [Iv v.kind,Iv v.n]) [(1000,.blk 64 [La (l.map Fn.row),La (g.cells.map Qk.row),Iv g.made,Iv g.used,Iv g.live,Iv g.peak,Iv f2,Iv c,Iv e2])]] mixed ?_;refine Wt ?_;try dsimp only[Q8,Q5]
  apply Qz.ret
  ·rfl
  ·conv=>lhs;simp[Q7,Tryz.results39]
  ·rfl
  ·simp[Qq,Q4]
 refine Wr ?_ (r:=by conv=>lhs;simp[q5]);refine Wn ?_;by_cases q6:tk=5
 ·refine Wr ?_ (r:=by conv=>lhs;simp[q6]);refine Wy ?_;subst q6;have i:=Qd8 l C hI h f c R J;try simp only[Tm.row,Tm.Q3,Cs.Q3]at i
  obtain⟨v,g,f2,e2⟩:=R;dsimp only at i⊢;refine Wg [] [.c [] [.ptr 1000 0,.d (.ptr [.int 5,.int tn,.str ta,.str tb,Q6 a2,.sl (j.map Tm.row),.sl (T.map Cs.row)]),.d (Jw env)] [(1000,.blk 64 [La (l.map Fn.row),La (h.cells.map Qk.row),Iv h.made,Iv h.used,Iv h.live,Iv h.peak,Iv f,Iv c,Iv 0])] (.agg [Iv v.kind,Iv v.n]) [(1000,.blk 64 [La (l.map Fn.row),La (g.cells.map Qk.row),Iv g.made,Iv g.used,Iv g.live,Iv g.peak,Iv f2,Iv c,Iv e2])]] ?_;refine Wt ?_;try dsimp only[Q8,Q5]
  apply Qz.ret
  ·rfl
  ·conv=>lhs;simp[Q7,Tryz.results39]
  ·rfl
  ·simp[Qq,Q4]
 refine Wr ?_ (r:=by conv=>lhs;simp[q6]);refine Wn ?_;by_cases q7:tk=6
 ·refine Wr ?_ (r:=by conv=>lhs;simp[q7]);refine Wy ?_;subst q7;obtain⟨y,z,U,hy,hz⟩:=hI.let
  have hu0:j[0]? =some y:=by rw[U];rfl
  have c4:j.head? =some y:=by rw[U];rfl
  have b1:j[1]? =some z:=by rw[U];rfl
  have b6:=a3 y (by rw[U];simp);have b7:=a3 z (by rw[U];simp);have b8:=a6 y (by rw[U];simp);have b9:=a6 z (by rw[U];simp);have J:R=Nr C ta [y,z] env h f:=by rw[J,Tj,if_neg oM,if_neg oM,if_neg oM,if_neg oM,if_neg oM,if_neg oM,if_pos rfl,U]
  have hw:=I.rm;have b2:=I.lo;rw[Tm.wg,U]at hw b2;simp only[Tm.M0]at hw b2;have a5:=ih y _ mt env h f (X-6 * (z.wg:Int)) b6 b8 hy ⟨hw.mono oM,oM,by have:=I.hi;omega,I.f0,I.f1⟩;obtain⟨m1,m2,m3⟩:=Sn (Rp b3 n) _ y (X-6 * (z.wg:Int)) _ mt env h f (Nat.lt_succ_self _) hy I.f0 oM (hw.mono oM);rw[<-a1]at m1 m2 m3;rw[<-a1,<-a4]at a5;rw[Nr]at J;generalize Tj C y env h f=o at a5 J m1 m2 m3;obtain⟨v1,P,f1,e1⟩:=o;dsimp only at a5 J m1 m2 m3;obtain⟨yk,yn,ya,yb,c0,c1,c2⟩:=y;simp only[Tm.row,Tm.Q3,Cs.Q3]at a5;refine Wg [] [.c [] [.ptr 1000 0,.d (.ptr [.int yk,.int yn,.str ya,.str yb,Q6 c0,.sl (c1.map Tm.row),.sl (c2.map Cs.row)]),.d (Jw env)] [(1000,.blk 64 [La (l.map Fn.row),La (h.cells.map Qk.row),Iv h.made,Iv h.used,Iv h.live,Iv h.peak,Iv f,Iv c,Iv 0])] (.agg [Iv v1.kind,Iv v1.n]) [(1000,.blk 64 [La (l.map Fn.row),La (P.cells.map Qk.row),Iv P.made,Iv P.used,Iv P.live,Iv P.peak,Iv f1,Iv c,Iv e1])]] ?_ (hr:=by conv=>lhs;simp[Tm.row,Tm.Q3,Cs.Q3,hu0]);by_cases q0:e1=0
  ·subst q0;rw[if_neg (λe=>e rfl),WG]at J;have i:=ih z _ mt ((ta,v1)::env) P f1 X b7 b9 (hz v1) ⟨m1.mono oM,oM,I.hi,m2,by have:=I.f1;omega⟩;rw[<-a1,<-a4,<-J]at i;simp only[Jw]at i;obtain⟨zk,zn,za,zb,a8,a9,b0⟩:=z;try simp only[Tm.row,Tm.Q3,Cs.Q3]at i
   obtain⟨v,g,f2,e2⟩:=R;dsimp only at i⊢;refine Wz [13] [.c [] [.ptr 1000 0,.d (.ptr [.int zk,.int zn,.str za,.str zb,Q6 a8,.sl (a9.map Tm.row),.sl (b0.map Cs.row)]),.d (.ptr [.str ta,.int v1.kind,.int v1.n,Jw env])] [(1000,.blk 64 [La (l.map Fn.row),La (P.cells.map Qk.row),Iv P.made,Iv P.used,Iv P.live,Iv P.peak,Iv f1,Iv c,Iv 0])] (.agg [Iv v.kind,Iv v.n]) [(1000,.blk 64 [La (l.map Fn.row),La (g.cells.map Qk.row),Iv g.made,Iv g.used,Iv g.live,Iv g.peak,Iv f2,Iv c,Iv e2])]] mixed ?_ (hr:=by conv=>lhs;simp[Tm.row,Tm.Q3,Cs.Q3,b1]);refine Wt ?_;try dsimp only[Q8,Q5]
   apply Qz.ret
   ·rfl
   ·conv=>lhs;simp[Q7,Tryz.results39]
   ·rfl
   ·simp[Qq,Q4]
  rw[if_pos q0]at J;subst J;have i:=EO l z ((ta,v1)::env) P f1 c e1 q0;simp only[Jw]at i;obtain⟨zk,zn,za,zb,a8,a9,b0⟩:=z;simp only[Tm.row,Tm.Q3,Cs.Q3]at i;refine Wz [13] [.c [] [.ptr 1000 0,.d (.ptr [.int zk,.int zn,.str za,.str zb,Q6 a8,.sl (a9.map Tm.row),.sl (b0.map Cs.row)]),.d (.ptr [.str ta,.int v1.kind,.int v1.n,Jw env])] [(1000,.blk 64 [La (l.map Fn.row),La (P.cells.map Qk.row),Iv P.made,Iv P.used,Iv P.live,Iv P.peak,Iv f1,Iv c,Iv e1])] (.agg [Iv 0,Iv 0]) [(1000,.blk 64 [La (l.map Fn.row),La (P.cells.map Qk.row),Iv P.made,Iv P.used,Iv P.live,Iv P.peak,Iv f1,Iv c,Iv e1])]] mixed ?_ (hr:=by conv=>lhs;simp[Tm.row,Tm.Q3,Cs.Q3,b1]);refine Wt ?_;try dsimp only[Q8,Q5]
  apply Qz.ret
  ·rfl
  ·conv=>lhs;simp[Q7,Tryz.results39]
  ·rfl
  ·simp[Qq,Q4]
 refine Wr ?_ (r:=by conv=>lhs;simp[q7]);refine Wn ?_;by_cases q8:tk=7
 ·refine Wr ?_ (r:=by conv=>lhs;simp[q8]);refine Wy ?_;subst q8;have i:=Qx6 l n N ih hI hO (λt ws y hm=>b4 t ws y hm) h f X I R (by rw[J,a1]);rw[<-a4]at i;try simp only[Tm.row,Tm.Q3,Cs.Q3]at i
  obtain⟨v,g,f2,e2⟩:=R;dsimp only at i⊢;refine Wg [] [.c [] [.ptr 1000 0,.d (.ptr [.int 7,.int tn,.str ta,.str tb,Q6 a2,.sl (j.map Tm.row),.sl (T.map Cs.row)]),.d (Jw env)] [(1000,.blk 64 [La (l.map Fn.row),La (h.cells.map Qk.row),Iv h.made,Iv h.used,Iv h.live,Iv h.peak,Iv f,Iv c,Iv 0])] (.agg [Iv v.kind,Iv v.n]) [(1000,.blk 64 [La (l.map Fn.row),La (g.cells.map Qk.row),Iv g.made,Iv g.used,Iv g.live,Iv g.peak,Iv f2,Iv c,Iv e2])]] ?_;refine Wt ?_;try dsimp only[Q8,Q5]
  apply Qz.ret
  ·rfl
  ·conv=>lhs;simp[Q7,Tryz.results39]
  ·rfl
  ·simp[Qq,Q4]
 refine Wr ?_ (r:=by conv=>lhs;simp[q8]);refine Wn ?_;refine Ws ?_;have i:Z0 Tryz.prog 62 [.ptr 1000 0,.d (.ptr (Tm.mk tk tn ta tb a2 j T).row),.d (Jw env)] [(1000,Hz l h f c 0)] (Dq R.1) [(1000,Hz l R.2.1 R.2.2.1 c R.2.2.2)]:=by
  have c3:tk=8\/tk=9\/tk=10\/tk=11\/tk=13:=by have:=hI.kind;omega
  rw[a4];rw[a1]at J;rcases c3 with rfl|rfl|rfl|rfl|rfl
  ·exact Sm l n N ih hI hO a3 h f X I R J
  ·exact Sl l n N ih hI hO a3 h f X I R J
  ·exact Pb l n N ih hI hO a3 h f X I R J
  ·exact MZ l n N ih hI hO a3 h f X I R J
  ·exact MX l n N ih hI hO a3 h f X I R J
 try simp only[Tm.row,Tm.Q3,Cs.Q3]at i
 obtain⟨v,g,f2,e2⟩:=R;dsimp only at i⊢;refine Wg [] [.c [] [.ptr 1000 0,.d (.ptr [.int tk,.int tn,.str ta,.str tb,Q6 a2,.sl (j.map Tm.row),.sl (T.map Cs.row)]),.d (Jw env)] [(1000,.blk 64 [La (l.map Fn.row),La (h.cells.map Qk.row),Iv h.made,Iv h.used,Iv h.live,Iv h.peak,Iv f,Iv c,Iv 0])] (.agg [Iv v.kind,Iv v.n]) [(1000,.blk 64 [La (l.map Fn.row),La (g.cells.map Qk.row),Iv g.made,Iv g.used,Iv g.live,Iv g.peak,Iv f2,Iv c,Iv e2])]] ?_;refine Wt ?_;try dsimp only[Q8,Q5]
 apply Qz.ret
 ·rfl
 ·conv=>lhs;simp[Q7,Tryz.results39]
 ·rfl
 ·simp[Qq,Q4]
theorem Zk3{A:X6}{l:List Fn}(o:l.length<=879609302220)(f:∀x∈l,FI A x):∀n,n<=40->FC A l n/\∀N,KG A l n N:=by
 intro n;induction n with
 |zero=>
  intro h;have g:FC A l 0:=BH l 0 o f h λk r=>oM
  refine⟨g,λN=>?_⟩;induction N with
  |zero=>intro t _ _ _ _ _ _ C;omega
  |succ N i=>exact BF l f 0 N i g
 |succ n j=>
  intro h;have g:FC A l (n+1):=BH l (n+1) o f h λk r=>by
   obtain rfl:k=n:=oM;exact(j oM).2
  refine⟨g,λN=>?_⟩;induction N with
  |zero=>intro t _ _ _ _ _ _ C;omega
  |succ N i=>exact BF l f (n+1) N i g
theorem OJ(F:Qx->Int->Vl×Int×Int)(left:Int):Cj F [] left=([],left,0):=rfl
theorem Bc{F:Qx->Int->Vl×Int×Int}{x:Qx}{r:List Qx}{left:Int}(h:(F x left).2.2=0):Cj F (x::r) left=((F x left).1::(Cj F r (F x left).2.1).1,(Cj F r (F x left).2.1).2):=by
 rw[Cj,if_neg (λe=>e h)]
theorem TJ{F:Qx->Int->Vl×Int×Int}{x:Qx}{r:List Qx}{left:Int}(h:¬(F x left).2.2=0):Cj F (x::r) left=([],(F x left).2):=by
 rw[Cj,if_pos h]
theorem Nf{F:Qx->Int->Vl×Int×Int}(g:∀x left,(F x left).2.2=0->0<=(F x left).2.1/\(F x left).2.1<=left):∀(l:List Qx) (left:Int),(Cj F l left).2.2=0->0<=left->0<=(Cj F l left).2.1/\(Cj F l left).2.1<=left
 |[],left,_,i=>⟨i,Int.le_refl _⟩
 |x::r,left,h,i=>by
  by_cases f:(F x left).2.2=0
  ·rw[Bc f]at h⊢;have j:=g x left f;have o:=Nf g r _ h j.1;dsimp only;omega
  ·rw[TJ f]at h;exact absurd h f
theorem UY(h:Hp):∀(d:Nat) (s:Qx) (left:Int),(Qa h d s left).2.2=0->0<=(Qa h d s left).2.1/\(Qa h d s left).2.1<=left
 |0,s,left,f=>by rw[Qa]at f;cases f
 |d+1,s,left,f=>by
  rw[Qa]at f⊢;split at f
  ·cases f
  rename_i l;rw[if_neg l];split at f
  ·rename_i i;rw[if_pos i];dsimp only;omega
  rename_i i;rw[if_neg i];split at f
  ·rename_i j;rw[if_pos j];dsimp only;omega
  rename_i j;rw[if_neg j];split at f
  ·rename_i g;exact absurd f g
  rename_i g;rw[if_neg g];have:=Nf (UY h d) (h.get s).2.1 (left-1) (Decidable.not_not.1 g) oM;dsimp only;omega
def Jq1(F:Qx->Int->Vl×Int×Int)(h:Hp)(s:Qx)(left:Int):Vl×Int×Int:=
 if s.kind=0 then (.mk false s.n [],left-1,0)else if s.kind=1 then (.mk true s.n [],left-1,0)
 else if (Cj F (h.get s).2.1 (left-1)).2.2≠0 then (zeroV,(Cj F (h.get s).2.1 (left-1)).2)
 else (.mk true (h.get s).1 (Cj F (h.get s).2.1 (left-1)).1,(Cj F (h.get s).2.1 (left-1)).2.1,(h.get s).2.2)
def Zz0(f:List Vl)(o:List Vl×Int×Int):List Vl×Int×Int:=(f++o.1,o.2)
abbrev NI(n:Int):Q9:=.blk 3 [Iv n]
abbrev NP(h:Hp):Q9:=.blk 46 [La (h.cells.map Qk.row),Iv h.made,Iv h.used,Iv h.live,Iv h.peak]
abbrev Nn:Q9:=.blk 82 [.clo 33 [.ptr 1000 0,.ptr 1001 0,.ptr 1002 0]]
theorem Qd7(h:Hp)(a7:∀x∈h.cells,x.slots.length<=8796093022208)(a8:∀x∈h.cells,P7 x.tag)(a9:∀s,(h.get s).2.1.length<=1000000):∀(d:Nat) (s:Qx) (left:Int),0<=left->left<=d->left<=1000->
  Z0 Tryz.prog 33 [Dq s,.ptr 1000 0,.ptr 1001 0,.ptr 1002 0] [(1000,NI left),(1001,NP h),(1002,Nn)] (.tuple [Xd4 (Qa h d s left).1,Iv ((Qa h d s left).2.2)]) [(1000,NI (Qa h d s left).2.1),(1001,NP h),(1002,Nn)]:=by
 have key:∀(F:Qx->Int->Vl×Int×Int) (s:Qx) (left:Int),(∀x left,(F x left).2.2=0->0<=(F x left).2.1/\(F x left).2.1<=left)->0<=left->left<=1000->
   (∀(s:Qx) (f:Int),0<=f->f<=left-1->Z0 Tryz.prog 33 [Dq s,.ptr 1000 0,.ptr 1001 0,.ptr 1002 0] [(1000,NI f),(1001,NP h),(1002,Nn)] (.tuple [Xd4 (F s f).1,Iv ((F s f).2.2)]) [(1000,NI (F s f).2.1),(1001,NP h),(1002,Nn)])->
   ∀R,(left=0->R=(zeroV,left-1,4))->(left≠0->R=Jq1 F h s left)->Z0 Tryz.prog 33 [Dq s,.ptr 1000 0,.ptr 1001 0,.ptr 1002 0] [(1000,NI left),(1001,NP h),(1002,Nn)] (.tuple [Xd4 R.1,Iv R.2.2]) [(1000,NI R.2.1),(1001,NP h),(1002,Nn)]:=by
  intro F s left b0 h0 hl ih R b1 b2;obtain⟨sk,sn⟩:=s;refine Z0.of Tryz.func33 rfl rfl (Nat.le_of_ble_eq_true rfl) ?_;show X8 _ _ (Qz _ Tryz.f33 _ _) (X7 66 _ _);refine Wr ?_;refine Wr ?_;by_cases q1:(left-1)<0
  ·refine Wr ?_ (r:=by conv=>lhs;simp[q1]);refine Wy ?_;obtain rfl:R=(zeroV,left-1,4):=b1 oM;refine Wr ?_;refine Wt ?_;try dsimp only[Q8,Q5]
   apply Qz.ret
   ·rfl
   ·conv=>lhs;simp[Q7,Tryz.results33]
   ·rfl
   ·simp[Qq,Q4]
  refine Wr ?_ (r:=by conv=>lhs;simp[q1]);refine Wn ?_;refine Ws ?_;have l:=b2 oM;unfold Jq1 at l;refine Wr ?_;by_cases T:sk=0
  ·refine Wr ?_ (r:=by conv=>lhs;simp[T]);refine Wy ?_;subst T;rw[if_pos rfl]at l;subst l;refine Wr ?_;refine Wt ?_;try dsimp only[Q8,Q5]
   apply Qz.ret
   ·rfl
   ·conv=>lhs;simp[Q7,Tryz.results33]
   ·rfl
   ·simp[Qq,Q4]
  refine Wr ?_ (r:=by conv=>lhs;simp[T]);refine Wn ?_;by_cases q3:sk=1
  ·refine Wr ?_ (r:=by conv=>lhs;simp[q3]);refine Wy ?_;subst q3;rw[if_neg (show¬(1:Int)=0 by decide),if_pos rfl]at l;subst l;refine Wr ?_;refine Wt ?_;try dsimp only[Q8,Q5]
   apply Qz.ret
   ·rfl
   ·conv=>lhs;simp[Q7,Tryz.results33]
   ·rfl
   ·simp[Qq,Q4]
  refine Wr ?_ (r:=by conv=>lhs;simp[q3]);refine Wn ?_;refine Ws ?_;rw[if_neg T,if_neg q3]at l;have a1:=GL h ⟨sk,sn⟩ a7 a8;have a2:=a9 ⟨sk,sn⟩;generalize h.get ⟨sk,sn⟩=o at a1 l a2;obtain⟨tag,vs,e⟩:=o;dsimp only at a1 l a2;refine Wg [] [.p (λ_=>.tuple [Iv tag,La (vs.map Qx.row),Iv e]) none] ?_;refine Wr ?_;refine Wr ?_;refine Wb ?_;refine X8.le (Le.low [400] [] (fr:=[(3,.ptr 1002 0),(5,.ptr 5 0),(9,Iv e),(10,.ptr 10 0),(41,La (vs.map Qx.row)),(42,Iv (vs.length:Int)),(43,Iv (0:Int))]) (mem:=[(5,some (.blk 29 [Bv false,Iv 0,.lit (.slice none 0 0)])),(10,some (.blk 29 [Bv true,Iv tag,.arr 400 0 ([]:List Vl).length])),(400,some (.arr 29 3 (([]:List Vl).map Vl.row))),(1000,some (.blk 3 [Iv (left-1:Int)])),(1001,some (.blk 46 [La (h.cells.map Qk.row),Iv h.made,Iv h.used,Iv h.live,Iv h.peak])),(1002,some (.blk 82 [.clo 33 [.ptr 1000 0,.ptr 1001 0,.ptr 1002 0]]))]) rfl (by simp) (by simp)) ?_;refine Wl (σ:=λu:{u:Nat×List Vl×Int // u.1<=vs.length/\(Cj F vs (left-1)=Zz0 u.2.1 (Cj F (vs.drop u.1) u.2.2)/\0<=u.2.2/\u.2.2<=left-1/\u.2.1.length=u.1)}=>⟨66,[(3,.ptr 1002 0),(5,.ptr 5 0),(9,Iv e),(10,.ptr 10 0),(41,La (vs.map Qx.row)),(42,Iv (vs.length:Int)),(43,Iv (u.1.1:Int))],[(5,some (.blk 29 [Bv false,Iv 0,.lit (.slice none 0 0)])),(10,some (.blk 29 [Bv true,Iv tag,.arr 400 0 u.1.2.1.length])),(400,some (.arr 29 3 (u.1.2.1.map Vl.row))),(1000,some (.blk 3 [Iv u.1.2.2])),(1001,some (.blk 46 [La (h.cells.map Qk.row),Iv h.made,Iv h.used,Iv h.live,Iv h.peak])),(1002,some (.blk 82 [.clo 33 [.ptr 1000 0,.ptr 1001 0,.ptr 1002 0]]))]⟩)
   (μ:=λu=>vs.length-u.1.1) ⟨(0,[],left-1),⟨Nat.zero_le _,⟨rfl,by dsimp only;omega,Int.le_refl _,rfl⟩⟩⟩ (Le.sub (by simp) (by simp)) (λ⟨(i,us,f),⟨a3,a4⟩⟩=>?_)
  dsimp only at a3 a4⊢;obtain⟨g,b3,b4,b5⟩:=a4;refine Wr ?_;refine Wb ?_;refine Wc rfl (λhc=>?_) (λhc=>?_)
  ·have j:i<vs.length:=by have:=of_decide_eq_true hc;omega
   clear hc;have a5:vs[i]? =some vs[i]:=List.getElem?_eq_getElem j;have b6:vs[i]∈vs:=List.getElem_mem j;have a6:vs.drop i=vs[i]::vs.drop (i+1):=List.drop_eq_getElem_cons j;generalize vs[i]=y at a5 b6 a6;obtain⟨U,yn⟩:=y;rw[a6]at g;have hx:=ih ⟨U,yn⟩ f b3 b4;have t:=b0 ⟨U,yn⟩ f;have C:=Bc (F:=F) (x:=⟨U,yn⟩) (r:=vs.drop (i+1)) (left:=f);have I:=TJ (F:=F) (x:=⟨U,yn⟩) (r:=vs.drop (i+1)) (left:=f);generalize F ⟨U,yn⟩ f=o at hx t C I;obtain⟨⟨kc,kn,J⟩,l2,e2⟩:=o;dsimp only at hx t C I;refine Ws ?_;refine Wr ?_ (r:=by conv=>lhs;simp[Qx.row,a5]);refine Wg [] [.c [] [.agg [Iv U,Iv yn],.ptr 1000 0,.ptr 1001 0,.ptr 1002 0] [(1000,.blk 3 [Iv f]),(1001,.blk 46 [La (h.cells.map Qk.row),Iv h.made,Iv h.used,Iv h.live,Iv h.peak]),(1002,.blk 82 [.clo 33 [.ptr 1000 0,.ptr 1001 0,.ptr 1002 0]])] (.tuple [.agg [Bv kc,Iv kn,La (J.map Vl.row)],Iv e2]) [(1000,.blk 3 [Iv l2]),(1001,.blk 46 [La (h.cells.map Qk.row),Iv h.made,Iv h.used,Iv h.live,Iv h.peak]),(1002,.blk 82 [.clo 33 [.ptr 1000 0,.ptr 1001 0,.ptr 1002 0]])]] ?_;by_cases q4:e2=0
   ·refine Wr ?_ (r:=by conv=>lhs;simp[q4]);refine Wn ?_;refine Ws ?_;refine Wr ?_;refine Wr ?_;have P:=q4;have g:Cj F vs (left-1)=Zz0 (us++[.mk kc kn J]) (Cj F (vs.drop (i+1)) l2):=by rw[g,C P];simp[Zz0]
    have b7:=t P;subst P;refine⟨⟨(i+1,us++[.mk kc kn J],l2),j,⟨g,by dsimp only;omega,by dsimp only;omega,by rw[List.length_append,b5];rfl⟩⟩,by simp;omega,?_⟩;dsimp only;exact Le.sub (by simp) (by simp[Vl.row,Vl.Q3])
   refine Wr ?_ (r:=by conv=>lhs;simp[q4]);refine Wy ?_;rw[I q4]at g;obtain rfl:R=(zeroV,l2,e2):=by rw[l,g,Zz0,if_pos q4]
   refine Wr ?_;refine Wt ?_;try dsimp only[Q8,Q5]
   apply Qz.ret
   ·rfl
   ·conv=>lhs;simp[Q7,Tryz.results33]
   ·rfl
   ·simp[Qq,Q4]
  have j:i=vs.length:=by have:=of_decide_eq_false hc;omega
  subst j;clear hc;rw[List.drop_length,OJ]at g;refine We ?_;obtain rfl:R=(.mk true tag us,f,e):=by rw[l,g,Zz0,if_neg (λe=>e rfl),List.append_nil]
  refine Wr ?_;refine Wt ?_;try dsimp only[Q8,Q5]
  apply Qz.JW [400]
  ·rfl
  ·conv=>lhs;simp
  ·conv=>lhs;simp[Q7,Tryz.results33]
  ·rfl
  ·simp[Qq,Q4]
 intro d;induction d with
 |zero=>
  intro s left h0 hd hl;refine key (Qa h 0) s left (UY h 0) h0 hl (λs f q1 T=>oM) _ (λ_=>rfl) (λq=>oM)
 |succ d ih=>
  intro s left h0 hd hl;refine key (Qa h d) s left (UY h d) h0 hl (λs f q1 T=>ih s f q1 oM oM) _ (λq=>?_) (λq=>?_)
  ·rw[Qa,if_pos oM]
  ·rw[Qa,if_neg oM];rfl
theorem Nh(h:Hp)(s:Qx)(j:∀x∈h.cells,x.slots.length<=8796093022208)(l:∀x∈h.cells,P7 x.tag)(t:∀s,(h.get s).2.1.length<=1000000):Qv Tryz.prog 12 [Aq h,Dq s] (λ_=>.tuple [Xd4 (UZ h s).1,Iv ((UZ h s).2)]) none:=by
 obtain⟨R,f⟩:∃R,R=UZ h s:=⟨_,rfl⟩
 rw[<-f];have I:=Qd7 h j l t 1000 s 1000 oM oM oM;unfold UZ at f;generalize Qa h 1000 s 1000=o at I f;obtain⟨⟨J,P,g⟩,T,C⟩:=o;obtain⟨U,sn⟩:=s;dsimp only at I f;refine Qv.of Tryz.func12 rfl rfl rfl (Nat.le_of_ble_eq_true rfl) ?_;show X8 _ _ (Z7 _ Tryz.f12 _ _ _) (Z6 22 _);refine Wr ?_;refine Wr ?_;refine Wr ?_;refine Wr ?_;refine Wg [] [.c [(1000,6),(1001,2),(1002,7)] [.agg [Iv U,Iv sn],.ptr 1000 0,.ptr 1001 0,.ptr 1002 0] [(1000,.blk 3 [Iv 1000]),(1001,.blk 46 [La (h.cells.map Qk.row),Iv h.made,Iv h.used,Iv h.live,Iv h.peak]),(1002,.blk 82 [.clo 33 [.ptr 1000 0,.ptr 1001 0,.ptr 1002 0]])] (.tuple [.agg [Bv J,Iv P,La (g.map Vl.row)],Iv C]) [(1000,.blk 3 [Iv T]),(1001,.blk 46 [La (h.cells.map Qk.row),Iv h.made,Iv h.used,Iv h.live,Iv h.peak]),(1002,.blk 82 [.clo 33 [.ptr 1000 0,.ptr 1001 0,.ptr 1002 0]])]] ?_;by_cases i:C=0
 ·refine Wr ?_ (r:=by conv=>lhs;simp[i]);refine Wn ?_;refine Ws ?_;subst i;obtain rfl:R=(.mk J P g,0):=by rw[f,if_neg (λe=>e rfl)]
  refine Wr ?_;refine Wt ?_;try dsimp only[Q8,Q5]
  apply Z7.ret
  ·rfl
  ·conv=>lhs;simp[Q7,Tryz.results12]
  ·rfl
 refine Wr ?_ (r:=by conv=>lhs;simp[i]);refine Wy ?_;obtain rfl:R=(zeroV,C):=by rw[f,if_pos i]
 refine Wr ?_;refine Wt ?_;try dsimp only[Q8,Q5]
 apply Z7.ret
 ·rfl
 ·conv=>lhs;simp[Q7,Tryz.results12]
 ·rfl
abbrev Jx4(R:Jv2):AV:=.agg [Bv R.v.KD,Iv R.v.n,La (R.v.kids.map Vl.row),Iv R.e,Iv R.made,Iv R.used,Iv R.peak,Iv R.left]
theorem Bn{A:X6}(l:List Fn)(name:ByteArray)(args:List Int)(fuel:Int)(hl:l.length<=879609302220)(U:∀x∈l,FI A x)(ha:args.length<=1048576):Qv Tryz.prog 7 [F4 l,Sv name,Ci args,Iv fuel] (λ_=>Jx4 (GR l name args fuel)) none:=by
 obtain⟨R,f⟩:∃R,R=GR l name args fuel:=⟨_,rfl⟩
 rw[<-f];unfold GR at f;obtain⟨vs,t⟩:∃vs,vs=args.map FW:=⟨_,rfl⟩
 obtain⟨g,J⟩:∃g,g=Hp.zero:=⟨_,rfl⟩
 refine Qv.of Tryz.func7 rfl rfl rfl (Nat.le_of_ble_eq_true rfl) ?_;show X8 _ _ (Z7 _ Tryz.f7 _ _ _) (Z6 92 _);refine Wr ?_;by_cases q1:fuel<0
 ·refine Wr ?_ (r:=by conv=>lhs;simp[q1]);refine Wy ?_;rw[if_pos oM]at f;subst f;refine Wr ?_;refine Wt ?_;try dsimp only[Q8,Q5]
  apply Z7.ret
  ·rfl
  ·conv=>lhs;simp[Q7,Tryz.results7]
  ·rfl
 by_cases q2:300<fuel
 ·refine Wr ?_ (r:=by conv=>lhs;simp[q1,q2]);refine Wy ?_;rw[if_pos oM]at f;subst f;refine Wr ?_;refine Wt ?_;try dsimp only[Q8,Q5]
  apply Z7.ret
  ·rfl
  ·conv=>lhs;simp[Q7,Tryz.results7]
  ·rfl
 refine Wr ?_ (r:=by conv=>lhs;simp[q1,q2]);refine Wn ?_;refine Ws ?_;have a4:¬(fuel<0\/300<fuel):=oM;rw[if_neg a4]at f;refine Wr ?_;refine Wr ?_;refine Wr ?_;refine Wb ?_;refine X8.le (Le.low [400] [] (fr:=[(1,Sv name),(8,.ptr 8 0),(9,.ptr 27 0),(10,.arr 400 0 0),(28,La (args.map DF)),(29,Iv (args.length:Int)),(30,Iv (0:Int))]) (mem:=[(8,some (.blk 31 [Bv false,Iv 0,.lit (.slice none 0 0),Iv 0,Iv 0,Iv 0,Iv 0,Iv 0])),(27,some (.blk 64 [La (l.map Fn.row),.lit (.slice none 0 0),Iv 0,Iv 0,Iv 0,Iv 0,Iv fuel,Iv 0,Iv 0])),(400,some (.arr 48 2 ((vs.map Qx.row).take 0)))]) rfl (by simp) (by simp)) ?_;refine Wl (σ:=λu:{u:Nat // u<=args.length}=>⟨92,[(1,Sv name),(8,.ptr 8 0),(9,.ptr 27 0),(10,.arr 400 0 u.1),(28,La (args.map DF)),(29,Iv (args.length:Int)),(30,Iv (u.1:Int))],[(8,some (.blk 31 [Bv false,Iv 0,.lit (.slice none 0 0),Iv 0,Iv 0,Iv 0,Iv 0,Iv 0])),(27,some (.blk 64 [La (l.map Fn.row),.lit (.slice none 0 0),Iv 0,Iv 0,Iv 0,Iv 0,Iv fuel,Iv 0,Iv 0])),(400,some (.arr 48 2 ((vs.map Qx.row).take u.1)))]⟩)
  (μ:=λu=>args.length-u.1) ⟨0,Nat.zero_le _⟩ (Le.sub (by simp) (by simp)) (λ⟨i,b3⟩=>?_)
 dsimp only;refine Wr ?_;refine Wb ?_;refine Wc rfl (λhc=>?_) (λhc=>?_)
 ·have j:i<args.length:=by have:=of_decide_eq_true hc;omega
  clear hc;have P:args[i]? =some args[i]:=List.getElem?_eq_getElem j;have a5:args[i]∈args:=List.getElem_mem j;have a6:args.drop i=args[i]::args.drop (i+1):=List.drop_eq_getElem_cons j;generalize args[i]=x at P a5 a6;have a7:vs[i]? =some (FW x):=by rw[t,List.getElem?_map,P];rfl
  have a8:(vs.map Qx.row).take (i+1)=(vs.map Qx.row).take i++[(FW x).row]:=by rw[List.take_add_one,List.getElem?_map,a7];rfl
  have b2:=UA x;have b4:vs.length=args.length:=by rw[t,List.length_map]
  have a9:min i vs.length=i:=Nat.min_eq_left oM;refine Ws ?_;refine Wr ?_ (r:=by conv=>lhs;simp[P,DF]);refine Wr ?_;refine Wr ?_;refine⟨⟨i+1,j⟩,by simp;omega,?_⟩;dsimp only;rw[a8];exact Le.sub (by simp[a9]) (by simp[FW,Qx.row])
 have j:i=args.length:=by have:=of_decide_eq_false hc;omega
 subst j;clear hc;rw[show args.length=vs.length by rw[t,List.length_map],Sz];refine We ?_;apply X8.Hw [400]
 ·conv=>lhs;simp
 refine Wb ?_;refine X8.le (Le.low [] [] (fr:=[(1,Sv name),(8,.ptr 8 0),(9,.ptr 27 0),(10,La (vs.map Qx.row))]) (mem:=[(8,some (.blk 31 [Bv false,Iv 0,.lit (.slice none 0 0),Iv 0,Iv 0,Iv 0,Iv 0,Iv 0])),(27,some (.blk 64 [La (l.map Fn.row),La (g.cells.map Qk.row),Iv g.made,Iv g.used,Iv g.live,Iv g.peak,Iv fuel,Iv 0,Iv 0]))]) rfl (by simp) (by simp[Hp.zero,J])) ?_;have a1:Room (60000000 * fuel+1) fuel 0 g:=by rw[J];exact HI.zero oM
 have hx:=(Zk3 hl U 40 (Nat.le_refl _)).1 name vs g fuel (60000000 * fuel+1) (by rw[t,List.length_map];exact ha) ⟨a1,oM,oM,oM,oM⟩;have T:=Rp U 40 (60000000 * fuel+1) name vs g fuel oM oM a1;rw[show(40:Int)-((40:Nat):Int)=0 by omega]at hx;rw[<-t,<-J]at f;generalize J4 l 40 name vs g fuel=o at hx f T;obtain⟨v,I,f2,e⟩:=o;dsimp only at hx f T;obtain⟨C,b5,b6⟩:=T;have b0:=C.ok oM;have a2:=Nh I v (λx hx=>by have:=C.six x hx;omega) C.tag (λs=>by have:=(C.get s).2;omega);have a3:=Rl b0 oM v;unfold Xh4 at f;dsimp only at f;generalize UZ I v=o at a2 f;obtain⟨⟨kc,kn,b1⟩,e2⟩:=o;generalize I.drop v=o at a3 f;obtain⟨h3,e3⟩:=o;dsimp only at a2 f a3;refine Wg [] [.c [(1000,27)] [.ptr 1000 0,Sv name,La (vs.map Qx.row)] [(1000,.blk 64 [La (l.map Fn.row),La (g.cells.map Qk.row),Iv g.made,Iv g.used,Iv g.live,Iv g.peak,Iv fuel,Iv 0,Iv 0])] (.agg [Iv v.kind,Iv v.n]) [(1000,.blk 64 [La (l.map Fn.row),La (I.cells.map Qk.row),Iv I.made,Iv I.used,Iv I.live,Iv I.peak,Iv f2,Iv 0,Iv e])]] ?_;by_cases q3:e=0
 ·refine Wr ?_ (r:=by conv=>lhs;simp[q3]);refine Wn ?_;refine Ws ?_;subst q3;rw[if_neg (λe=>e rfl)]at f;refine Wz [] [.p (λ_=>.tuple [.agg [Bv kc,Iv kn,La (b1.map Vl.row)],Iv e2]) none] mixed ?_;by_cases q4:e2=0
  ·refine Wr ?_ (r:=by conv=>lhs;simp[q4]);refine Wn ?_;refine Ws ?_;subst q4;rw[if_neg (λe=>e rfl)]at f;refine Wz [] [.p (λ_=>.tuple [.agg [La (h3.cells.map Qk.row),Iv h3.made,Iv h3.used,Iv h3.live,Iv h3.peak],Iv e3]) none] mixed ?_;by_cases q5:e3=0
   ·refine Wr ?_ (r:=by conv=>lhs;simp[q5]);refine Wn ?_;refine Ws ?_;subst q5;rw[if_neg (λe=>e rfl)]at f;subst f;refine Wr ?_;refine Wt ?_;try dsimp only[Q8,Q5]
    apply Z7.ret
    ·rfl
    ·conv=>lhs;simp[Q7,Tryz.results7]
    ·rfl
   refine Wr ?_ (r:=by conv=>lhs;simp[q5]);refine Wy ?_;obtain rfl:R= .bad e3:=by rw[f,if_pos q5]
   refine Wr ?_;refine Wt ?_;try dsimp only[Q8,Q5]
   apply Z7.ret
   ·rfl
   ·conv=>lhs;simp[Q7,Tryz.results7]
   ·rfl
  refine Wr ?_ (r:=by conv=>lhs;simp[q4]);refine Wy ?_;obtain rfl:R= .bad e2:=by rw[f,if_pos q4]
  refine Wr ?_;refine Wt ?_;try dsimp only[Q8,Q5]
  apply Z7.ret
  ·rfl
  ·conv=>lhs;simp[Q7,Tryz.results7]
  ·rfl
 refine Wr ?_ (r:=by conv=>lhs;simp[q3]);refine Wy ?_;obtain rfl:R= .bad e:=by rw[f,if_pos q3]
 refine Wr ?_;refine Wt ?_;try dsimp only[Q8,Q5]
 apply Z7.ret
 ·rfl
 ·conv=>lhs;simp[Q7,Tryz.results7]
 ·rfl
theorem Xv1:((⟨#[107]⟩:ByteArray).size<=maxLen)=True:=eq_true (by show 1<=9223372036854775807;omega)
abbrev Jj6(c:Int):Q9:=.blk 107 [Iv c]
def RuN(N:Nat):Prop:=∀(t:Tm) (c:Int),t.dp<=N->t.Ok->t.Fs->Z0 Tryz.prog 46 [.ptr 1000 0,Y3 t] [(1000,Jj6 c)] (Y3 (t.ru N c).1) [(1000,Jj6 (t.ru N c).2)]
theorem Zk4(N:Nat)(ih:RuN N):RuN (N+1):=by
 intro t c b6 hO hS;obtain⟨R,hR⟩:∃R,R=t.ru (N+1) c:=⟨_,rfl⟩
 rw[<-hR];obtain⟨tk,tn,ta,tb,I,g,j⟩:=t;rw[Tm.ru]at hR;have c0:∀x∈g,x.Ok:=λx hx=>Tm.Xz.1 hO.2.2.1 x hx
 have e1:∀x∈j,x.Ok:=λx hx=>Cs.Xz.1 hO.2.2.2 x hx
 have c4:∀x∈g,x.Fs:=λx hx=>Kh.1 hS.2.2.1 x hx
 have e2:∀x∈j,x.Fs:=λx hx=>ZO.1 hS.2.2.2 x hx
 obtain⟨o1,o2,o3,o4,o5⟩:=hO.vars;rw[Tm.dp]at b6;refine Z0.of Tryz.func46 rfl rfl (Nat.le_of_ble_eq_true rfl) ?_;show X8 _ _ (Qz _ Tryz.f46 _ _) (X7 95 _ _);refine Wr ?_;by_cases b7:tk=10
 ·obtain⟨x,c5⟩:=hS.2.1 ⟨oM,oM⟩;have d7:g[0]? =some x:=by rw[c5];rfl
  have f7:g.length=1:=by rw[c5];rfl
  have b5:x∈g:=by rw[c5];simp
  have e3:=PY x.sz x I.length (Nat.le_refl _) (c0 x b5) (c4 x b5);obtain⟨q,hq⟩:∃q,Tm.fits I.length x=q:=⟨_,rfl⟩
  have f0:Tm.PZ I.length g=q:=by rw[c5,Tm.PZ,hq]
  rw[hq]at e3;rw[f0]at hR;obtain⟨us,hw⟩:∃w,Tm.H8 (JK (wr (c+1))) I.length g=w:=⟨_,rfl⟩
  have b8:=λc6=>BL x.sz x (JK (wr (c+1))) I.length (Nat.le_refl _) (c0 x b5) (c4 x b5) c6
  rw[hw]at hR;rw[c5,Tm.H8]at hw;obtain⟨x0,d8⟩:∃y,y=x:=⟨_,rfl⟩
  rw[<-d8]at hw b8 e3 d7;obtain⟨xk,xn,xa,xb,f1,f2,f3⟩:=x0;cases q with
  |true=>
   refine Wz [] [.p (λ_=>Bv true) none] mixed ?_ (hr:=by conv=>lhs;simp[Tm.row,Tm.Q3,Cs.Q3,d7,b7]);refine Wy ?_;obtain⟨e,he⟩:∃e:Int,wr (c+1)=e:=⟨_,rfl⟩
   rw[he]at b8 hw hR;have e4:P7 e:=by rw[<-he];exact JB _
   have f8:=MN e e4;have f9:=Ew e4;have g0:(⟨#[107]⟩:ByteArray).size=1:=rfl;refine Wg [4] [] ?_ (hr:=by conv=>lhs;simp[he]);refine Wg [] [.p (λ_=>Sv (Mv e)) none] ?_ (hr:=by conv=>lhs;simp[Xv1]);obtain⟨tok,c6⟩:∃b,((⟨#[107]⟩++(Mv e)))=b:=⟨_,rfl⟩
   rw[c6];have f4:JK e=tok:=c6;rw[f4]at b8 hw hR;have e5:tok.size<=140737488355328:=by rw[<-c6];simp[ByteArray.size_append];omega
   have b8:=b8 e5;rw[if_pos ⟨b7,rfl⟩]at hR;have d9:=O3 tok I.length e5 _ _ (Nat.le_refl _) (c0 x b5);have e0:=Xx8 tok I.length _ _ (Nat.le_refl _) (c4 x b5);have e6:=(SC tok I.length _ x (Nat.le_refl _)).dp;rw[<-d8]at d9 e0 e6;generalize Tm.put tok I.length (.mk xk xn xa xb f1 f2 f3)=z at b8 hw d9 e0 e6;have c7:∀u∈us,u.dp<=N:=λu hu=>by
    rw[<-hw]at hu;rw[List.mem_singleton.1 hu];have h1:=UF b5;rw[<-d8]at h1;rw[if_pos b7]at b6;omega
   have c8:∀u∈us,u.Ok:=λu hu=>by rw[<-hw]at hu;rw[List.mem_singleton.1 hu];exact d9
   have c9:∀u∈us,u.Fs:=λu hu=>by rw[<-hw]at hu;rw[List.mem_singleton.1 hu];exact e0
   obtain⟨zk,zn,za,zb,P,T,U⟩:=z;have e7:[[.int zk,.int zn,.str za,.str zb,Q6 P,.sl (T.map Tm.row),.sl (U.map Cs.row)]]=List.map Tm.row us:=by rw[<-hw];simp[Tm.row,Tm.Q3,Cs.Q3]
   have f5:us.length=1:=by rw[<-hw];rfl
   have f6:List.take 1 (List.map Tm.row us)=List.map Tm.row us:=List.take_of_length_le (by simp;omega);refine Wz [14] [.p (λ_=>.agg [Iv zk,Iv zn,Sv za,Sv zb,.d (Q6 P),La (T.map Tm.row),La (U.map Cs.row)]) none] mixed ?_ (hr:=by conv=>lhs;simp[Tm.row,Tm.Q3,Cs.Q3,d7,e7,f5]);obtain⟨J,b9⟩:∃l:List Cs,l=[]:=⟨_,rfl⟩
   have d0:∀u∈J,u.dp<=N:=by rw[b9];simp
   have d1:∀u∈J,u.Ok:=by rw[b9];simp
   have d2:∀u∈J,u.Fs:=by rw[b9];simp
   have e8:us.length<=1172812402960:=oM;have e9:J.length<=925904528652:=by rw[b9];simp
   replace hR:R=(.mk 11 0 ta tok I (Cw (Tm.ru N) us e).1 (QQ (Tm.ru N) J (Cw (Tm.ru N) us e).2).1,(QQ (Tm.ru N) J (Cw (Tm.ru N) us e).2).2):=by rw[hR,b9];rfl
   refine Wb ?_;refine X8.le (Le.low [] [] (fr:=[(0,.ptr 1000 0),(3,.ptr 3 0),(4,.ptr 4 0)]) (mem:=[(3,some (.blk 54 [Iv 11,Iv 0,Sv ta,Sv tok,.d (Q6 I),La (us.map Tm.row),La (J.map Cs.row)])),(4,some (.blk 54 [Iv 0,Iv 0,Sv .empty,Sv .empty,.lit (.slice none 0 0),.lit (.slice none 0 0),.lit (.slice none 0 0)])),(1000,some (.blk 107 [Iv e]))]) rfl (by simp) (by simp[b9,f6])) ?_;refine Wr ?_;refine Wr ?_;refine Wr ?_;refine Wb ?_;refine X8.le (Le.low [400] [] (fr:=[(0,.ptr 1000 0),(3,.ptr 3 0),(4,.ptr 4 0),(6,.ptr 6 0),(57,La (us.map Tm.row)),(58,Iv (us.length:Int)),(59,Iv (0:Int))]) (mem:=[(3,some (.blk 54 [Iv 11,Iv 0,Sv ta,Sv tok,.d (Q6 I),La (us.map Tm.row),La (J.map Cs.row)])),(4,some (.blk 54 [Iv 0,Iv 0,Sv .empty,Sv .empty,.lit (.slice none 0 0),.lit (.slice none 0 0),.lit (.slice none 0 0)])),(6,some (.blk 54 [Iv 11,Iv 0,Sv ta,Sv tok,.d (Q6 I),.arr 400 0 ([]:List Tm).length,.lit (.slice none 0 0)])),(400,some (.arr 54 7 (([]:List Tm).map Tm.row))),(1000,some (.blk 107 [Iv (e:Int)]))]) rfl (by simp) (by simp)) ?_;refine Wl (σ:=λu:{u:Nat×List Tm×Int // u.1<=us.length/\(Cw (Tm.ru N) us e=(u.2.1++(Cw (Tm.ru N) (us.drop u.1) u.2.2).1,(Cw (Tm.ru N) (us.drop u.1) u.2.2).2)/\u.2.1.length=u.1)}=>⟨95,[(0,.ptr 1000 0),(3,.ptr 3 0),(4,.ptr 4 0),(6,.ptr 6 0),(57,La (us.map Tm.row)),(58,Iv (us.length:Int)),(59,Iv (u.1.1:Int))],[(3,some (.blk 54 [Iv 11,Iv 0,Sv ta,Sv tok,.d (Q6 I),La (us.map Tm.row),La (J.map Cs.row)])),(4,some (.blk 54 [Iv 0,Iv 0,Sv .empty,Sv .empty,.lit (.slice none 0 0),.lit (.slice none 0 0),.lit (.slice none 0 0)])),(6,some (.blk 54 [Iv 11,Iv 0,Sv ta,Sv tok,.d (Q6 I),.arr 400 0 u.1.2.1.length,.lit (.slice none 0 0)])),(400,some (.arr 54 7 (u.1.2.1.map Tm.row))),(1000,some (.blk 107 [Iv u.1.2.2]))]⟩)
    (μ:=λu=>us.length-u.1.1) ⟨(0,[],e),⟨Nat.zero_le _,⟨by simp,rfl⟩⟩⟩ (Le.sub (by simp) (by simp)) (λ⟨(i,ys,c1),⟨d3,hw⟩⟩=>?_)
   dsimp only at d3 hw⊢;refine Wr ?_;refine Wb ?_;refine Wc rfl (λhc=>?_) (λhc=>?_)
   ·have C:i<us.length:=by have:=of_decide_eq_true hc;omega
    clear hc;have a9:us[i]? =some us[i]:=List.getElem?_eq_getElem C;have a1:us[i]∈us:=List.getElem_mem C;have b0:us.drop i=us[i]::us.drop (i+1):=List.drop_eq_getElem_cons C;generalize us[i]=y at a9 a1 b0;obtain⟨f,a3⟩:=hw;rw[b0,Cw]at f;have hx:=ih y c1 (c7 y a1) (c8 y a1) (c9 y a1);generalize y.ru N c1=o at hx f;obtain⟨z,c2⟩:=o;dsimp only at hx f;obtain⟨yk,yn,ya,yb,a4,a5,a6⟩:=y;obtain⟨zk,zn,za,zb,P,T,U⟩:=z;refine Ws ?_;refine Wr ?_ (r:=by conv=>lhs;simp[Tm.row,Tm.Q3,Cs.Q3,a9]);refine Wz [] [.c [] [.ptr 1000 0,.agg [Iv yk,Iv yn,Sv ya,Sv yb,.d (Q6 a4),La (a5.map Tm.row),La (a6.map Cs.row)]] [(1000,.blk 107 [Iv c1])] (.agg [Iv zk,Iv zn,Sv za,Sv zb,.d (Q6 P),La (T.map Tm.row),La (U.map Cs.row)]) [(1000,.blk 107 [Iv c2])]] mixed ?_;refine Wr ?_;refine⟨⟨(i+1,ys++[.mk zk zn za zb P T U],c2),C,⟨by rw[f];simp,by simp[a3]⟩⟩,by simp;omega,?_⟩;dsimp only;exact Le.sub (by simp) (by simp[Tm.row,Tm.Q3,Cs.Q3,a3])
   have C:i=us.length:=by have:=of_decide_eq_false hc;omega
   subst C;clear hc;obtain⟨f,a3⟩:=hw;rw[List.drop_length,Cw]at f;simp only[List.append_nil]at f;rw[f]at hR;dsimp only at hR;clear f;refine We ?_;refine Wr ?_;refine Wb ?_;refine X8.le (Le.low [401] [] (fr:=[(0,.ptr 1000 0),(4,.ptr 4 0),(6,.ptr 6 0),(73,La (J.map Cs.row)),(74,Iv (J.length:Int)),(75,Iv (0:Int))]) (mem:=[(4,some (.blk 54 [Iv 0,Iv 0,Sv .empty,Sv .empty,.lit (.slice none 0 0),.lit (.slice none 0 0),.lit (.slice none 0 0)])),(6,some (.blk 54 [Iv 11,Iv 0,Sv ta,Sv tok,.d (Q6 I),.arr 400 0 ys.length,.arr 401 0 ([]:List Cs).length])),(400,some (.arr 54 7 (ys.map Tm.row))),(401,some (.arr 87 9 (([]:List Cs).map Cs.row))),(1000,some (.blk 107 [Iv (c1:Int)]))]) rfl (by simp) (by simp)) ?_;refine Wl (σ:=λu:{u:Nat×List Cs×Int // u.1<=J.length/\(QQ (Tm.ru N) J c1=(u.2.1++(QQ (Tm.ru N) (J.drop u.1) u.2.2).1,(QQ (Tm.ru N) (J.drop u.1) u.2.2).2)/\u.2.1.length=u.1)}=>⟨95,[(0,.ptr 1000 0),(4,.ptr 4 0),(6,.ptr 6 0),(73,La (J.map Cs.row)),(74,Iv (J.length:Int)),(75,Iv (u.1.1:Int))],[(4,some (.blk 54 [Iv 0,Iv 0,Sv .empty,Sv .empty,.lit (.slice none 0 0),.lit (.slice none 0 0),.lit (.slice none 0 0)])),(6,some (.blk 54 [Iv 11,Iv 0,Sv ta,Sv tok,.d (Q6 I),.arr 400 0 ys.length,.arr 401 0 u.1.2.1.length])),(400,some (.arr 54 7 (ys.map Tm.row))),(401,some (.arr 87 9 (u.1.2.1.map Cs.row))),(1000,some (.blk 107 [Iv u.1.2.2]))]⟩)
    (μ:=λu=>J.length-u.1.1) ⟨(0,[],c1),⟨Nat.zero_le _,⟨by simp,rfl⟩⟩⟩ (Le.sub (by simp) (by simp)) (λ⟨(i,ds,c3),⟨b1,a7⟩⟩=>?_)
   dsimp only at b1 a7⊢;refine Wr ?_;refine Wb ?_;refine Wc rfl (λhc=>?_) (λhc=>?_)
   ·have C:i<J.length:=by have:=of_decide_eq_true hc;omega
    clear hc;have b2:J[i]? =some J[i]:=List.getElem?_eq_getElem C;have a2:J[i]∈J:=List.getElem_mem C;have b3:J.drop i=J[i]::J.drop (i+1):=List.drop_eq_getElem_cons C;generalize J[i]=d at b2 a2 b3;obtain⟨f,a8⟩:=a7;have b4:=d0 d a2;have d4:=d1 d a2;have d5:=d2 d a2;obtain⟨dt,d6,y⟩:=d;rw[b3,QQ]at f;have hx:=ih y c3 b4 d4.2.2 d5;generalize y.ru N c3=o at hx f;obtain⟨z,c2⟩:=o;dsimp only at hx f;obtain⟨yk,yn,ya,yb,a4,a5,a6⟩:=y;obtain⟨zk,zn,za,zb,P,T,U⟩:=z;refine Ws ?_;refine Wr ?_ (r:=by conv=>lhs;simp[Tm.row,Tm.Q3,Cs.Q3,b2,Cs.row]);refine Wz [] [.c [] [.ptr 1000 0,.agg [Iv yk,Iv yn,Sv ya,Sv yb,.d (Q6 a4),La (a5.map Tm.row),La (a6.map Cs.row)]] [(1000,.blk 107 [Iv c3])] (.agg [Iv zk,Iv zn,Sv za,Sv zb,.d (Q6 P),La (T.map Tm.row),La (U.map Cs.row)]) [(1000,.blk 107 [Iv c2])]] mixed ?_;refine Wr ?_;refine⟨⟨(i+1,ds++[.mk dt d6 (.mk zk zn za zb P T U)],c2),C,⟨by rw[f];simp,by simp[a8]⟩⟩,by simp;omega,?_⟩;dsimp only;exact Le.sub (by simp) (by simp[Cs.row,Tm.row,Tm.Q3,Cs.Q3,a8])
   have C:i=J.length:=by have:=of_decide_eq_false hc;omega
   subst C;clear hc;obtain⟨f,a8⟩:=a7;rw[List.drop_length,QQ]at f;simp only[List.append_nil]at f;rw[f]at hR;dsimp only at hR;subst hR;refine We ?_;refine Wr ?_;refine Wt ?_;try dsimp only[Q8,Q5]
   apply Qz.JW [400,401]
   ·rfl
   ·conv=>lhs;simp
   ·conv=>lhs;simp[Q7,Tryz.results46]
   ·rfl
   ·simp[Qq,Q4]
  |false=>
   refine Wz [] [.p (λ_=>Bv false) none] mixed ?_ (hr:=by conv=>lhs;simp[Tm.row,Tm.Q3,Cs.Q3,d7,b7]);refine Wn ?_;refine Ws ?_;subst b7;rw[if_neg (λh=>by have h1:=h.1;have h2:=h.2;first|omega|simp at h2)]at hR;have c7:∀u∈g,u.dp<=N:=λu hu=>by have:=UF hu;split at b6<;> omega
   have d0:∀u∈j,u.dp<=N:=λu hu=>by have:=UN hu;split at b6<;> omega
   have c8:=c0;have c9:=c4;have d1:=e1;have d2:=e2;have e8:=o2;have e9:=o3;refine Wr ?_;refine Wr ?_;refine Wr ?_;refine Wb ?_;refine X8.le (Le.low [400] [] (fr:=[(0,.ptr 1000 0),(3,.ptr 3 0),(4,.ptr 4 0),(6,.ptr 6 0),(57,La (g.map Tm.row)),(58,Iv (g.length:Int)),(59,Iv (0:Int))]) (mem:=[(3,some (.blk 54 [Iv 10,Iv tn,Sv ta,Sv tb,.d (Q6 I),La (g.map Tm.row),La (j.map Cs.row)])),(4,some (.blk 54 [Iv 0,Iv 0,Sv .empty,Sv .empty,.lit (.slice none 0 0),.lit (.slice none 0 0),.lit (.slice none 0 0)])),(6,some (.blk 54 [Iv 10,Iv tn,Sv ta,Sv tb,.d (Q6 I),.arr 400 0 ([]:List Tm).length,.lit (.slice none 0 0)])),(400,some (.arr 54 7 (([]:List Tm).map Tm.row))),(1000,some (.blk 107 [Iv (c:Int)]))]) rfl (by simp) (by simp)) ?_;refine Wl (σ:=λu:{u:Nat×List Tm×Int // u.1<=g.length/\(Cw (Tm.ru N) g c=(u.2.1++(Cw (Tm.ru N) (g.drop u.1) u.2.2).1,(Cw (Tm.ru N) (g.drop u.1) u.2.2).2)/\u.2.1.length=u.1)}=>⟨95,[(0,.ptr 1000 0),(3,.ptr 3 0),(4,.ptr 4 0),(6,.ptr 6 0),(57,La (g.map Tm.row)),(58,Iv (g.length:Int)),(59,Iv (u.1.1:Int))],[(3,some (.blk 54 [Iv 10,Iv tn,Sv ta,Sv tb,.d (Q6 I),La (g.map Tm.row),La (j.map Cs.row)])),(4,some (.blk 54 [Iv 0,Iv 0,Sv .empty,Sv .empty,.lit (.slice none 0 0),.lit (.slice none 0 0),.lit (.slice none 0 0)])),(6,some (.blk 54 [Iv 10,Iv tn,Sv ta,Sv tb,.d (Q6 I),.arr 400 0 u.1.2.1.length,.lit (.slice none 0 0)])),(400,some (.arr 54 7 (u.1.2.1.map Tm.row))),(1000,some (.blk 107 [Iv u.1.2.2]))]⟩)
    (μ:=λu=>g.length-u.1.1) ⟨(0,[],c),⟨Nat.zero_le _,⟨by simp,rfl⟩⟩⟩ (Le.sub (by simp) (by simp)) (λ⟨(i,ys,c1),⟨d3,hw⟩⟩=>?_)
   dsimp only at d3 hw⊢;refine Wr ?_;refine Wb ?_;refine Wc rfl (λhc=>?_) (λhc=>?_)
   ·have C:i<g.length:=by have:=of_decide_eq_true hc;omega
    clear hc;have a9:g[i]? =some g[i]:=List.getElem?_eq_getElem C;have a1:g[i]∈g:=List.getElem_mem C;have b0:g.drop i=g[i]::g.drop (i+1):=List.drop_eq_getElem_cons C;generalize g[i]=y at a9 a1 b0;obtain⟨f,a3⟩:=hw;rw[b0,Cw]at f;have hx:=ih y c1 (c7 y a1) (c8 y a1) (c9 y a1);generalize y.ru N c1=o at hx f;obtain⟨z,c2⟩:=o;dsimp only at hx f;obtain⟨yk,yn,ya,yb,a4,a5,a6⟩:=y;obtain⟨zk,zn,za,zb,P,T,U⟩:=z;refine Ws ?_;refine Wr ?_ (r:=by conv=>lhs;simp[Tm.row,Tm.Q3,Cs.Q3,a9]);refine Wz [] [.c [] [.ptr 1000 0,.agg [Iv yk,Iv yn,Sv ya,Sv yb,.d (Q6 a4),La (a5.map Tm.row),La (a6.map Cs.row)]] [(1000,.blk 107 [Iv c1])] (.agg [Iv zk,Iv zn,Sv za,Sv zb,.d (Q6 P),La (T.map Tm.row),La (U.map Cs.row)]) [(1000,.blk 107 [Iv c2])]] mixed ?_;refine Wr ?_;refine⟨⟨(i+1,ys++[.mk zk zn za zb P T U],c2),C,⟨by rw[f];simp,by simp[a3]⟩⟩,by simp;omega,?_⟩;dsimp only;exact Le.sub (by simp) (by simp[Tm.row,Tm.Q3,Cs.Q3,a3])
   have C:i=g.length:=by have:=of_decide_eq_false hc;omega
   subst C;clear hc;obtain⟨f,a3⟩:=hw;rw[List.drop_length,Cw]at f;simp only[List.append_nil]at f;rw[f]at hR;dsimp only at hR;clear f;refine We ?_;refine Wr ?_;refine Wb ?_;refine X8.le (Le.low [401] [] (fr:=[(0,.ptr 1000 0),(4,.ptr 4 0),(6,.ptr 6 0),(73,La (j.map Cs.row)),(74,Iv (j.length:Int)),(75,Iv (0:Int))]) (mem:=[(4,some (.blk 54 [Iv 0,Iv 0,Sv .empty,Sv .empty,.lit (.slice none 0 0),.lit (.slice none 0 0),.lit (.slice none 0 0)])),(6,some (.blk 54 [Iv 10,Iv tn,Sv ta,Sv tb,.d (Q6 I),.arr 400 0 ys.length,.arr 401 0 ([]:List Cs).length])),(400,some (.arr 54 7 (ys.map Tm.row))),(401,some (.arr 87 9 (([]:List Cs).map Cs.row))),(1000,some (.blk 107 [Iv (c1:Int)]))]) rfl (by simp) (by simp)) ?_;refine Wl (σ:=λu:{u:Nat×List Cs×Int // u.1<=j.length/\(QQ (Tm.ru N) j c1=(u.2.1++(QQ (Tm.ru N) (j.drop u.1) u.2.2).1,(QQ (Tm.ru N) (j.drop u.1) u.2.2).2)/\u.2.1.length=u.1)}=>⟨95,[(0,.ptr 1000 0),(4,.ptr 4 0),(6,.ptr 6 0),(73,La (j.map Cs.row)),(74,Iv (j.length:Int)),(75,Iv (u.1.1:Int))],[(4,some (.blk 54 [Iv 0,Iv 0,Sv .empty,Sv .empty,.lit (.slice none 0 0),.lit (.slice none 0 0),.lit (.slice none 0 0)])),(6,some (.blk 54 [Iv 10,Iv tn,Sv ta,Sv tb,.d (Q6 I),.arr 400 0 ys.length,.arr 401 0 u.1.2.1.length])),(400,some (.arr 54 7 (ys.map Tm.row))),(401,some (.arr 87 9 (u.1.2.1.map Cs.row))),(1000,some (.blk 107 [Iv u.1.2.2]))]⟩)
    (μ:=λu=>j.length-u.1.1) ⟨(0,[],c1),⟨Nat.zero_le _,⟨by simp,rfl⟩⟩⟩ (Le.sub (by simp) (by simp)) (λ⟨(i,ds,c3),⟨b1,a7⟩⟩=>?_)
   dsimp only at b1 a7⊢;refine Wr ?_;refine Wb ?_;refine Wc rfl (λhc=>?_) (λhc=>?_)
   ·have C:i<j.length:=by have:=of_decide_eq_true hc;omega
    clear hc;have b2:j[i]? =some j[i]:=List.getElem?_eq_getElem C;have a2:j[i]∈j:=List.getElem_mem C;have b3:j.drop i=j[i]::j.drop (i+1):=List.drop_eq_getElem_cons C;generalize j[i]=d at b2 a2 b3;obtain⟨f,a8⟩:=a7;have b4:=d0 d a2;have d4:=d1 d a2;have d5:=d2 d a2;obtain⟨dt,d6,y⟩:=d;rw[b3,QQ]at f;have hx:=ih y c3 b4 d4.2.2 d5;generalize y.ru N c3=o at hx f;obtain⟨z,c2⟩:=o;dsimp only at hx f;obtain⟨yk,yn,ya,yb,a4,a5,a6⟩:=y;obtain⟨zk,zn,za,zb,P,T,U⟩:=z;refine Ws ?_;refine Wr ?_ (r:=by conv=>lhs;simp[Tm.row,Tm.Q3,Cs.Q3,b2,Cs.row]);refine Wz [] [.c [] [.ptr 1000 0,.agg [Iv yk,Iv yn,Sv ya,Sv yb,.d (Q6 a4),La (a5.map Tm.row),La (a6.map Cs.row)]] [(1000,.blk 107 [Iv c3])] (.agg [Iv zk,Iv zn,Sv za,Sv zb,.d (Q6 P),La (T.map Tm.row),La (U.map Cs.row)]) [(1000,.blk 107 [Iv c2])]] mixed ?_;refine Wr ?_;refine⟨⟨(i+1,ds++[.mk dt d6 (.mk zk zn za zb P T U)],c2),C,⟨by rw[f];simp,by simp[a8]⟩⟩,by simp;omega,?_⟩;dsimp only;exact Le.sub (by simp) (by simp[Cs.row,Tm.row,Tm.Q3,Cs.Q3,a8])
   have C:i=j.length:=by have:=of_decide_eq_false hc;omega
   subst C;clear hc;obtain⟨f,a8⟩:=a7;rw[List.drop_length,QQ]at f;simp only[List.append_nil]at f;rw[f]at hR;dsimp only at hR;subst hR;refine We ?_;refine Wr ?_;refine Wt ?_;try dsimp only[Q8,Q5]
   apply Qz.JW [400,401]
   ·rfl
   ·conv=>lhs;simp
   ·conv=>lhs;simp[Q7,Tryz.results46]
   ·rfl
   ·simp[Qq,Q4]
 refine Wz [] [] mixed ?_ (hr:=by conv=>lhs;simp[b7]);refine Wn ?_;refine Ws ?_;rw[if_neg (λh=>by have h1:=h.1;have h2:=h.2;first|omega|simp at h2)]at hR;have c7:∀u∈g,u.dp<=N:=λu hu=>by have:=UF hu;split at b6<;> omega
 have d0:∀u∈j,u.dp<=N:=λu hu=>by have:=UN hu;split at b6<;> omega
 have c8:=c0;have c9:=c4;have d1:=e1;have d2:=e2;have e8:=o2;have e9:=o3;refine Wr ?_;refine Wr ?_;refine Wr ?_;refine Wb ?_;refine X8.le (Le.low [400] [] (fr:=[(0,.ptr 1000 0),(3,.ptr 3 0),(4,.ptr 4 0),(6,.ptr 6 0),(57,La (g.map Tm.row)),(58,Iv (g.length:Int)),(59,Iv (0:Int))]) (mem:=[(3,some (.blk 54 [Iv tk,Iv tn,Sv ta,Sv tb,.d (Q6 I),La (g.map Tm.row),La (j.map Cs.row)])),(4,some (.blk 54 [Iv 0,Iv 0,Sv .empty,Sv .empty,.lit (.slice none 0 0),.lit (.slice none 0 0),.lit (.slice none 0 0)])),(6,some (.blk 54 [Iv tk,Iv tn,Sv ta,Sv tb,.d (Q6 I),.arr 400 0 ([]:List Tm).length,.lit (.slice none 0 0)])),(400,some (.arr 54 7 (([]:List Tm).map Tm.row))),(1000,some (.blk 107 [Iv (c:Int)]))]) rfl (by simp) (by simp)) ?_;refine Wl (σ:=λu:{u:Nat×List Tm×Int // u.1<=g.length/\(Cw (Tm.ru N) g c=(u.2.1++(Cw (Tm.ru N) (g.drop u.1) u.2.2).1,(Cw (Tm.ru N) (g.drop u.1) u.2.2).2)/\u.2.1.length=u.1)}=>⟨95,[(0,.ptr 1000 0),(3,.ptr 3 0),(4,.ptr 4 0),(6,.ptr 6 0),(57,La (g.map Tm.row)),(58,Iv (g.length:Int)),(59,Iv (u.1.1:Int))],[(3,some (.blk 54 [Iv tk,Iv tn,Sv ta,Sv tb,.d (Q6 I),La (g.map Tm.row),La (j.map Cs.row)])),(4,some (.blk 54 [Iv 0,Iv 0,Sv .empty,Sv .empty,.lit (.slice none 0 0),.lit (.slice none 0 0),.lit (.slice none 0 0)])),(6,some (.blk 54 [Iv tk,Iv tn,Sv ta,Sv tb,.d (Q6 I),.arr 400 0 u.1.2.1.length,.lit (.slice none 0 0)])),(400,some (.arr 54 7 (u.1.2.1.map Tm.row))),(1000,some (.blk 107 [Iv u.1.2.2]))]⟩)
  (μ:=λu=>g.length-u.1.1) ⟨(0,[],c),⟨Nat.zero_le _,⟨by simp,rfl⟩⟩⟩ (Le.sub (by simp) (by simp)) (λ⟨(i,ys,c1),⟨d3,hw⟩⟩=>?_)
 dsimp only at d3 hw⊢;refine Wr ?_;refine Wb ?_;refine Wc rfl (λhc=>?_) (λhc=>?_)
 ·have C:i<g.length:=by have:=of_decide_eq_true hc;omega
  clear hc;have a9:g[i]? =some g[i]:=List.getElem?_eq_getElem C;have a1:g[i]∈g:=List.getElem_mem C;have b0:g.drop i=g[i]::g.drop (i+1):=List.drop_eq_getElem_cons C;generalize g[i]=y at a9 a1 b0;obtain⟨f,a3⟩:=hw;rw[b0,Cw]at f;have hx:=ih y c1 (c7 y a1) (c8 y a1) (c9 y a1);generalize y.ru N c1=o at hx f;obtain⟨z,c2⟩:=o;dsimp only at hx f;obtain⟨yk,yn,ya,yb,a4,a5,a6⟩:=y;obtain⟨zk,zn,za,zb,P,T,U⟩:=z;refine Ws ?_;refine Wr ?_ (r:=by conv=>lhs;simp[Tm.row,Tm.Q3,Cs.Q3,a9]);refine Wz [] [.c [] [.ptr 1000 0,.agg [Iv yk,Iv yn,Sv ya,Sv yb,.d (Q6 a4),La (a5.map Tm.row),La (a6.map Cs.row)]] [(1000,.blk 107 [Iv c1])] (.agg [Iv zk,Iv zn,Sv za,Sv zb,.d (Q6 P),La (T.map Tm.row),La (U.map Cs.row)]) [(1000,.blk 107 [Iv c2])]] mixed ?_;refine Wr ?_;refine⟨⟨(i+1,ys++[.mk zk zn za zb P T U],c2),C,⟨by rw[f];simp,by simp[a3]⟩⟩,by simp;omega,?_⟩;dsimp only;exact Le.sub (by simp) (by simp[Tm.row,Tm.Q3,Cs.Q3,a3])
 have C:i=g.length:=by have:=of_decide_eq_false hc;omega
 subst C;clear hc;obtain⟨f,a3⟩:=hw;rw[List.drop_length,Cw]at f;simp only[List.append_nil]at f;rw[f]at hR;dsimp only at hR;clear f;refine We ?_;refine Wr ?_;refine Wb ?_;refine X8.le (Le.low [401] [] (fr:=[(0,.ptr 1000 0),(4,.ptr 4 0),(6,.ptr 6 0),(73,La (j.map Cs.row)),(74,Iv (j.length:Int)),(75,Iv (0:Int))]) (mem:=[(4,some (.blk 54 [Iv 0,Iv 0,Sv .empty,Sv .empty,.lit (.slice none 0 0),.lit (.slice none 0 0),.lit (.slice none 0 0)])),(6,some (.blk 54 [Iv tk,Iv tn,Sv ta,Sv tb,.d (Q6 I),.arr 400 0 ys.length,.arr 401 0 ([]:List Cs).length])),(400,some (.arr 54 7 (ys.map Tm.row))),(401,some (.arr 87 9 (([]:List Cs).map Cs.row))),(1000,some (.blk 107 [Iv (c1:Int)]))]) rfl (by simp) (by simp)) ?_;refine Wl (σ:=λu:{u:Nat×List Cs×Int // u.1<=j.length/\(QQ (Tm.ru N) j c1=(u.2.1++(QQ (Tm.ru N) (j.drop u.1) u.2.2).1,(QQ (Tm.ru N) (j.drop u.1) u.2.2).2)/\u.2.1.length=u.1)}=>⟨95,[(0,.ptr 1000 0),(4,.ptr 4 0),(6,.ptr 6 0),(73,La (j.map Cs.row)),(74,Iv (j.length:Int)),(75,Iv (u.1.1:Int))],[(4,some (.blk 54 [Iv 0,Iv 0,Sv .empty,Sv .empty,.lit (.slice none 0 0),.lit (.slice none 0 0),.lit (.slice none 0 0)])),(6,some (.blk 54 [Iv tk,Iv tn,Sv ta,Sv tb,.d (Q6 I),.arr 400 0 ys.length,.arr 401 0 u.1.2.1.length])),(400,some (.arr 54 7 (ys.map Tm.row))),(401,some (.arr 87 9 (u.1.2.1.map Cs.row))),(1000,some (.blk 107 [Iv u.1.2.2]))]⟩)
  (μ:=λu=>j.length-u.1.1) ⟨(0,[],c1),⟨Nat.zero_le _,⟨by simp,rfl⟩⟩⟩ (Le.sub (by simp) (by simp)) (λ⟨(i,ds,c3),⟨b1,a7⟩⟩=>?_)
 dsimp only at b1 a7⊢;refine Wr ?_;refine Wb ?_;refine Wc rfl (λhc=>?_) (λhc=>?_)
 ·have C:i<j.length:=by have:=of_decide_eq_true hc;omega
  clear hc;have b2:j[i]? =some j[i]:=List.getElem?_eq_getElem C;have a2:j[i]∈j:=List.getElem_mem C;have b3:j.drop i=j[i]::j.drop (i+1):=List.drop_eq_getElem_cons C;generalize j[i]=d at b2 a2 b3;obtain⟨f,a8⟩:=a7;have b4:=d0 d a2;have d4:=d1 d a2;have d5:=d2 d a2;obtain⟨dt,d6,y⟩:=d;rw[b3,QQ]at f;have hx:=ih y c3 b4 d4.2.2 d5;generalize y.ru N c3=o at hx f;obtain⟨z,c2⟩:=o;dsimp only at hx f;obtain⟨yk,yn,ya,yb,a4,a5,a6⟩:=y;obtain⟨zk,zn,za,zb,P,T,U⟩:=z;refine Ws ?_;refine Wr ?_ (r:=by conv=>lhs;simp[Tm.row,Tm.Q3,Cs.Q3,b2,Cs.row]);refine Wz [] [.c [] [.ptr 1000 0,.agg [Iv yk,Iv yn,Sv ya,Sv yb,.d (Q6 a4),La (a5.map Tm.row),La (a6.map Cs.row)]] [(1000,.blk 107 [Iv c3])] (.agg [Iv zk,Iv zn,Sv za,Sv zb,.d (Q6 P),La (T.map Tm.row),La (U.map Cs.row)]) [(1000,.blk 107 [Iv c2])]] mixed ?_;refine Wr ?_;refine⟨⟨(i+1,ds++[.mk dt d6 (.mk zk zn za zb P T U)],c2),C,⟨by rw[f];simp,by simp[a8]⟩⟩,by simp;omega,?_⟩;dsimp only;exact Le.sub (by simp) (by simp[Cs.row,Tm.row,Tm.Q3,Cs.Q3,a8])
 have C:i=j.length:=by have:=of_decide_eq_false hc;omega
 subst C;clear hc;obtain⟨f,a8⟩:=a7;rw[List.drop_length,QQ]at f;simp only[List.append_nil]at f;rw[f]at hR;dsimp only at hR;subst hR;refine We ?_;refine Wr ?_;refine Wt ?_;try dsimp only[Q8,Q5]
 apply Qz.JW [400,401]
 ·rfl
 ·conv=>lhs;simp
 ·conv=>lhs;simp[Q7,Tryz.results46]
 ·rfl
 ·simp[Qq,Q4]
theorem Qx1:∀N,RuN N
 |0=>λt c h=>by obtain⟨tk,j,l,tb,f,g,i⟩:=t;rw[Tm.dp]at h;split at h<;> omega
 |N+1=>Zk4 N (Qx1 N)
theorem Zj4(f:Fn)(h:f.body.Ok/\f.body.Fs):Qv Tryz.prog 24 [XN f] (λ_=>XN f.ru) none:=by
 have I:=Qx1 f.body.dp f.body 0 (Nat.le_refl _) h.1 h.2;unfold Fn.ru;generalize f.body.ru f.body.dp 0=o at I⊢;obtain⟨z,J⟩:=o;obtain⟨fg,P,⟨T,fn,U,fb,g,i,j⟩⟩:=f;obtain⟨zk,zn,za,zb,l,t,C⟩:=z;dsimp only at I;refine Qv.of Tryz.func24 rfl rfl rfl (Nat.le_of_ble_eq_true rfl) ?_;show X8 _ _ (Z7 _ Tryz.f24 _ _ _) (Z6 13 _);refine Wr ?_ (r:=by conv=>lhs;simp[XN]);refine Wz [] [.c [(1000,8)] [.ptr 1000 0,.agg [Iv T,Iv fn,Sv U,Sv fb,.d (Q6 g),La (i.map Tm.row),La (j.map Cs.row)]] [(1000,.blk 107 [Iv 0])] (.agg [Iv zk,Iv zn,Sv za,Sv zb,.d (Q6 l),La (t.map Tm.row),La (C.map Cs.row)]) [(1000,.blk 107 [Iv J])]] mixed ?_;refine Wt ?_;try dsimp only[Q8,Q5]
 apply Z7.ret
 ·rfl
 ·conv=>lhs;simp[Q7,Tryz.results24]
 rfl
theorem FL(l:List Fn)(hl:l.length<=879609302220)(o:∀f∈l,f.body.Ok/\f.body.Fs):Qv Tryz.prog 20 [F4 l,.d (.fn 24)] (λ_=>F4 (l.map Fn.ru)) none:=by
 obtain⟨G,hG⟩:∃G,G=l.map Fn.ru:=⟨_,rfl⟩
 rw[<-hG];refine Qv.of Tryz.func20 rfl rfl rfl (Nat.le_of_ble_eq_true rfl) ?_;show X8 _ _ (Z7 _ Tryz.f20 _ _ _) (Z6 22 _);refine Wr ?_;refine Wr ?_;refine Wr ?_;refine Wb ?_;refine X8.le (Le.low [400] [] (fr:=[(1,.d (.fn 24)),(5,.arr 400 0 ([]:List Fn).length),(8,La (l.map Fn.row)),(9,Iv (l.length:Int)),(10,Iv (0:Int))]) (mem:=[(400,some (.arr 56 9 (([]:List Fn).map Fn.row)))]) rfl (by simp) (by simp)) ?_;refine Wl (σ:=λu:{u:Nat×List Fn // u.1<=l.length/\u.2=(l.take u.1).map Fn.ru}=>⟨22,[(1,.d (.fn 24)),(5,.arr 400 0 u.1.2.length),(8,La (l.map Fn.row)),(9,Iv (l.length:Int)),(10,Iv (u.1.1:Int))],[(400,some (.arr 56 9 (u.1.2.map Fn.row)))]⟩)
  (μ:=λu=>l.length-u.1.1) ⟨(0,[]),⟨Nat.zero_le _,by simp⟩⟩ (Le.sub (by simp) (by simp)) (λ⟨(i,gs),⟨a1,t⟩⟩=>?_)
 dsimp only at a1 t⊢;refine Wr ?_;refine Wb ?_;refine Wc rfl (λC=>?_) (λC=>?_)
 ·have g:i<l.length:=by have:=of_decide_eq_true C;omega
  clear C;have j:l[i]? =some l[i]:=List.getElem?_eq_getElem g;have I:l[i]∈l:=List.getElem_mem g;have a2:l.drop i=l[i]::l.drop (i+1):=List.drop_eq_getElem_cons g;generalize l[i]=f at j I a2;have a3:gs.length=i:=by rw[t,List.length_map,List.length_take];omega
  have hx:=Zj4 f (o f I);generalize hz:Fn.ru f=z at hx;obtain⟨fg,a4,⟨fk,fn,fa,fb,a5,a6,a7⟩⟩:=f;obtain⟨zg,J,⟨zk,zn,za,zb,P,T,U⟩⟩:=z;dsimp only[XN]at hx;refine Ws ?_;refine Wr ?_ (r:=by conv=>lhs;simp[Fn.row,Tm.row,Tm.Q3,Cs.Q3,j]);refine Wg [] [.p (λ_=>.agg [Sv zg,.d (Q6 J),Iv zk,Iv zn,Sv za,Sv zb,.d (Q6 P),La (T.map Tm.row),La (U.map Cs.row)]) none] ?_;refine Wr ?_;refine⟨⟨(i+1,gs++[⟨zg,J,.mk zk zn za zb P T U⟩]),g,by rw[t,List.take_add_one,j,List.map_append,<-hz];rfl⟩,by simp;omega,?_⟩;dsimp only;exact Le.sub (by simp[a3]) (by simp[Fn.row,Tm.row,Tm.Q3,Cs.Q3])
 have g:i=l.length:=by have:=of_decide_eq_false C;omega
 subst g;clear C;rw[List.take_length]at t;obtain rfl:gs=G:=by rw[t,hG]
 refine We ?_;refine Wr ?_;refine Wt ?_;try dsimp only[Q8,Q5]
 apply Z7.JW [400]
 ·rfl
 ·conv=>lhs;simp
 ·conv=>lhs;simp[Q7,Tryz.results20]
 rfl
end
section
open Classical Go.RowKit
theorem Cy{x:Tm}(h:x.tk=1)(f:x.Sh):x.Fs:=by
 obtain⟨k,n,a,b,vs,xs,cs⟩:=x;have g:k=1:=h;subst g;obtain rfl:xs=[]:=f.1 (.inl rfl);obtain rfl:cs=[]:=f.2.1 oM;exact⟨oM,oM,trivial,trivial⟩
theorem EM{s:LS}{e:Int}(h:s.Qg e=0):e=0:=by
 unfold LS.Qg at h;split at h
 ·rename_i f;simp at h
 ·exact h
theorem Xg7:∀(N:Nat) (t:Tm),t.sz<=N->t.Sh->∀s:LS,t.Y0 s=0->t.Fs:=by
 intro N;induction N with
 |zero=>intro t h;have:=t.P8;omega
 |succ N l=>
  intro t hN i s h;obtain⟨k,n,a,b,vs,xs,cs⟩:=t;rw[Tm.sz]at hN;have r:∀x∈xs,x.sz<=N:=λx f=>by have:=Tm.Z4 f;omega
  have g:∀x∈xs,x.Sh:=λx f=>QN.1 i.2.2.2.1 x f
  rcases XG h with rfl|rfl|o|rfl|rfl|rfl|o
  ·obtain rfl:xs=[]:=i.1 (.inl rfl);obtain rfl:cs=[]:=i.2.1 oM;exact⟨oM,oM,trivial,trivial⟩
  ·obtain rfl:xs=[]:=i.1 (.inr rfl);obtain rfl:cs=[]:=i.2.1 oM;exact⟨oM,oM,trivial,trivial⟩
  ·obtain rfl:cs=[]:=i.2.1 oM;rw[ZA o]at h;exact⟨oM,oM,Kh.2 λx f=>Cy (Oz (EM h) x f) (g x f),trivial⟩
  ·obtain rfl:cs=[]:=i.2.1 oM;obtain⟨-,h⟩:=Em h;exact⟨oM,oM,Kh.2 λx f=>Cy (Oz (EM h) x f) (g x f),trivial⟩
  ·obtain rfl:cs=[]:=i.2.1 oM;obtain⟨x,y,rfl,-,j,C⟩:=IA h;exact⟨λ_=>⟨x,y,rfl⟩,oM,⟨l x (r x (by simp)) (g x (by simp)) _ j,l y (r y (by simp)) (g y (by simp)) _ C,trivial⟩,trivial⟩
  ·obtain⟨x,rfl,j,-,C⟩:=Iu h;refine⟨oM,oM,⟨Cy j (g x (by simp)),trivial⟩,ZO.2 λc I=>?_⟩;have h3:=C c I;have hs:=Cs.Z4 I;have J:=P6.1 i.2.2.2.2 c I;obtain⟨t,ws,y⟩:=c;rw[Cs.sz]at hs;exact l y oM J _ (XR h3).2
  ·obtain rfl:cs=[]:=i.2.1 oM;obtain⟨x,rfl,j⟩:=Ei o h;refine⟨oM,λ_=>⟨x,rfl⟩,⟨?_,trivial⟩,trivial⟩;have f:=l x (r x (by simp)) (g x (by simp));obtain⟨e8,e9,P,T,U⟩:=j;rcases o with rfl|rfl|rfl|rfl|rfl
   ·exact f _ (e8 rfl).2
   ·exact f _ (e9 rfl).2
   ·exact f _ (T rfl).2
   ·exact f _ (U rfl).2.2.2
   ·exact f _ (P rfl).2
theorem Xk6{l:List Fn}(g:H5 l)(i:Jq l=0):∀f∈Gm l,f.body.Ok/\f.body.Fs:=λf j=>by
 have h:=Xd6 g i f j;refine⟨(Df g i f j).1,?_⟩;have o:=h.Y0;rw[Fn.Yf h.nd]at o;exact Xg7 _ _ (Nat.le_refl _) h.shp.sh _ o
end
end Go.Proofs.YtnddiddkmhiclaaGreatDoor
