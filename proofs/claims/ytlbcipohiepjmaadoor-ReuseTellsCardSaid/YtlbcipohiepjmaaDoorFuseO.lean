import Derived.Test.YtlbcipohiepjmaaDoorReuP
set_option maxRecDepth 20000
set_option maxHeartbeats 16000000
set_option linter.unusedVariables false
set_option linter.unusedSimpArgs false
namespace Go.Proofs.YtlbcipohiepjmaaDoor
open Classical Go.RowKit
section
variable (f:Tm→Int→Tm×Int)
def ruL:List Tm→Int→List Tm×Int
 |[],c=>([],c)
 |x::r,c=>((f x c).1::(ruL r (f x c).2).1,(ruL r (f x c).2).2)
def ruC:List Cs→Int→List Cs×Int
 |[],c=>([],c)
 | .mk t ws y::r,c=>(.mk t ws (f y c).1::(ruC r (f y c).2).1,(ruC r (f y c).2).2)
end
def Tm.ru:Nat→Tm→Int→Tm×Int
 |0,t,c=>(t,c)
 |N+1,.mk k n a b vs xs cs,c=>
  if k=10∧Tm.fitH vs.length xs=true then
   (.mk 11 0 a (kNm (wr (c+1))) vs (ruL (Tm.ru N) (Tm.Rk (kNm (wr (c+1))) vs.length xs) (wr (c+1))).1 [],(ruL (Tm.ru N) (Tm.Rk (kNm (wr (c+1))) vs.length xs) (wr (c+1))).2)
  else (.mk k n a b vs (ruL (Tm.ru N) xs c).1 (ruC (Tm.ru N) cs (ruL (Tm.ru N) xs c).2).1,(ruC (Tm.ru N) cs (ruL (Tm.ru N) xs c).2).2)
mutual
def Tm.dp:Tm→Nat
 | .mk k n a b vs xs cs=>(if k=10 then 2 else 1)+max (Tm.dpL xs) (Cs.dpL cs)
def Tm.dpL:List Tm→Nat
 |[]=>0
 |x::r=>max x.dp (Tm.dpL r)
def Cs.dpL:List Cs→Nat
 |[]=>0
 |c::r=>max c.dp (Cs.dpL r)
def Cs.dp:Cs→Nat
 | .mk t ws y=>y.dp
end
mutual
def Tm.nt:Tm→Nat
 | .mk k n a b vs xs cs=>(if k=10 then 1 else 0)+(Tm.ntL xs+Cs.ntL cs)
def Tm.ntL:List Tm→Nat
 |[]=>0
 |x::r=>x.nt+Tm.ntL r
def Cs.ntL:List Cs→Nat
 |[]=>0
 |c::r=>c.nt+Cs.ntL r
def Cs.nt:Cs→Nat
 | .mk t ws y=>y.nt
end
theorem dpL_mem {x:Tm}:∀{l:List Tm},x∈l→x.dp≤Tm.dpL l
 |y::r,h=>by
  rw[Tm.dpL];rcases List.mem_cons.1 h with rfl|h
  ·omega
  ·have:=dpL_mem h;omega
theorem cdpL_mem {x:Cs}:∀{l:List Cs},x∈l→x.dp≤Cs.dpL l
 |y::r,h=>by
  rw[Cs.dpL];rcases List.mem_cons.1 h with rfl|h
  ·omega
  ·have:=cdpL_mem h;omega
mutual
def Tm.Nx:Tm→Prop
 | .mk k n a b vs xs cs=>(k=1∨k=6∨k=8→∀d,a≠excl d)∧(k=10→∀v∈vs,∀d,v≠excl d)∧Tm.NxL xs∧Cs.NxL cs
def Tm.NxL:List Tm→Prop
 |[]=>True
 |x::r=>x.Nx∧Tm.NxL r
def Cs.NxL:List Cs→Prop
 |[]=>True
 |c::r=>c.Nx∧Cs.NxL r
def Cs.Nx:Cs→Prop
 | .mk t ws y=>(∀v∈ws,∀d,v≠excl d)∧y.Nx
end
theorem NxL_iff:∀{l:List Tm},Tm.NxL l↔∀x∈l,x.Nx
 |[]=>by simp[Tm.NxL]
 |x::r=>by simp[Tm.NxL,NxL_iff (l:=r)]
theorem M4:∀{l:List Cs},Cs.NxL l↔∀x∈l,x.Nx
 |[]=>by simp[Cs.NxL]
 |x::r=>by simp[Cs.NxL,M4 (l:=r)]
theorem excl_ne:∀d,ByteArray.empty≠excl d:=fun d e=>by
 have:=congrArg ByteArray.size e;unfold excl at this;rw[ByteArray.size_append]at this;have h1:(⟨#[33]⟩:ByteArray).size=1:=rfl;have h0:(ByteArray.empty).size=0:=rfl;omega
structure PutR (b:ByteArray) (t u:Tm):Prop where
 dp:u.dp≤t.dp+1
 nt:u.nt=t.nt
 nx:t.Nx→u.Nx
 nh:t.NH→u.NH
 sh:t.Sh→u.Sh
 sn:∀n,n∈u.stN↔n∈t.stN
 ow:∀n,n∈u.Y7↔n∈t.Y7
 st:∀d,d∈u.stT→d∈t.stT∨d=b
theorem put_r (b:ByteArray) (m:Nat):∀(N:Nat) (t:Tm),t.sz≤N→PutR b t (t.put b m):=by
 intro N;induction N with
 |zero=>intro t h;have:=t.Cj;omega
 |succ N ih=>
  intro t hN;obtain⟨k,n,a,b0,vs,xs,cs⟩:=t;rw[Tm.sz]at hN
  -- a list one of whose terms is put
  have hone:∀(x u:Tm) (r:List Tm),PutR b x u→Tm.dpL (u::r)≤Tm.dpL (x::r)+1∧Tm.ntL (u::r)=Tm.ntL (x::r)∧(Tm.NxL (x::r)→Tm.NxL (u::r))∧(Tm.NHL (x::r)→Tm.NHL (u::r))∧(Tm.ShL (x::r)→Tm.ShL (u::r))∧(∀n,n∈Tm.J9 (u::r)↔n∈Tm.J9 (x::r))∧(∀n,n∈Tm.Jk (u::r)↔n∈Tm.Jk (x::r))∧∀d,d∈Tm.K8 (u::r)→d∈Tm.K8 (x::r)∨d=b:=fun x u r h=>by
   refine⟨?_,?_,fun hh=>⟨h.nx hh.1,hh.2⟩,fun hh=>⟨h.nh hh.1,hh.2⟩,fun hh=>⟨h.sh hh.1,hh.2⟩,fun n=>?_,fun n=>?_,fun d hd=>?_⟩
   ·have:=h.dp;rw[Tm.dpL,Tm.dpL];omega
   ·rw[Tm.ntL,Tm.ntL,h.nt]
   ·rw[Tm.J9,Tm.J9,List.mem_append,List.mem_append,h.sn]
   ·rw[Tm.Jk,Tm.Jk,List.mem_append,List.mem_append,h.ow]
   ·rw[Tm.K8,List.mem_append]at hd⊢;rcases hd with hd|hd
    ·exact(h.st d hd).elim (fun h=>.inl (.inl h)) .inr
    ·exact .inl (.inr hd)
  rw[Tm.put];split
  ·refine⟨?_,?_,fun h=>⟨fun _=>excl_ne,fun _=>by simp,⟨h,trivial⟩,trivial⟩,fun h=>⟨by omega,⟨h,trivial⟩,trivial⟩,fun h=>⟨by omega,fun _=>rfl,by omega,⟨h,trivial⟩,trivial⟩,fun m=>?_,fun m=>?_,fun d hd=>?_⟩
   ·generalize Tm.mk k n a b0 vs xs cs=t;rw[Tm.dp,if_neg (by omega),Tm.dpL,Tm.dpL,Cs.dpL];omega
   ·generalize Tm.mk k n a b0 vs xs cs=t;rw[Tm.nt,if_neg (by omega),Tm.ntL,Tm.ntL,Cs.ntL];omega
   ·generalize Tm.mk k n a b0 vs xs cs=t;rw[Tm.stN,if_neg (by omega),Tm.J9,Tm.J9,Cs.J9];simp
   ·generalize Tm.mk k n a b0 vs xs cs=t;rw[Tm.Y7,if_neg (by omega),if_neg (by omega),Tm.Jk,Tm.Jk,Cs.Jk];simp
   ·generalize Tm.mk k n a b0 vs xs cs=t at hd⊢;rw[Tm.stT,if_pos (by omega),Tm.K8,Tm.K8,Cs.K8]at hd;simp at hd;exact hd.elim .inr .inl
  split
  ·rename_i h3;subst h3;refine⟨?_,?_,fun h=>⟨by omega,by omega,h.2.2⟩,fun h=>⟨by omega,h.2⟩,fun h=>⟨by omega,fun _=>h.2.1 (by omega),by omega,h.2.2.2⟩,fun m=>?_,fun m=>?_,fun d hd=>?_⟩
   ·rw[Tm.dp,Tm.dp,if_neg (by omega),if_neg (by omega)];omega
   ·rw[Tm.nt,Tm.nt];rfl
   ·rw[Tm.stN,Tm.stN];rfl
   ·rw[Tm.Y7,Tm.Y7];rfl
   ·rw[Tm.stT,if_pos (by omega)]at hd;rw[Tm.stT,if_neg (by omega)];simp only[List.mem_append,List.mem_singleton,List.nil_append]at hd⊢;rcases hd with hd|hd|hd
    ·exact .inr hd
    ·exact .inl (.inl hd)
    ·exact .inl (.inr hd)
  split
  ·rename_i h6;subst h6
   -- one of the terms is put
   have hL:∀l:List Tm,(∀x∈l,x.sz≤N)→Tm.dpL (Tm.Cv b m l)≤Tm.dpL l+1∧Tm.ntL (Tm.Cv b m l)=Tm.ntL l∧(Tm.NxL l→Tm.NxL (Tm.Cv b m l))∧(Tm.NHL l→Tm.NHL (Tm.Cv b m l))∧(Tm.ShL l→Tm.ShL (Tm.Cv b m l))∧(∀n,n∈Tm.J9 (Tm.Cv b m l)↔n∈Tm.J9 l)∧(∀n,n∈Tm.Jk (Tm.Cv b m l)↔n∈Tm.Jk l)∧∀d,d∈Tm.K8 (Tm.Cv b m l)→d∈Tm.K8 l∨d=b:=by
    intro l hl;cases l with
    |nil=>exact⟨by simp[Tm.Cv,Tm.dpL],rfl,fun _=>trivial,fun _=>trivial,fun _=>trivial,fun _=>Iff.rfl,fun _=>Iff.rfl,fun d h=>.inl h⟩
    |cons x r=>
     rw[Tm.Cv];split
     ·exact hone x _ r (ih x (hl x (by simp)))
     ·cases r with
      |nil=>exact⟨by rw[Tm.Rk];omega,rfl,id,id,id,fun _=>Iff.rfl,fun _=>Iff.rfl,fun d h=>.inl h⟩
      |cons y r=>
       rw[Tm.Rk];obtain⟨a1,a2,a3,a4,a5,a6,a7,a8⟩:=hone y _ r (ih y (hl y (by simp)));generalize Tm.put b m y::r=L2 at *;generalize y::r=L1 at *;refine⟨by rw[Tm.dpL,Tm.dpL];omega,by rw[Tm.ntL,Tm.ntL,a2],fun h=>⟨h.1,a3 h.2⟩,fun h=>⟨h.1,a4 h.2⟩,fun h=>⟨h.1,a5 h.2⟩,fun n=>?_,fun n=>?_,fun d hd=>?_⟩
       ·rw[Tm.J9,Tm.J9,List.mem_append,List.mem_append,a6]
       ·rw[Tm.Jk,Tm.Jk,List.mem_append,List.mem_append,a7]
       ·rw[Tm.K8,List.mem_append]at hd⊢;rcases hd with hd|hd
        ·exact .inl (.inl hd)
        ·exact(a8 d hd).elim (fun h=>.inl (.inr h)) .inr
   obtain⟨a1,a2,a3,a4,a5,a6,a7,a8⟩:=hL xs fun x hx=>by have:=Tm.Zj hx;omega
   refine⟨?_,?_,fun h=>⟨h.1,h.2.1,a3 h.2.2.1,h.2.2.2⟩,fun h=>⟨h.1,a4 h.2.1,h.2.2⟩,fun h=>⟨by omega,h.2.1,h.2.2.1,a5 h.2.2.2.1,h.2.2.2.2⟩,fun n=>?_,fun n=>?_,fun d hd=>?_⟩
   ·rw[Tm.dp,Tm.dp];omega
   ·rw[Tm.nt,Tm.nt,a2]
   ·rw[Tm.stN,Tm.stN];simp only[List.mem_append,a6]
   ·rw[Tm.Y7,Tm.Y7];simp only[List.mem_append,a7]
   ·rw[Tm.stT]at hd⊢;simp only[List.mem_append]at hd⊢;rcases hd with hd|hd|hd
    ·exact .inl (.inl hd)
    ·exact(a8 d hd).elim (fun h=>.inl (.inr (.inl h))) .inr
    ·exact .inl (.inr (.inr hd))
  split
  ·rename_i h7;subst h7;have hL:∀l:List Cs,(∀x∈l,x.sz≤N)→Cs.dpL (Cs.U1 b m l)≤Cs.dpL l+1∧Cs.ntL (Cs.U1 b m l)=Cs.ntL l∧(Cs.NxL l→Cs.NxL (Cs.U1 b m l))∧(Cs.NHL l→Cs.NHL (Cs.U1 b m l))∧(Cs.ShL l→Cs.ShL (Cs.U1 b m l))∧(∀n,n∈Cs.J9 (Cs.U1 b m l)↔n∈Cs.J9 l)∧(∀n,n∈Cs.Jk (Cs.U1 b m l)↔n∈Cs.Jk l)∧(∀d,d∈Cs.K8 (Cs.U1 b m l)→d∈Cs.K8 l∨d=b)∧(Cs.U1 b m l=[]→l=[]):=by
    intro l;induction l with
    |nil=>intro _;exact⟨by simp[Cs.U1,Cs.dpL],rfl,fun _=>trivial,fun _=>trivial,fun _=>trivial,fun _=>Iff.rfl,fun _=>Iff.rfl,fun d h=>.inl h,fun _=>rfl⟩
    |cons c r ih2=>
     intro hl;obtain⟨a1,a2,a3,a4,a5,a6,a7,a8,-⟩:=ih2 fun z hz=>hl z (by simp[hz])
     obtain⟨t,ws,y⟩:=c;have hy:=hl (Cs.mk t ws y) (by simp);rw[Cs.sz]at hy;have h:=ih y hy;have e:(Cs.mk t ws y).put b m= .mk t ws (y.put b m):=by rw[Cs.put]
     rw[Cs.U1,e];refine⟨?_,?_,fun hh=>⟨⟨hh.1.1,h.nx hh.1.2⟩,a3 hh.2⟩,fun hh=>⟨h.nh hh.1,a4 hh.2⟩,fun hh=>⟨h.sh hh.1,a5 hh.2⟩,fun n=>?_,fun n=>?_,fun d hd=>?_,by simp⟩
     ·have:=h.dp;rw[Cs.dpL,Cs.dpL,Cs.dp,Cs.dp];omega
     ·rw[Cs.ntL,Cs.ntL,Cs.nt,Cs.nt,h.nt,a2]
     ·rw[Cs.J9,Cs.J9,List.mem_append,List.mem_append,Cs.stN,Cs.stN,h.sn,a6]
     ·rw[Cs.Jk,Cs.Jk,List.mem_append,List.mem_append,Cs.Y7,Cs.Y7,List.mem_append,List.mem_append,h.ow,a7]
     ·rw[Cs.K8,List.mem_append,Cs.stT]at hd⊢;rcases hd with hd|hd
      ·exact(h.st d hd).elim (fun h=>.inl (.inl h)) .inr
      ·exact(a8 d hd).elim (fun h=>.inl (.inr h)) .inr
   obtain⟨a1,a2,a3,a4,a5,a6,a7,a8,a9⟩:=hL cs fun x hx=>by have:=Cs.Zj hx;omega
   refine⟨?_,?_,fun h=>⟨h.1,h.2.1,h.2.2.1,a3 h.2.2.2⟩,fun h=>⟨h.1,h.2.1,a4 h.2.2⟩,fun h=>⟨h.1,by omega,fun _ e=>h.2.2.1 rfl (a9 e),h.2.2.2.1,a5 h.2.2.2.2⟩,fun n=>?_,fun n=>?_,fun d hd=>?_⟩
   ·rw[Tm.dp,Tm.dp];omega
   ·rw[Tm.nt,Tm.nt,a2]
   ·rw[Tm.stN,Tm.stN];simp only[List.mem_append,a6]
   ·rw[Tm.Y7,Tm.Y7];simp only[List.mem_append,a7]
   ·rw[Tm.stT]at hd⊢;simp only[List.mem_append]at hd⊢;rcases hd with hd|hd|hd
    ·exact .inl (.inl hd)
    ·exact .inl (.inr (.inl hd))
    ·exact(a8 d hd).elim (fun h=>.inl (.inr (.inr h))) .inr
  ·rename_i hfit h3 h6 h7;cases xs with
   |nil=>rw[Tm.Rk];exact⟨by omega,rfl,id,id,id,fun _=>Iff.rfl,fun _=>Iff.rfl,fun d h=>.inl h⟩
   |cons x r=>
    have hx:x.sz≤N:=by simp only[Tm.szs]at hN;omega
    rw[Tm.Rk];obtain⟨a1,a2,a3,a4,a5,a6,a7,a8⟩:=hone x _ r (ih x hx);refine⟨?_,?_,fun h=>⟨h.1,h.2.1,a3 h.2.2.1,h.2.2.2⟩,fun h=>⟨h.1,a4 h.2.1,h.2.2⟩,fun h=>⟨fun hh=>by have:=h.1 hh;simp at this,h.2.1,h.2.2.1,a5 h.2.2.2.1,h.2.2.2.2⟩,fun n=>?_,fun n=>?_,fun d hd=>?_⟩
    ·rw[Tm.dp,Tm.dp];omega
    ·rw[Tm.nt,Tm.nt,a2]
    ·rw[Tm.stN,Tm.stN];simp only[List.mem_append,a6]
    ·rw[Tm.Y7,Tm.Y7];simp only[List.mem_append,a7]
    ·rw[Tm.stT]at hd⊢;simp only[List.mem_append]at hd⊢;rcases hd with hd|hd|hd
     ·exact .inl (.inl hd)
     ·exact(a8 d hd).elim (fun h=>.inl (.inr (.inl h))) .inr
     ·exact .inl (.inr (.inr hd))
end Go.Proofs.YtlbcipohiepjmaaDoor
namespace Go.Proofs.YtlbcipohiepjmaaDoor
open Classical Go.RowKit
structure RuR (c:Int) (S O T:List ByteArray) (nt:Nat) (S' O' T':List ByteArray) (c':Int):Prop where
 lo:c≤c'
 hi:c'≤c+nt
 sn:∀n,n∈S'↔n∈S
 ow:∀n,n∈O'↔n∈O∨∃i,c<i∧i≤c'∧n=excl (kNm i)
 st:∀d,d∈T'→d∈T∨∃i,c<i∧i≤c'∧d=kNm i
 sb:∀d,d∈T→d∈T'
def NoX (n:ByteArray):Prop:=∀d,n≠excl d
theorem nameB_noX {n:ByteArray} (h:Rw n=true):NoX n:=fun d e=>by
 have h0:n[0]? =some 33:=by
  rw[e];unfold excl;have hz:0<(⟨#[33]⟩++d:ByteArray).size:=by
   rw[ByteArray.size_append];have:(⟨#[33]⟩:ByteArray).size=1:=rfl;omega
  rw[getElem?_pos _ 0 hz];congr 1
 unfold Rw at h;simp only[Bool.and_eq_true,List.all_eq_true,decide_eq_true_eq]at h;have h4:=h.1 0 (List.mem_range.2 (by omega));rw[h0]at h4;exact absurd h4 (by decide)
structure Shp (t:Tm):Prop where
 sh:t.Sh
 s1:t.S1
 nh:t.NH
 nx:t.Nx
theorem Ov {k:Int} (hk:k=8∨k=9):∀(l:List ByteArray) {t:Tm},(∀n∈l,NoX n)→Shp t→Shp (cnt k l t)
 |[],_,_,h=>h
 |a::r,t,hl,h=>by
  have g:=Ov hk r (fun n hn=>hl n (by simp[hn])) h;exact⟨⟨by omega,fun _=>rfl,by omega,⟨g.sh,trivial⟩,trivial⟩,⟨fun _=>⟨⟨_,rfl⟩,rfl⟩,⟨g.s1,trivial⟩,trivial⟩,⟨by omega,⟨g.nh,trivial⟩,trivial⟩,⟨fun _=>hl a (by simp),by omega,⟨g.nx,trivial⟩,trivial⟩⟩
theorem badB_no {ws:List ByteArray} (h:badB ws=false):∀w∈ws,Rw w=true:=fun w hw=>by
 unfold badB at h;rw[List.any_eq_false]at h;have:=h w hw;simpa using this
theorem wrong_shp (f:J6):∀(N:Nat) (t:Tm) (names:List ByteArray) (deep:Int),t.sz<N→t.wrong f names deep=0→(∀n∈names,NoX n)→Shp t∧t.stT=[]:=by
 intro N;induction N with
 |zero=>intro t _ _ h;omega
 |succ N ih=>
  intro t names deep hN h hn;obtain⟨k,m,a,b,vs,xs,cs⟩:=t;obtain⟨h1,h2,h3,h4,h5,h6,h7⟩:=R3 h;rw[Tm.sz]at hN;have ha:k=1∨k=6→NoX a:=fun hk=>by
   unfold Xw at h5;rcases hk with rfl|rfl
   ·rw[if_pos rfl]at h5;split at h5
    ·rename_i hh;exact hn a (X4.1 hh)
    ·cases h5
   ·rw[if_neg (by omega),if_neg (by omega),if_neg (by omega),if_neg (by omega),if_pos rfl]at h5;split at h5
    ·rename_i hh;exact nameB_noX hh
    ·cases h5
  have hx:∀x∈xs,Shp x∧x.stT=[]:=fun x hx=>by
   obtain⟨j,hj⟩:=List.mem_iff_getElem?.1 hx;have hs:x.sz≤Tm.szs xs:=Tm.Zj hx;refine ih x _ (deep+1) (by omega) (Fw h6 j x hj) fun n hm=>?_
   split at hm
   ·rename_i hc;rcases List.mem_append.1 hm with hm|hm
    ·exact hn n hm
    ·simp only[List.mem_singleton]at hm;subst hm;exact ha (.inr hc.1)
   ·exact hn n hm
  have hc7:k≠7→cs=[]:=fun hk=>by
   unfold Zv at h4;simp[hk]at h4;exact h4.2
  have hxs:Tm.ShL xs∧Tm.S1L xs∧Tm.NHL xs∧Tm.NxL xs∧Tm.K8 xs=[]:=by
   refine⟨Qb.2 fun x h=>(hx x h).1.sh,Qd.2 fun x h=>(hx x h).1.s1,NHL_iff.2 fun x h=>(hx x h).1.nh,NxL_iff.2 fun x h=>(hx x h).1.nx,?_⟩;exact List.eq_nil_iff_forall_not_mem.2 fun d hd=>by
    obtain⟨x,h1,h2⟩:=stTL_mem.1 hd;rw[(hx x h1).2]at h2;cases h2
  have hcs:Cs.ShL cs∧Cs.S1L cs∧Cs.NHL cs∧Cs.NxL cs∧Cs.K8 cs=[]:=by
   by_cases hk:k=7
   ·have key:∀t ws y,Cs.mk t ws y∈cs→(Shp y∧y.stT=[])∧∀w∈ws,NoX w:=fun t ws y hm=>by
     obtain⟨-,-,-,q4,-,q6⟩:=Dq (h7 hk).2.2 hm;have hw:∀w∈ws,NoX w:=fun w hw=>nameB_noX (badB_no q4 w hw)
     have hs:(Cs.mk t ws y).sz≤Cs.szs cs:=Cs.Zj hm;rw[Cs.sz]at hs;exact⟨ih y _ (deep+1) (by omega) q6 fun n hm=>(List.mem_append.1 hm).elim (hn n) (hw n),hw⟩
    refine⟨M3.2 fun c h=>?_,Dj.2 fun c h=>?_,I5.2 fun c h=>?_,M4.2 fun c h=>?_,?_⟩
    ·obtain⟨t,ws,y⟩:=c;exact(key t ws y h).1.1.sh
    ·obtain⟨t,ws,y⟩:=c;exact(key t ws y h).1.1.s1
    ·obtain⟨t,ws,y⟩:=c;exact(key t ws y h).1.1.nh
    ·obtain⟨t,ws,y⟩:=c;exact⟨(key t ws y h).2,(key t ws y h).1.1.nx⟩
    ·exact List.eq_nil_iff_forall_not_mem.2 fun d hd=>by
      obtain⟨c,h1,h2⟩:=cstTL_mem.1 hd;obtain⟨t,ws,y⟩:=c;rw[Cs.stT,(key t ws y h1).1.2]at h2;cases h2
   ·rw[hc7 hk];exact⟨trivial,trivial,trivial,trivial,rfl⟩
  refine⟨⟨⟨fun hk=>?_,hc7,fun hk e=>(h7 hk).1 (by rw[e];rfl),hxs.1,hcs.1⟩,⟨by omega,hxs.2.1,hcs.2.1⟩,⟨by omega,hxs.2.2.1,hcs.2.2.1⟩,⟨fun hk=>ha (by omega),by omega,hxs.2.2.2.1,hcs.2.2.2.1⟩⟩,?_⟩
  ·unfold Zv at h4;rcases hk with rfl|rfl<;> simp at h4<;> exact h4.1
  ·rw[Tm.stT,if_neg (by omega),hxs.2.2.2.2,hcs.2.2.2.2];rfl
theorem shp_var {x:Tm} (h:Shp x) (h1:x.tk=1):NoX x.nm:=by
 obtain⟨k,n,a,b,vs,xs,cs⟩:=x;exact h.nx.1 (.inl h1)
theorem ow_shp:∀(d:Nat) (t:Tm) (has:List ByteArray),t.Rt d→t.isP=true→Shp t→(∀n∈has,NoX n)→Shp (t.ow has):=by
 intro d;induction d with
 |zero=>intro t _ h;exact h.elim
 |succ d ih=>
  intro t has hR hP hS hh;obtain⟨k,n0,a,b,vs,xs,cs⟩:=t;have hR':=hR;obtain⟨hk,-,-,hx,hc⟩:=hR;rw[Tm.isP,Bool.and_eq_true]at hP;obtain⟨hP1,hP2⟩:=hP;have hxS:∀x∈xs,Shp x:=fun x hm=>⟨Qb.1 hS.sh.2.2.2.1 x hm,Qd.1 hS.s1.2.1 x hm,NHL_iff.1 hS.nh.2.1 x hm,NxL_iff.1 hS.nx.2.2.1 x hm⟩
  have hcS:∀t ws y,Cs.mk t ws y∈cs→Shp y∧∀w∈ws,NoX w:=fun t ws y hm=>⟨⟨M3.1 hS.sh.2.2.2.2 _ hm,Dj.1 hS.s1.2.2 _ hm,I5.1 hS.nh.2.2 _ hm,(M4.1 hS.nx.2.2.2 _ hm).2⟩,(M4.1 hS.nx.2.2.2 _ hm).1⟩
  rw[Tm.ow];generalize hF:(Tm.mk k n0 a b vs xs cs).free=F;have hO:∀n∈inN has F,NoX n:=fun n hn=>hh n (K3.1 hn).1
  refine Ov (.inr rfl) _ (fun n hn=>hh n (X5.1 hn).1) ?_;split
  ·rename_i h3;have hvar:=isL_var (by omega) hP1;refine Ov (.inl rfl) _ (fun n hn=>?_) hS;obtain⟨x,hx1,rfl⟩:=Tw xs [] n hn;exact shp_var (hxS x hx1) (hvar x hx1)
  split
  ·rename_i h6;subst h6;obtain⟨x,y,rfl,rfl,hxR,hyR⟩:=rt_two hR';have hPx:=Oq hP1 x (by simp);have hPy:=Oq hP1 y (by simp);generalize inN has F=O at hO;rw[letD,letH,Tm.owZ,Tm.owZ,Tm.owZ];simp only[List.headD_cons,List.tail_cons];have ha:NoX a:=hS.nx.1 (by omega);have gx:=ih x (inN O x.free) hxR hPx (hxS x (by simp)) fun n hn=>hO n (K3.1 hn).1
   have gy:=ih y (inN O (woN y.free [a])++[a]) hyR hPy (hxS y (by simp)) fun n hn=>by
    rcases List.mem_append.1 hn with hn|hn
    ·exact hO n (K3.1 hn).1
    ·simp only[List.mem_singleton]at hn;subst hn;exact ha
   refine Ov (.inl rfl) _ (fun n hn=>hO n (K3.1 (K3.1 hn).1).1) ?_;exact⟨⟨by omega,fun _=>rfl,by omega,⟨gx.sh,gy.sh,trivial⟩,trivial⟩,⟨by omega,⟨gx.s1,gy.s1,trivial⟩,trivial⟩,⟨by omega,⟨gx.nh,gy.nh,trivial⟩,trivial⟩,⟨fun _=>ha,by omega,⟨gx.nx,gy.nx,trivial⟩,trivial⟩⟩
  split
  ·rename_i h7;subst h7;have hvar:=isL_var (by omega) hP1;obtain⟨x0,rfl,hx0⟩:=rt_one hR';have hnm:nmH [x0]=x0.nm:=rfl;have h0:=hxS x0 (by simp);have h0n:=shp_var h0 (hvar x0 (by simp));generalize inN has F=O at hO;rw[owL_eq,hnm];have key:∀c∈cs,∃t ws y',c.ow O x0.nm= .mk t ws y'∧Shp y'∧∀w∈ws,NoX w:=fun c hm=>by
    obtain⟨t,ws,y⟩:=c;obtain⟨hyS,hw⟩:=hcS t ws y hm;refine⟨t,ws,_,by rw[Cs.ow],?_,hw⟩;refine Ov (.inl rfl) _ (fun n hn=>hw n (K3.1 hn).1) (Ov (.inr rfl) _ (fun n hn=>?_) (ih y _ (hc _ hm).2 (cisL_all hP2 t ws y hm) hyS fun n hn=>?_))
    ·split at hn
     ·cases hn
     ·simp only[List.mem_singleton]at hn;subst hn;exact h0n
    ·have:n∈O++inN ws y.free:=by
      split at hn
      ·exact hn
      ·exact(X5.1 hn).1
     rcases List.mem_append.1 this with h|h
     ·exact hO n h
     ·exact hw n (K3.1 h).1
   have hne:cs≠[]:=hS.sh.2.2.1 rfl;refine⟨⟨by omega,by omega,fun _ e=>hne (by simpa using e),⟨h0.sh,trivial⟩,M3.2 fun c h=>?_⟩,⟨by omega,⟨h0.s1,trivial⟩,Dj.2 fun c h=>?_⟩,⟨by omega,⟨h0.nh,trivial⟩,I5.2 fun c h=>?_⟩,⟨by omega,by omega,⟨h0.nx,trivial⟩,M4.2 fun c h=>?_⟩⟩;all_goals
    obtain⟨c0,hc0,rfl⟩:=List.mem_map.1 h;obtain⟨t,ws,y',e,hy,hw⟩:=key c0 hc0;rw[e]
   ·exact hy.sh
   ·exact hy.s1
   ·exact hy.nh
   ·exact⟨hw,hy.nx⟩
  ·exact hS
theorem sr_shp:∀(N:Nat) (t:Tm) (rest:List ByteArray),t.sz≤N→Shp t→Shp (t.sr rest).2∧∀n∈(t.sr rest).1,n∈rest:=by
 intro N;induction N with
 |zero=>intro t _ h;have:=t.Cj;omega
 |succ N ih=>
  intro t rest hN hS;obtain⟨k,n,a,b,vs,xs,cs⟩:=t;rw[Tm.sr];by_cases hc:k=8∧hasB rest a=true
  ·rw[if_pos hc];obtain⟨⟨x,rfl⟩,rfl⟩:=hS.s1.1 (.inl hc.1);rw[Tm.srL];have hxN:x.sz≤N:=by
    rw[Tm.sz]at hN;simp only[Tm.szs]at hN;omega
   obtain⟨h1,h2⟩:=ih x (woN rest [a]) hxN ⟨hS.sh.2.2.2.1.1,hS.s1.2.1.1,hS.nh.2.1.1,hS.nx.2.2.1.1⟩;exact⟨h1,fun n hn=>(X5.1 (h2 n hn)).1⟩
  ·rw[if_neg hc];exact⟨hS,fun n h=>h⟩
theorem fuOne_shp {k:Int} {na:Nat} {nm:ByteArray} {ws:List ByteArray} {y:Tm} (hS:Shp y) (hw:∀w∈ws,NoX w):Shp (Wv k na nm ws y):=by
 unfold Wv;split
 ·rename_i hcond;obtain⟨-,-,-,h9,hnm⟩:=hcond;obtain⟨h1,h2⟩:=sr_shp y.sz y ws (Nat.le_refl _) hS;generalize y.sr ws=Z at *;obtain⟨rest,z⟩:=Z;dsimp only at *;obtain⟨k,n,a,b,vs,xs,cs⟩:=z;rw[Tm.tk]at h9;subst h9;obtain⟨⟨x,rfl⟩,rfl⟩:=h1.s1.1 (.inr (.inl rfl));have ha0:(Tm.mk 9 n a b vs [x] []).a0=x:=rfl;rw[ha0];have g:=Ov (k:=9) (.inr rfl) rest (t:=x) (fun n hn=>hw n (h2 n hn)) ⟨h1.sh.2.2.2.1.1,h1.s1.2.1.1,h1.nh.2.1.1,h1.nx.2.2.1.1⟩;exact⟨⟨by omega,fun _=>rfl,by omega,⟨g.sh,trivial⟩,trivial⟩,⟨fun _=>⟨⟨_,rfl⟩,rfl⟩,⟨g.s1,trivial⟩,trivial⟩,⟨by omega,⟨g.nh,trivial⟩,trivial⟩,⟨by omega,fun _=>hw,⟨g.nx,trivial⟩,trivial⟩⟩
 ·exact hS
theorem fu_shp:∀(N:Nat) (t:Tm),t.sz≤N→Shp t→Shp t.fu:=by
 intro N;induction N with
 |zero=>intro t h;have:=t.Cj;omega
 |succ N ih=>
  intro t hN hS;obtain⟨k,n,a,b,vs,xs,cs⟩:=t;rw[Tm.sz]at hN;have hx:∀x∈xs,Shp x.fu:=fun x hm=>ih x (by have:=Tm.Zj hm;omega) ⟨Qb.1 hS.sh.2.2.2.1 x hm,Qd.1 hS.s1.2.1 x hm,NHL_iff.1 hS.nh.2.1 x hm,NxL_iff.1 hS.nx.2.2.1 x hm⟩
  have hc:∀c∈cs,∃t ws y',c.fu k xs.length (nmH xs)= .mk t ws y'∧Shp y'∧∀w∈ws,NoX w:=fun c hm=>by
   obtain⟨t,ws,y⟩:=c;have hw:=(M4.1 hS.nx.2.2.2 _ hm).1;have hs:(Cs.mk t ws y).sz≤Cs.szs cs:=Cs.Zj hm;rw[Cs.sz]at hs;exact⟨t,ws,_,by rw[Cs.fu],fuOne_shp (ih y (by omega) ⟨M3.1 hS.sh.2.2.2.2 _ hm,Dj.1 hS.s1.2.2 _ hm,I5.1 hS.nh.2.2 _ hm,(M4.1 hS.nx.2.2.2 _ hm).2⟩) hw,hw⟩
  rw[Tm.fu,Tm.Bq,Cs.Bq];have hxm:∀u∈xs.map Tm.fu,Shp u:=fun u hu=>by obtain⟨x,hx1,rfl⟩:=List.mem_map.1 hu;exact hx x hx1
  refine⟨⟨fun h=>by rw[hS.sh.1 h];rfl,fun h=>by rw[hS.sh.2.1 h];rfl,fun h e=>hS.sh.2.2.1 h (by simpa using e),Qb.2 fun u hu=>(hxm u hu).sh,M3.2 fun c h=>?_⟩,⟨fun h=>?_,Qd.2 fun u hu=>(hxm u hu).s1,Dj.2 fun c h=>?_⟩,⟨hS.nh.1,NHL_iff.2 fun u hu=>(hxm u hu).nh,I5.2 fun c h=>?_⟩,⟨hS.nx.1,hS.nx.2.1,NxL_iff.2 fun u hu=>(hxm u hu).nx,M4.2 fun c h=>?_⟩⟩
  ·obtain⟨c0,hc0,rfl⟩:=List.mem_map.1 h;obtain⟨t,ws,y',e,hy,hw⟩:=hc c0 hc0;rw[e];exact hy.sh
  ·obtain⟨⟨x,rfl⟩,rfl⟩:=hS.s1.1 h;exact⟨⟨_,rfl⟩,rfl⟩
  ·obtain⟨c0,hc0,rfl⟩:=List.mem_map.1 h;obtain⟨t,ws,y',e,hy,hw⟩:=hc c0 hc0;rw[e];exact hy.s1
  ·obtain⟨c0,hc0,rfl⟩:=List.mem_map.1 h;obtain⟨t,ws,y',e,hy,hw⟩:=hc c0 hc0;rw[e];exact hy.nh
  ·obtain⟨c0,hc0,rfl⟩:=List.mem_map.1 h;obtain⟨t,ws,y',e,hy,hw⟩:=hc c0 hc0;rw[e];exact⟨hw,hy.nx⟩
end Go.Proofs.YtlbcipohiepjmaaDoor
namespace Go.Proofs.YtlbcipohiepjmaaDoor
open Go.RowKit
attribute [local simp] runD mkRc ldOf stOf stOk Mj Tv Rz Kv Kw Yq Y8 Xz Y4 Bj evA Vj F4 Value.oneCell' Z9 Q5 Qw frOf Uv Qj AS.after Z4 V4 Y3 AV.ids M7 Q6.ids frNo Mx Gj Uw Hq Jv Y5 Vx U3 U2 K4 toD1 Ez setAt U9 O0 F5 Av H6 Aw binI AV.cells J4 Jj H5 Wj AV.kill Q6.kill AV.has AV.Yj Op.operands Call.operands Nk Mv Z8 cChk Z0 X3 Ev moQ M9 R7 Yz AV.ren Ej Q6.ren Q6.like kept K5 Sq AV.frz Px Ox frSub M5 D9 AS.frz C8 G7 Q6.frz Fx bleF Nat.ble_eq Gw G6 Y1 D.Y2 Tj G5 V8 Vk phO Az F6 D7 K6 V5 Low Ew
theorem fuOne_yes2 {k:Int} {na:Nat} {nm:ByteArray} {dws rest:List ByteArray} {y z:Tm} (hsr:y.sr dws=(rest,z)) (h1:dws.length≠0) (ha:na=1) (hk:k=7) (h2:z.tk=9) (h3:z.nm=nm):Wv k na nm dws y= .mk 10 0 nm .empty dws [cnt 9 rest z.a0] []:=by
 unfold Wv;rw[hsr];exact if_pos ⟨h1,ha,hk,h2,h3⟩
theorem U8 {k:Int} {na:Nat} {nm:ByteArray} {dws rest:List ByteArray} {y z:Tm} (hsr:y.sr dws=(rest,z)) (h:dws.length≠0→na=1→k=7→z.tk=9→z.nm=nm→False):Wv k na nm dws y=y:=by
 unfold Wv;rw[hsr];exact if_neg fun⟨h1,ha,hk,h2,h3⟩=>h h1 ha hk h2 h3
def FdN (N:Nat):Prop:=∀t:Tm,t.sz≤N→t.Ok→t.Du→Qv Tryd.prog 34 [Xj t] (fun _=>Xj t.fu) none
theorem fd_step (N:Nat) (ih:FdN N):FdN (N+1):=by
 intro t hsz hO hD;obtain⟨R,hR⟩:∃R,R=t.fu:=⟨_,rfl⟩
 rw[←hR];obtain⟨rk,rn,ra,rb,rvs,rxs,rcs⟩:=R;obtain⟨tk,tn,ta,tb,tvs,txs,tcs⟩:=t;rw[Tm.fu,Tm.Bq,Cs.Bq]at hR;obtain⟨nm0,hn0⟩:∃x,x=nmH txs:=⟨_,rfl⟩
 rw[←hn0]at hR;have hxO:∀x∈txs,x.Ok:=fun x hx=>Tm.Zk.1 hO.2.2.1 x hx
 have hcO:∀x∈tcs,x.Ok:=fun x hx=>Cs.Zk.1 hO.2.2.2 x hx
 have hxD:∀x∈txs,x.Du:=fun x hx=>Tm.Qe.1 hD.2.1 x hx
 have hcD:∀x∈tcs,x.Du:=fun x hx=>Cs.Qe.1 hD.2.2 x hx
 obtain⟨o1,o2,o3,o4,o5⟩:=hO.vars;simp only[Tm.sz]at hsz;refine Qv.of Tryd.func34 rfl rfl rfl (Nat.le_of_ble_eq_true rfl) ?_;show AWp _ _ (Z5 _ Tryd.f34 _ _ _) (Qw 115 _);refine AWp.rg [] [] ?_ (hr:=by conv=>lhs;simp[Tm.row,Tm.Q3,Cs.Q3]);refine AWp.rg [] [] ?_ (hr:=by conv=>lhs;simp[Tm.row,Tm.Q3,Cs.Q3]);refine AWp.rg [] [] ?_ (hr:=by conv=>lhs;simp[Tm.row,Tm.Q3,Cs.Q3]);refine AWp.rg [] [] ?_ (hr:=by conv=>lhs;simp[Tm.row,Tm.Q3,Cs.Q3]);repeat (first|refine AWp.seq ?_|refine AWp.block ?_)
 refine AWp.le (Le.low [400] [] (fr:=[(1,.ptr 1 0),(2,.ptr 2 0),(3,.ptr 3 0),(15,.d (.sl (txs.map Tm.row))),(16,.d (.int (txs.length:Int))),(17,.d (.int (0:Int)))]) (mem:=[(1,some (.blk 32 [.d (.int tk),.d (.int tn),.d (.str ta),.d (.str tb),.d (Q7 tvs),.d (.sl (txs.map Tm.row)),.d (.sl (tcs.map Cs.row))])),(2,some (.blk 32 [.d (.int 0),.d (.int 0),.d (.str ByteArray.empty),.d (.str ByteArray.empty),.lit (.slice none 0 0),.lit (.slice none 0 0),.lit (.slice none 0 0)])),(3,some (.blk 32 [.d (.int tk),.d (.int tn),.d (.str ta),.d (.str tb),.d (Q7 tvs),.arr 400 0 ([]:List Tm).length,.lit (.slice none 0 0)])),(400,some (.arr 32 7 (([]:List Tm).map Tm.row)))]) rfl (by simp) (by simp)) ?_;refine AWp.loop (σ:=fun u:{u:Nat×List Tm // u.1≤txs.length∧u.2=(txs.take u.1).map Tm.fu}=>⟨115,[(1,.ptr 1 0),(2,.ptr 2 0),(3,.ptr 3 0),(15,.d (.sl (txs.map Tm.row))),(16,.d (.int (txs.length:Int))),(17,.d (.int (u.1.1:Int)))],[(1,some (.blk 32 [.d (.int tk),.d (.int tn),.d (.str ta),.d (.str tb),.d (Q7 tvs),.d (.sl (txs.map Tm.row)),.d (.sl (tcs.map Cs.row))])),(2,some (.blk 32 [.d (.int 0),.d (.int 0),.d (.str ByteArray.empty),.d (.str ByteArray.empty),.lit (.slice none 0 0),.lit (.slice none 0 0),.lit (.slice none 0 0)])),(3,some (.blk 32 [.d (.int tk),.d (.int tn),.d (.str ta),.d (.str tb),.d (Q7 tvs),.arr 400 0 u.1.2.length,.lit (.slice none 0 0)])),(400,some (.arr 32 7 (u.1.2.map Tm.row)))]⟩)
  (μ:=fun u=>txs.length-u.1.1) ⟨(0,[]),⟨Nat.zero_le _,by simp⟩⟩ (Le.sub (by simp) (by simp)) (fun⟨(i,ys),⟨hi4,hw⟩⟩=>?_)
 dsimp only at hi4 hw⊢;refine AWp.rg [] [] ?_ (hr:=by conv=>lhs;simp[Tm.row,Tm.Q3,Cs.Q3]);repeat (first|refine AWp.seq ?_|refine AWp.block ?_)
 refine AWp.cond rfl (fun hc=>?_) (fun hc=>?_)
 ·have hi1:i<txs.length:=by have:=of_decide_eq_true hc;omega
  clear hc;have h1y:txs[i]? =some txs[i]:=List.getElem?_eq_getElem hi1;have hmy:txs[i]∈txs:=List.getElem_mem hi1;have hdy:txs.drop i=txs[i]::txs.drop (i+1):=List.drop_eq_getElem_cons hi1;generalize txs[i]=y at h1y hmy hdy;have hyl:ys.length=i:=by rw[hw,List.length_map,List.length_take];omega
  have hx:=ih y (by have:=Tm.Zj hmy;omega) (hxO y hmy) (hxD y hmy);have hsn:(txs.take (i+1)).map Tm.fu=ys++[y.fu]:=by rw[List.take_add_one,h1y,List.map_append,←hw];rfl
  generalize y.fu=z at hx hsn;obtain⟨yk,yn,ya,yb,yvs,yxs,ycs⟩:=y;obtain⟨zk,zn,za,zb,zvs,zxs,zcs⟩:=z;refine AWp.skip ?_;refine AWp.rg [] [] ?_ (hr:=by conv=>lhs;simp[Tm.row,Tm.Q3,Cs.Q3,h1y]);refine AWp.dw [] [.p (fun _=>.agg [.d (.int zk),.d (.int zn),.d (.str za),.d (.str zb),.d (Q7 zvs),.d (.sl (zxs.map Tm.row)),.d (.sl (zcs.map Cs.row))]) none] mixed ?_ (hr:=by conv=>lhs;simp[Tm.row,Tm.Q3,Cs.Q3,h1y]);refine AWp.rg [] [] ?_ (hr:=by conv=>lhs;simp[Tm.row,Tm.Q3,Cs.Q3,h1y]);refine⟨⟨(i+1,ys++[.mk zk zn za zb zvs zxs zcs]),hi1,hsn.symm⟩,by simp;omega,?_⟩;dsimp only;exact Le.sub (by simp[Tm.row,Tm.Q3,Cs.Q3,hyl]) (by simp[Tm.row,Tm.Q3,Cs.Q3,hyl])
 have hi1:i=txs.length:=by have:=of_decide_eq_false hc;omega
 subst hi1;clear hc;rw[List.take_length]at hw;have hyl:ys.length=txs.length:=by rw[hw,List.length_map]
 rw[←hw]at hR;clear hw;refine AWp.exit ?_;refine AWp.rg [] [] ?_ (hr:=by conv=>lhs;simp[Tm.row,Tm.Q3,Cs.Q3]);repeat (first|refine AWp.seq ?_|refine AWp.block ?_)
 refine AWp.le (Le.low [401] [] (fr:=[(1,.ptr 1 0),(2,.ptr 2 0),(3,.ptr 3 0),(30,.d (.sl (tcs.map Cs.row))),(31,.d (.int (tcs.length:Int))),(32,.d (.int (0:Int)))]) (mem:=[(1,some (.blk 32 [.d (.int tk),.d (.int tn),.d (.str ta),.d (.str tb),.d (Q7 tvs),.d (.sl (txs.map Tm.row)),.d (.sl (tcs.map Cs.row))])),(2,some (.blk 32 [.d (.int 0),.d (.int 0),.d (.str ByteArray.empty),.d (.str ByteArray.empty),.lit (.slice none 0 0),.lit (.slice none 0 0),.lit (.slice none 0 0)])),(3,some (.blk 32 [.d (.int tk),.d (.int tn),.d (.str ta),.d (.str tb),.d (Q7 tvs),.arr 400 0 ys.length,.arr 401 0 ([]:List Cs).length])),(400,some (.arr 32 7 (ys.map Tm.row))),(401,some (.arr 42 9 (([]:List Cs).map Cs.row)))]) rfl (by simp) (by simp)) ?_;refine AWp.loop (σ:=fun u:{u:Nat×List Cs // u.1≤tcs.length∧u.2=(tcs.take u.1).map (Cs.fu tk txs.length nm0)}=>⟨115,[(1,.ptr 1 0),(2,.ptr 2 0),(3,.ptr 3 0),(30,.d (.sl (tcs.map Cs.row))),(31,.d (.int (tcs.length:Int))),(32,.d (.int (u.1.1:Int)))],[(1,some (.blk 32 [.d (.int tk),.d (.int tn),.d (.str ta),.d (.str tb),.d (Q7 tvs),.d (.sl (txs.map Tm.row)),.d (.sl (tcs.map Cs.row))])),(2,some (.blk 32 [.d (.int 0),.d (.int 0),.d (.str ByteArray.empty),.d (.str ByteArray.empty),.lit (.slice none 0 0),.lit (.slice none 0 0),.lit (.slice none 0 0)])),(3,some (.blk 32 [.d (.int tk),.d (.int tn),.d (.str ta),.d (.str tb),.d (Q7 tvs),.arr 400 0 ys.length,.arr 401 0 u.1.2.length])),(400,some (.arr 32 7 (ys.map Tm.row))),(401,some (.arr 42 9 (u.1.2.map Cs.row)))]⟩)
  (μ:=fun u=>tcs.length-u.1.1) ⟨(0,[]),⟨Nat.zero_le _,by simp⟩⟩ (Le.sub (by simp) (by simp)) (fun⟨(i,ds),⟨hi9,hw2⟩⟩=>?_)
 dsimp only at hi9 hw2⊢;refine AWp.rg [] [] ?_ (hr:=by conv=>lhs;simp[Tm.row,Tm.Q3,Cs.Q3]);repeat (first|refine AWp.seq ?_|refine AWp.block ?_)
 refine AWp.cond rfl (fun hc=>?_) (fun hc=>?_)
 ·have hi1:i<tcs.length:=by have:=of_decide_eq_true hc;omega
  clear hc;have h1d:tcs[i]? =some tcs[i]:=List.getElem?_eq_getElem hi1;have hmd:tcs[i]∈tcs:=List.getElem_mem hi1;have hdd:tcs.drop i=tcs[i]::tcs.drop (i+1):=List.drop_eq_getElem_cons hi1;generalize tcs[i]=d at h1d hmd hdd;have hdl:ds.length=i:=by rw[hw2,List.length_map,List.length_take];omega
  have hdO:=hcO d hmd;have hdD:=hcD d hmd;have hsz2:=Cs.Zj hmd;have hsn:(tcs.take (i+1)).map (Cs.fu tk txs.length nm0)=ds++[d.fu tk txs.length nm0]:=by rw[List.take_add_one,h1d,List.map_append,←hw2];rfl
  obtain⟨dt,dws,y⟩:=d;have hx:=ih y (by simp only[Cs.sz]at hsz2;omega) hdO.2.2 hdD.2;obtain⟨heO,heD⟩:=Tm.fu_ok y hdO.2.2 hdD.2;have hdl6:dws.length≤6:=hdD.1;have hwz:∀s∈dws,s.size≤140737488355328:=hdO.1;rw[Cs.fu]at hsn;generalize y.fu=e at hx heO heD hsn;obtain⟨yk,yn,ya,yb,yvs,yxs,ycs⟩:=y;obtain⟨ek,en,ea,eb,evs,exs,ecs⟩:=e;obtain⟨u,hu⟩:∃u,Wv tk txs.length nm0 dws (.mk ek en ea eb evs exs ecs)=u:=⟨_,rfl⟩
  rw[hu]at hsn;obtain⟨uk,un,ua,ub,uvs,uxs,ucs⟩:=u;refine AWp.skip ?_;refine AWp.rg [] [] ?_ (hr:=by conv=>lhs;simp[Tm.row,Tm.Q3,Cs.Q3,h1d,Cs.row]);refine AWp.rg [] [.p (fun _=>.agg [.d (.int ek),.d (.int en),.d (.str ea),.d (.str eb),.d (Q7 evs),.d (.sl (exs.map Tm.row)),.d (.sl (ecs.map Cs.row))]) none] ?_ (hr:=by conv=>lhs;simp[Tm.row,Tm.Q3,Cs.Q3,h1d,Cs.row]);refine AWp.rg [] [] ?_ (hr:=by conv=>lhs;simp[Tm.row,Tm.Q3,Cs.Q3,h1d,Cs.row]);refine AWp.rg [] [] ?_ (hr:=by conv=>lhs;simp[Tm.row,Tm.Q3,Cs.Q3,h1d,Cs.row]);repeat (first|refine AWp.seq ?_|refine AWp.block ?_)
  refine AWp.loop (σ:=fun u:{u:Int×Int×ByteArray×ByteArray×List ByteArray×List Tm×List Cs×List ByteArray // (Tm.sr (.mk ek en ea eb evs exs ecs) dws=Tm.sr (.mk u.1 u.2.1 u.2.2.1 u.2.2.2.1 u.2.2.2.2.1 u.2.2.2.2.2.1 u.2.2.2.2.2.2.1) u.2.2.2.2.2.2.2∧Tm.Du (.mk u.1 u.2.1 u.2.2.1 u.2.2.2.1 u.2.2.2.2.1 u.2.2.2.2.2.1 u.2.2.2.2.2.2.1)∧u.2.2.2.2.2.2.2.length≤6)}=>⟨115,[(1,.ptr 1 0),(2,.ptr 2 0),(3,.ptr 3 0),(7,.ptr 7 0),(8,.ptr 8 0),(9,.d (Q7 u.1.2.2.2.2.2.2.2)),(10,.ptr 10 0),(30,.d (.sl (tcs.map Cs.row))),(31,.d (.int (tcs.length:Int))),(32,.d (.int (i:Int)))],[(1,some (.blk 32 [.d (.int tk),.d (.int tn),.d (.str ta),.d (.str tb),.d (Q7 tvs),.d (.sl (txs.map Tm.row)),.d (.sl (tcs.map Cs.row))])),(2,some (.blk 32 [.d (.int 0),.d (.int 0),.d (.str ByteArray.empty),.d (.str ByteArray.empty),.lit (.slice none 0 0),.lit (.slice none 0 0),.lit (.slice none 0 0)])),(3,some (.blk 32 [.d (.int tk),.d (.int tn),.d (.str ta),.d (.str tb),.d (Q7 tvs),.arr 400 0 ys.length,.arr 401 0 ds.length])),(7,some (.blk 42 [.d (.int dt),.d (Q7 dws),.d (.int yk),.d (.int yn),.d (.str ya),.d (.str yb),.d (Q7 yvs),.d (.sl (yxs.map Tm.row)),.d (.sl (ycs.map Cs.row))])),(8,some (.blk 32 [.d (.int ek),.d (.int en),.d (.str ea),.d (.str eb),.d (Q7 evs),.d (.sl (exs.map Tm.row)),.d (.sl (ecs.map Cs.row))])),(10,some (.blk 32 [.d (.int u.1.1),.d (.int u.1.2.1),.d (.str u.1.2.2.1),.d (.str u.1.2.2.2.1),.d (Q7 u.1.2.2.2.2.1),.d (.sl (u.1.2.2.2.2.2.1.map Tm.row)),.d (.sl (u.1.2.2.2.2.2.2.1.map Cs.row))])),(400,some (.arr 32 7 (ys.map Tm.row))),(401,some (.arr 42 9 (ds.map Cs.row)))]⟩)
   (μ:=fun u=>(Tm.mk u.1.1 u.1.2.1 u.1.2.2.1 u.1.2.2.2.1 u.1.2.2.2.2.1 u.1.2.2.2.2.2.1 u.1.2.2.2.2.2.2.1).sz) ⟨(ek,en,ea,eb,evs,exs,ecs,dws),⟨rfl,heD,hdl6⟩⟩ (Le.sub (by simp) (by simp)) (fun⟨(zk,zn,za,zb,zvs,zxs,zcs,us),hw3⟩=>?_)
  dsimp only at hw3⊢;obtain⟨hsr,hdu,hul⟩:=hw3;have hh:=sp_Has us za (by omega);obtain⟨qa,hq1⟩:∃q,hasB us za=q:=⟨_,rfl⟩
  rw[hq1]at hh;by_cases q1:zk=8
  ·cases qa with
   |true=>
    refine AWp.rg [] [.p (fun _=>.d (.bool true)) none] ?_ (hr:=by conv=>lhs;simp[Tm.row,Tm.Q3,Cs.Q3,h1d,Cs.row,q1]);refine AWp.cy ?_;refine AWp.skip ?_;have hzn:zxs≠[]:=hdu.1 (.inl q1);obtain⟨x,r,rfl⟩:∃x r,zxs=x::r:=by
     rcases zxs with _|⟨x,r⟩
     ·exact absurd rfl hzn
     ·exact⟨x,r,rfl⟩
    have hpk:Qv Tryd.prog 50 [Z7 us,.d (.sl [[.str za]]),.d (.bool false)] (fun _=>Z7 (woN us [za])) none:=sp_pickO us [za] (by omega) (by simp);have hWl:=L8 us [za];have hsr2:Tm.sr (.mk ek en ea eb evs exs ecs) dws=x.sr (woN us [za]):=by rw[hsr];exact if_pos ⟨q1,hq1⟩
    have hxd:x.Du:=hdu.2.1.1;generalize woN us [za]=W at hpk hWl hsr2;obtain⟨xk,xn,xa,xb,xvs,xxs,xcs⟩:=x;refine AWp.rg [3] [.p (fun _=>.d (Q7 W)) none] ?_ (hr:=by conv=>lhs;simp[Tm.row,Tm.Q3,Cs.Q3,h1d,Cs.row,q1]);refine AWp.rg [] [] ?_ (hr:=by conv=>lhs;simp[Tm.row,Tm.Q3,Cs.Q3,h1d,Cs.row,q1]);refine⟨⟨(xk,xn,xa,xb,xvs,xxs,xcs,W),⟨hsr2,hxd,by dsimp only;omega⟩⟩,by simp only[Tm.sz,Tm.szs];omega,?_⟩;dsimp only;exact Le.sub (by simp) (by simp)
   |false=>
    refine AWp.rg [] [.p (fun _=>.d (.bool false)) none] ?_ (hr:=by conv=>lhs;simp[Tm.row,Tm.Q3,Cs.Q3,h1d,Cs.row,q1]);refine AWp.cn ?_;refine AWp.exit ?_;have hsz3:Tm.sr (.mk zk zn za zb zvs zxs zcs) us=(us,(.mk zk zn za zb zvs zxs zcs)):=by
     refine if_neg fun h=>?_
     have h2:=h.2;rw[hq1]at h2;cases h2
    rw[hsz3]at hsr;obtain⟨A,hA⟩:∃A:Int,(dws.length:Int)=A:=⟨_,rfl⟩
    obtain⟨B,hB⟩:∃B:Int,(txs.length:Int)=B:=⟨_,rfl⟩
    by_cases hB1:B=1
    ·obtain⟨x,hx1⟩:∃x,txs=[x]:=by
      rcases txs with _|⟨x,_|⟨y,r⟩⟩
      ·simp at hB;omega
      ·exact⟨x,rfl⟩
      ·simp at hB;omega
     have h1x:txs[0]? =some x:=by rw[hx1];rfl
     have hn1:x.nm=nm0:=by rw[hn0,hx1];rfl
     obtain⟨xk,xn,xa,xb,xvs,xxs,xcs⟩:=x;obtain rfl:nm0=xa:=hn1.symm;by_cases q2:0<A
     ·by_cases q3:tk=7
      ·refine AWp.dw [] [] mixed ?_ (hr:=by conv=>lhs;simp[Tm.row,Tm.Q3,Cs.Q3,h1d,Cs.row,hA,hB,h1x,q1,hB1,q2,q3]);refine AWp.cn ?_;refine AWp.skip ?_;rw[U8 hsr fun h1 h2 h3 h4 h5=>by
        have h6:zk=9:=h4;have h7:za=nm0:=h5;first|omega|(exact absurd h7 (by assumption))]at hu
       injection hu with e1 e2 e3 e4 e5 e6 e7;subst e1 e2 e3 e4 e5 e6 e7;refine AWp.rg [] [] ?_ (hr:=by conv=>lhs;simp[Tm.row,Tm.Q3,Cs.Q3,h1d,Cs.row,q1,hB1,q2,q3]);refine AWp.rg [] [] ?_ (hr:=by conv=>lhs;simp[Tm.row,Tm.Q3,Cs.Q3,h1d,Cs.row,q1,hB1,q2,q3]);refine⟨⟨(i+1,ds++[.mk dt dws (.mk ek en ea eb evs exs ecs)]),hi1,hsn.symm⟩,by simp;omega,?_⟩;dsimp only;exact Le.sub (by simp[Cs.row,Tm.row,Tm.Q3,Cs.Q3,hdl,q3]) (by simp[Cs.row,Tm.row,Tm.Q3,Cs.Q3,hdl,q3])
      refine AWp.dw [] [] mixed ?_ (hr:=by conv=>lhs;simp[Tm.row,Tm.Q3,Cs.Q3,h1d,Cs.row,hA,hB,h1x,q1,hB1,q2,q3]);refine AWp.cn ?_;refine AWp.skip ?_;rw[U8 hsr fun h1 h2 h3 h4 h5=>by
       have h6:zk=9:=h4;have h7:za=nm0:=h5;first|omega|(exact absurd h7 (by assumption))]at hu
      injection hu with e1 e2 e3 e4 e5 e6 e7;subst e1 e2 e3 e4 e5 e6 e7;refine AWp.rg [] [] ?_ (hr:=by conv=>lhs;simp[Tm.row,Tm.Q3,Cs.Q3,h1d,Cs.row,q1,hB1,q2,q3]);refine AWp.rg [] [] ?_ (hr:=by conv=>lhs;simp[Tm.row,Tm.Q3,Cs.Q3,h1d,Cs.row,q1,hB1,q2,q3]);refine⟨⟨(i+1,ds++[.mk dt dws (.mk ek en ea eb evs exs ecs)]),hi1,hsn.symm⟩,by simp;omega,?_⟩;dsimp only;exact Le.sub (by simp[Cs.row,Tm.row,Tm.Q3,Cs.Q3,hdl]) (by simp[Cs.row,Tm.row,Tm.Q3,Cs.Q3,hdl])
     refine AWp.dw [] [] mixed ?_ (hr:=by conv=>lhs;simp[Tm.row,Tm.Q3,Cs.Q3,h1d,Cs.row,hA,hB,h1x,q1,hB1,q2]);refine AWp.cn ?_;refine AWp.skip ?_;rw[U8 hsr fun h1 h2 h3 h4 h5=>by
      have h6:zk=9:=h4;have h7:za=nm0:=h5;first|omega|(exact absurd h7 (by assumption))]at hu
     injection hu with e1 e2 e3 e4 e5 e6 e7;subst e1 e2 e3 e4 e5 e6 e7;refine AWp.rg [] [] ?_ (hr:=by conv=>lhs;simp[Tm.row,Tm.Q3,Cs.Q3,h1d,Cs.row,q1,hB1,q2]);refine AWp.rg [] [] ?_ (hr:=by conv=>lhs;simp[Tm.row,Tm.Q3,Cs.Q3,h1d,Cs.row,q1,hB1,q2]);refine⟨⟨(i+1,ds++[.mk dt dws (.mk ek en ea eb evs exs ecs)]),hi1,hsn.symm⟩,by simp;omega,?_⟩;dsimp only;exact Le.sub (by simp[Cs.row,Tm.row,Tm.Q3,Cs.Q3,hdl]) (by simp[Cs.row,Tm.row,Tm.Q3,Cs.Q3,hdl])
    by_cases q4:0<A
    ·refine AWp.dw [] [] mixed ?_ (hr:=by conv=>lhs;simp[Tm.row,Tm.Q3,Cs.Q3,h1d,Cs.row,hA,hB,q1,hB1,q4]);refine AWp.cn ?_;refine AWp.skip ?_;rw[U8 hsr fun h1 h2 h3 h4 h5=>by
      have h6:zk=9:=h4;have h7:za=nm0:=h5;first|omega|(exact absurd h7 (by assumption))]at hu
     injection hu with e1 e2 e3 e4 e5 e6 e7;subst e1 e2 e3 e4 e5 e6 e7;refine AWp.rg [] [] ?_ (hr:=by conv=>lhs;simp[Tm.row,Tm.Q3,Cs.Q3,h1d,Cs.row,q1,hB1,q4]);refine AWp.rg [] [] ?_ (hr:=by conv=>lhs;simp[Tm.row,Tm.Q3,Cs.Q3,h1d,Cs.row,q1,hB1,q4]);refine⟨⟨(i+1,ds++[.mk dt dws (.mk ek en ea eb evs exs ecs)]),hi1,hsn.symm⟩,by simp;omega,?_⟩;dsimp only;exact Le.sub (by simp[Cs.row,Tm.row,Tm.Q3,Cs.Q3,hdl]) (by simp[Cs.row,Tm.row,Tm.Q3,Cs.Q3,hdl])
    refine AWp.dw [] [] mixed ?_ (hr:=by conv=>lhs;simp[Tm.row,Tm.Q3,Cs.Q3,h1d,Cs.row,hA,hB,q1,hB1,q4]);refine AWp.cn ?_;refine AWp.skip ?_;rw[U8 hsr fun h1 h2 h3 h4 h5=>by
     have h6:zk=9:=h4;have h7:za=nm0:=h5;first|omega|(exact absurd h7 (by assumption))]at hu
    injection hu with e1 e2 e3 e4 e5 e6 e7;subst e1 e2 e3 e4 e5 e6 e7;refine AWp.rg [] [] ?_ (hr:=by conv=>lhs;simp[Tm.row,Tm.Q3,Cs.Q3,h1d,Cs.row,q1,hB1,q4]);refine AWp.rg [] [] ?_ (hr:=by conv=>lhs;simp[Tm.row,Tm.Q3,Cs.Q3,h1d,Cs.row,q1,hB1,q4]);refine⟨⟨(i+1,ds++[.mk dt dws (.mk ek en ea eb evs exs ecs)]),hi1,hsn.symm⟩,by simp;omega,?_⟩;dsimp only;exact Le.sub (by simp[Cs.row,Tm.row,Tm.Q3,Cs.Q3,hdl]) (by simp[Cs.row,Tm.row,Tm.Q3,Cs.Q3,hdl])
  refine AWp.rg [] [] ?_ (hr:=by conv=>lhs;simp[Tm.row,Tm.Q3,Cs.Q3,h1d,Cs.row,q1]);refine AWp.cn ?_;refine AWp.exit ?_;have hsz3:Tm.sr (.mk zk zn za zb zvs zxs zcs) us=(us,(.mk zk zn za zb zvs zxs zcs)):=by
   refine if_neg fun h=>?_
   exact absurd h.1 q1
  rw[hsz3]at hsr;obtain⟨A,hA⟩:∃A:Int,(dws.length:Int)=A:=⟨_,rfl⟩
  obtain⟨B,hB⟩:∃B:Int,(txs.length:Int)=B:=⟨_,rfl⟩
  by_cases hB1:B=1
  ·obtain⟨x,hx1⟩:∃x,txs=[x]:=by
    rcases txs with _|⟨x,_|⟨y,r⟩⟩
    ·simp at hB;omega
    ·exact⟨x,rfl⟩
    ·simp at hB;omega
   have h1x:txs[0]? =some x:=by rw[hx1];rfl
   have hn1:x.nm=nm0:=by rw[hn0,hx1];rfl
   obtain⟨xk,xn,xa,xb,xvs,xxs,xcs⟩:=x;obtain rfl:nm0=xa:=hn1.symm;by_cases q5:0<A
   ·by_cases q6:tk=7
    ·by_cases q7:zk=9
     ·by_cases q8:za=nm0
      ·refine AWp.dw [] [] mixed ?_ (hr:=by conv=>lhs;simp[Tm.row,Tm.Q3,Cs.Q3,h1d,Cs.row,hA,hB,h1x,q1,hB1,q5,q6,q7,q8]);refine AWp.cy ?_;have hzn:zxs≠[]:=hdu.1 (.inr q7);obtain⟨x2,r,rfl⟩:∃x r,zxs=x::r:=by
        rcases zxs with _|⟨x,r⟩
        ·exact absurd rfl hzn
        ·exact⟨x,r,rfl⟩
       rw[fuOne_yes2 hsr (by omega) (by omega) q6 q7 q8]at hu;rw[show Tm.a0 (.mk zk zn za zb zvs (x2::r) zcs)=x2 from rfl]at hu;obtain⟨vk,vn,va,vb,vvs,vxs,vcs⟩:=x2;have hct:=V9 9 us vk vn va vb vvs vxs vcs (by omega);generalize cnt 9 us (.mk vk vn va vb vvs vxs vcs)=c at hct hu;obtain⟨ck,cn,ca,cb,cvs,cxs,ccs⟩:=c;injection hu with e1 e2 e3 e4 e5 e6 e7;subst e1 e2 e3 e4 e5 e6 e7;refine AWp.dw [10] [.p (fun _=>.agg [.d (.int ck),.d (.int cn),.d (.str ca),.d (.str cb),.d (Q7 cvs),.d (.sl (cxs.map Tm.row)),.d (.sl (ccs.map Cs.row))]) none] mixed ?_ (hr:=by conv=>lhs;simp[Tm.row,Tm.Q3,Cs.Q3,h1d,Cs.row,q1,hB1,q5,q6,q7,q8]);refine AWp.rg [] [] ?_ (hr:=by conv=>lhs;simp[Tm.row,Tm.Q3,Cs.Q3,h1d,Cs.row,q1,hB1,q5,q6,q7,q8]);refine AWp.rg [] [] ?_ (hr:=by conv=>lhs;simp[Tm.row,Tm.Q3,Cs.Q3,h1d,Cs.row,q1,hB1,q5,q6,q7,q8]);refine⟨⟨(i+1,ds++[.mk dt dws (.mk 10 0 nm0 .empty dws [.mk ck cn ca cb cvs cxs ccs] [])]),hi1,hsn.symm⟩,by simp;omega,?_⟩;dsimp only;exact Le.sub (by simp[Cs.row,Tm.row,Tm.Q3,Cs.Q3,hdl,q6,q7,q8]) (by simp[Cs.row,Tm.row,Tm.Q3,Cs.Q3,hdl,q6,q7,q8])
      refine AWp.dw [] [] mixed ?_ (hr:=by conv=>lhs;simp[Tm.row,Tm.Q3,Cs.Q3,h1d,Cs.row,hA,hB,h1x,q1,hB1,q5,q6,q7,q8]);refine AWp.cn ?_;refine AWp.skip ?_;rw[U8 hsr fun h1 h2 h3 h4 h5=>by
       have h6:zk=9:=h4;have h7:za=nm0:=h5;first|omega|(exact absurd h7 (by assumption))]at hu
      injection hu with e1 e2 e3 e4 e5 e6 e7;subst e1 e2 e3 e4 e5 e6 e7;refine AWp.rg [] [] ?_ (hr:=by conv=>lhs;simp[Tm.row,Tm.Q3,Cs.Q3,h1d,Cs.row,q1,hB1,q5,q6,q7,q8]);refine AWp.rg [] [] ?_ (hr:=by conv=>lhs;simp[Tm.row,Tm.Q3,Cs.Q3,h1d,Cs.row,q1,hB1,q5,q6,q7,q8]);refine⟨⟨(i+1,ds++[.mk dt dws (.mk ek en ea eb evs exs ecs)]),hi1,hsn.symm⟩,by simp;omega,?_⟩;dsimp only;exact Le.sub (by simp[Cs.row,Tm.row,Tm.Q3,Cs.Q3,hdl,q6,q7]) (by simp[Cs.row,Tm.row,Tm.Q3,Cs.Q3,hdl,q6,q7])
     refine AWp.dw [] [] mixed ?_ (hr:=by conv=>lhs;simp[Tm.row,Tm.Q3,Cs.Q3,h1d,Cs.row,hA,hB,h1x,q1,hB1,q5,q6,q7]);refine AWp.cn ?_;refine AWp.skip ?_;rw[U8 hsr fun h1 h2 h3 h4 h5=>by
      have h6:zk=9:=h4;have h7:za=nm0:=h5;first|omega|(exact absurd h7 (by assumption))]at hu
     injection hu with e1 e2 e3 e4 e5 e6 e7;subst e1 e2 e3 e4 e5 e6 e7;refine AWp.rg [] [] ?_ (hr:=by conv=>lhs;simp[Tm.row,Tm.Q3,Cs.Q3,h1d,Cs.row,q1,hB1,q5,q6,q7]);refine AWp.rg [] [] ?_ (hr:=by conv=>lhs;simp[Tm.row,Tm.Q3,Cs.Q3,h1d,Cs.row,q1,hB1,q5,q6,q7]);refine⟨⟨(i+1,ds++[.mk dt dws (.mk ek en ea eb evs exs ecs)]),hi1,hsn.symm⟩,by simp;omega,?_⟩;dsimp only;exact Le.sub (by simp[Cs.row,Tm.row,Tm.Q3,Cs.Q3,hdl,q6]) (by simp[Cs.row,Tm.row,Tm.Q3,Cs.Q3,hdl,q6])
    refine AWp.dw [] [] mixed ?_ (hr:=by conv=>lhs;simp[Tm.row,Tm.Q3,Cs.Q3,h1d,Cs.row,hA,hB,h1x,q1,hB1,q5,q6]);refine AWp.cn ?_;refine AWp.skip ?_;rw[U8 hsr fun h1 h2 h3 h4 h5=>by
     have h6:zk=9:=h4;have h7:za=nm0:=h5;first|omega|(exact absurd h7 (by assumption))]at hu
    injection hu with e1 e2 e3 e4 e5 e6 e7;subst e1 e2 e3 e4 e5 e6 e7;refine AWp.rg [] [] ?_ (hr:=by conv=>lhs;simp[Tm.row,Tm.Q3,Cs.Q3,h1d,Cs.row,q1,hB1,q5,q6]);refine AWp.rg [] [] ?_ (hr:=by conv=>lhs;simp[Tm.row,Tm.Q3,Cs.Q3,h1d,Cs.row,q1,hB1,q5,q6]);refine⟨⟨(i+1,ds++[.mk dt dws (.mk ek en ea eb evs exs ecs)]),hi1,hsn.symm⟩,by simp;omega,?_⟩;dsimp only;exact Le.sub (by simp[Cs.row,Tm.row,Tm.Q3,Cs.Q3,hdl]) (by simp[Cs.row,Tm.row,Tm.Q3,Cs.Q3,hdl])
   refine AWp.dw [] [] mixed ?_ (hr:=by conv=>lhs;simp[Tm.row,Tm.Q3,Cs.Q3,h1d,Cs.row,hA,hB,h1x,q1,hB1,q5]);refine AWp.cn ?_;refine AWp.skip ?_;rw[U8 hsr fun h1 h2 h3 h4 h5=>by
    have h6:zk=9:=h4;have h7:za=nm0:=h5;first|omega|(exact absurd h7 (by assumption))]at hu
   injection hu with e1 e2 e3 e4 e5 e6 e7;subst e1 e2 e3 e4 e5 e6 e7;refine AWp.rg [] [] ?_ (hr:=by conv=>lhs;simp[Tm.row,Tm.Q3,Cs.Q3,h1d,Cs.row,q1,hB1,q5]);refine AWp.rg [] [] ?_ (hr:=by conv=>lhs;simp[Tm.row,Tm.Q3,Cs.Q3,h1d,Cs.row,q1,hB1,q5]);refine⟨⟨(i+1,ds++[.mk dt dws (.mk ek en ea eb evs exs ecs)]),hi1,hsn.symm⟩,by simp;omega,?_⟩;dsimp only;exact Le.sub (by simp[Cs.row,Tm.row,Tm.Q3,Cs.Q3,hdl]) (by simp[Cs.row,Tm.row,Tm.Q3,Cs.Q3,hdl])
  by_cases q9:0<A
  ·refine AWp.dw [] [] mixed ?_ (hr:=by conv=>lhs;simp[Tm.row,Tm.Q3,Cs.Q3,h1d,Cs.row,hA,hB,q1,hB1,q9]);refine AWp.cn ?_;refine AWp.skip ?_;rw[U8 hsr fun h1 h2 h3 h4 h5=>by
    have h6:zk=9:=h4;have h7:za=nm0:=h5;first|omega|(exact absurd h7 (by assumption))]at hu
   injection hu with e1 e2 e3 e4 e5 e6 e7;subst e1 e2 e3 e4 e5 e6 e7;refine AWp.rg [] [] ?_ (hr:=by conv=>lhs;simp[Tm.row,Tm.Q3,Cs.Q3,h1d,Cs.row,q1,hB1,q9]);refine AWp.rg [] [] ?_ (hr:=by conv=>lhs;simp[Tm.row,Tm.Q3,Cs.Q3,h1d,Cs.row,q1,hB1,q9]);refine⟨⟨(i+1,ds++[.mk dt dws (.mk ek en ea eb evs exs ecs)]),hi1,hsn.symm⟩,by simp;omega,?_⟩;dsimp only;exact Le.sub (by simp[Cs.row,Tm.row,Tm.Q3,Cs.Q3,hdl]) (by simp[Cs.row,Tm.row,Tm.Q3,Cs.Q3,hdl])
  refine AWp.dw [] [] mixed ?_ (hr:=by conv=>lhs;simp[Tm.row,Tm.Q3,Cs.Q3,h1d,Cs.row,hA,hB,q1,hB1,q9]);refine AWp.cn ?_;refine AWp.skip ?_;rw[U8 hsr fun h1 h2 h3 h4 h5=>by
   have h6:zk=9:=h4;have h7:za=nm0:=h5;first|omega|(exact absurd h7 (by assumption))]at hu
  injection hu with e1 e2 e3 e4 e5 e6 e7;subst e1 e2 e3 e4 e5 e6 e7;refine AWp.rg [] [] ?_ (hr:=by conv=>lhs;simp[Tm.row,Tm.Q3,Cs.Q3,h1d,Cs.row,q1,hB1,q9]);refine AWp.rg [] [] ?_ (hr:=by conv=>lhs;simp[Tm.row,Tm.Q3,Cs.Q3,h1d,Cs.row,q1,hB1,q9]);refine⟨⟨(i+1,ds++[.mk dt dws (.mk ek en ea eb evs exs ecs)]),hi1,hsn.symm⟩,by simp;omega,?_⟩;dsimp only;exact Le.sub (by simp[Cs.row,Tm.row,Tm.Q3,Cs.Q3,hdl]) (by simp[Cs.row,Tm.row,Tm.Q3,Cs.Q3,hdl])
 have hi1:i=tcs.length:=by have:=of_decide_eq_false hc;omega
 subst hi1;clear hc;rw[List.take_length]at hw2;rw[←hw2]at hR;clear hw2;replace hR:=hR.symm;injection hR with e1 e2 e3 e4 e5 e6 e7;subst e1 e2 e3 e4 e5 e6 e7;refine AWp.exit ?_;refine AWp.rg [] [] ?_ (hr:=by conv=>lhs;simp[Tm.row,Tm.Q3,Cs.Q3]);refine AWp.ret ?_;try dsimp only[Qq,Q8]
 apply Z5.retF [400,401]
 ·rfl
 ·conv=>lhs;simp
 ·conv=>lhs;simp[Qz,Tryd.results34]
 first|rfl|simp[Zz,Xj,Tm.row,Tm.Q3,Cs.Q3]
theorem fd_all:∀N,FdN N
 |0=>fun t h=>by obtain⟨tk,tn,ta,tb,tvs,txs,tcs⟩:=t;simp only[Tm.sz]at h;omega
 |N+1=>fd_step N (fd_all N)
theorem sp_FuFn (f:Fn) (h:f.body.Ok∧f.body.Du):Qv Tryd.prog 21 [Wz f] (fun _=>Wz f.fu) none:=by
 have hx:=fd_all f.body.sz f.body (Nat.le_refl _) h.1 h.2;unfold Fn.fu;generalize f.body.fu=z at hx⊢;obtain⟨fg,fps,⟨fk,fn,fa,fb,fvs,fxs,fcs⟩⟩:=f;obtain⟨zk,zn,za,zb,zvs,zxs,zcs⟩:=z;dsimp only at hx;refine Qv.of Tryd.func21 rfl rfl rfl (Nat.le_of_ble_eq_true rfl) ?_;show AWp _ _ (Z5 _ Tryd.f21 _ _ _) (Qw 11 _);refine AWp.rg [] [] ?_ (hr:=by conv=>lhs;simp[Wz,Fn.row,Tm.row,Tm.Q3,Cs.Q3]);refine AWp.dw [] [.p (fun _=>.agg [.d (.int zk),.d (.int zn),.d (.str za),.d (.str zb),.d (Q7 zvs),.d (.sl (zxs.map Tm.row)),.d (.sl (zcs.map Cs.row))]) none] mixed ?_ (hr:=by conv=>lhs;simp[Wz,Fn.row,Tm.row,Tm.Q3,Cs.Q3]);refine AWp.ret ?_;try dsimp only[Qq,Q8]
 apply Z5.ret
 ·rfl
 ·conv=>lhs;simp[Qz,Tryd.results21]
 rfl
theorem sp_EachFused (l:List Fn) (hl:l.length≤879609302220) (hall:∀f∈l,f.body.Ok∧f.body.Du):Qv Tryd.prog 18 [W9 l,.d (.fn 21)] (fun _=>W9 (l.map Fn.fu)) none:=by
 obtain⟨G,hG⟩:∃G,G=l.map Fn.fu:=⟨_,rfl⟩
 rw[←hG];refine Qv.of Tryd.func18 rfl rfl rfl (Nat.le_of_ble_eq_true rfl) ?_;show AWp _ _ (Z5 _ Tryd.f18 _ _ _) (Qw 22 _);refine AWp.rg [] [] ?_ (hr:=by conv=>lhs;simp[Fn.row,Tm.row,Tm.Q3,Cs.Q3]);refine AWp.rg [] [] ?_ (hr:=by conv=>lhs;simp[Fn.row,Tm.row,Tm.Q3,Cs.Q3]);refine AWp.rg [] [] ?_ (hr:=by conv=>lhs;simp[Fn.row,Tm.row,Tm.Q3,Cs.Q3]);repeat (first|refine AWp.seq ?_|refine AWp.block ?_)
 refine AWp.le (Le.low [400] [] (fr:=[(1,.d (.fn 21)),(5,.arr 400 0 ([]:List Fn).length),(8,.d (.sl (l.map Fn.row))),(9,.d (.int (l.length:Int))),(10,.d (.int (0:Int)))]) (mem:=[(400,some (.arr 34 9 (([]:List Fn).map Fn.row)))]) rfl (by simp) (by simp)) ?_;refine AWp.loop (σ:=fun u:{u:Nat×List Fn // u.1≤l.length∧u.2=(l.take u.1).map Fn.fu}=>⟨22,[(1,.d (.fn 21)),(5,.arr 400 0 u.1.2.length),(8,.d (.sl (l.map Fn.row))),(9,.d (.int (l.length:Int))),(10,.d (.int (u.1.1:Int)))],[(400,some (.arr 34 9 (u.1.2.map Fn.row)))]⟩)
  (μ:=fun u=>l.length-u.1.1) ⟨(0,[]),⟨Nat.zero_le _,by simp⟩⟩ (Le.sub (by simp) (by simp)) (fun⟨(i,gs),⟨hi3,hw⟩⟩=>?_)
 dsimp only at hi3 hw⊢;refine AWp.rg [] [] ?_ (hr:=by conv=>lhs;simp[Fn.row,Tm.row,Tm.Q3,Cs.Q3]);repeat (first|refine AWp.seq ?_|refine AWp.block ?_)
 refine AWp.cond rfl (fun hc=>?_) (fun hc=>?_)
 ·have hi1:i<l.length:=by have:=of_decide_eq_true hc;omega
  clear hc;have h1f:l[i]? =some l[i]:=List.getElem?_eq_getElem hi1;have hmf:l[i]∈l:=List.getElem_mem hi1;have hdf:l.drop i=l[i]::l.drop (i+1):=List.drop_eq_getElem_cons hi1;generalize l[i]=f at h1f hmf hdf;have hgl:gs.length=i:=by rw[hw,List.length_map,List.length_take];omega
  have hx:=sp_FuFn f (hall f hmf);generalize hz:Fn.fu f=z at hx;obtain⟨fg,fps,⟨fk,fn,fa,fb,fvs,fxs,fcs⟩⟩:=f;obtain⟨zg,zps,⟨zk,zn,za,zb,zvs,zxs,zcs⟩⟩:=z;dsimp only[Wz]at hx;refine AWp.skip ?_;refine AWp.rg [] [] ?_ (hr:=by conv=>lhs;simp[Fn.row,Tm.row,Tm.Q3,Cs.Q3,h1f]);refine AWp.rg [] [.p (fun _=>.agg [.d (.str zg),.d (Q7 zps),.d (.int zk),.d (.int zn),.d (.str za),.d (.str zb),.d (Q7 zvs),.d (.sl (zxs.map Tm.row)),.d (.sl (zcs.map Cs.row))]) none] ?_ (hr:=by conv=>lhs;simp[Fn.row,Tm.row,Tm.Q3,Cs.Q3,h1f]);refine AWp.rg [] [] ?_ (hr:=by conv=>lhs;simp[Fn.row,Tm.row,Tm.Q3,Cs.Q3,h1f]);refine⟨⟨(i+1,gs++[⟨zg,zps,.mk zk zn za zb zvs zxs zcs⟩]),hi1,by rw[hw,List.take_add_one,h1f,List.map_append,←hz];rfl⟩,by simp;omega,?_⟩;dsimp only;exact Le.sub (by simp[Fn.row,Tm.row,Tm.Q3,Cs.Q3,hgl]) (by simp[Fn.row,Tm.row,Tm.Q3,Cs.Q3,hgl])
 have hi1:i=l.length:=by have:=of_decide_eq_false hc;omega
 subst hi1;clear hc;rw[List.take_length]at hw;obtain rfl:gs=G:=by rw[hw,hG]
 refine AWp.exit ?_;refine AWp.rg [] [] ?_ (hr:=by conv=>lhs;simp[Fn.row,Tm.row,Tm.Q3,Cs.Q3]);refine AWp.ret ?_;try dsimp only[Qq,Q8]
 apply Z5.retF [400]
 ·rfl
 ·conv=>lhs;simp
 ·conv=>lhs;simp[Qz,Tryd.results18]
 rfl
theorem fitA_any (m:Nat):∀l:List Cs,Cs.fitA m l=l.any (Cs.fits m)
 |[]=>rfl
 |c::r=>by rw[Cs.fitA,fitA_any m r];rfl
mutual
def Tm.Fs:Tm→Prop
 | .mk k n a b vs xs cs=>(k=6→∃x y,xs=[x,y])∧(8≤k∧k≠12→∃x,xs=[x])∧Tm.FsL xs∧Cs.FsL cs
def Tm.FsL:List Tm→Prop
 |[]=>True
 |x::r=>x.Fs∧Tm.FsL r
def Cs.FsL:List Cs→Prop
 |[]=>True
 |c::r=>c.Fs∧Cs.FsL r
def Cs.Fs:Cs→Prop
 | .mk t ws y=>y.Fs
end
theorem Cq:∀{l:List Tm},Tm.FsL l↔∀x∈l,x.Fs
 |[]=>by simp[Tm.FsL]
 |x::r=>by simp[Tm.FsL,Cq (l:=r)]
theorem Dk:∀{l:List Cs},Cs.FsL l↔∀x∈l,x.Fs
 |[]=>by simp[Cs.FsL]
 |x::r=>by simp[Cs.FsL,Dk (l:=r)]
def FitN (N:Nat):Prop:=∀(t:Tm) (m:Nat),t.sz≤N→t.Ok→t.Fs→Qv Tryd.prog 37 [Xj t,.d (.int (m:Int))] (fun _=>.d (.bool (t.fits m))) none
theorem fit_step (N:Nat) (ih:FitN N):FitN (N+1):=by
 intro t m hsz hO hS;obtain⟨R,hR⟩:∃R,R=t.fits m:=⟨_,rfl⟩
 rw[←hR];obtain⟨M,hM⟩:∃M:Int,(m:Int)=M:=⟨_,rfl⟩
 rw[hM];obtain⟨tk,tn,ta,tb,tvs,txs,tcs⟩:=t;have hxO:∀x∈txs,x.Ok:=fun x hx=>Tm.Zk.1 hO.2.2.1 x hx
 have hcO:∀x∈tcs,x.Ok:=fun x hx=>Cs.Zk.1 hO.2.2.2 x hx
 have hxS:∀x∈txs,x.Fs:=fun x hx=>Cq.1 hS.2.2.1 x hx
 have hcS:∀x∈tcs,x.Fs:=fun x hx=>Dk.1 hS.2.2.2 x hx
 obtain⟨o1,o2,o3,o4,o5⟩:=hO.vars;simp only[Tm.sz]at hsz;obtain⟨B,hB⟩:∃B:Int,(txs.length:Int)=B:=⟨_,rfl⟩
 refine Qv.of Tryd.func37 rfl rfl rfl (Nat.le_of_ble_eq_true rfl) ?_;show AWp _ _ (Z5 _ Tryd.f37 _ _ _) (Qw 75 _);refine AWp.rg [] [] ?_ (hr:=by conv=>lhs;simp[Tm.row,Tm.Q3,Cs.Q3]);by_cases q1:tk=3
 ·refine AWp.rg [] [] ?_ (hr:=by conv=>lhs;simp[Tm.row,Tm.Q3,Cs.Q3,q1]);refine AWp.cy ?_;refine AWp.rg [] [] ?_ (hr:=by conv=>lhs;simp[Tm.row,Tm.Q3,Cs.Q3,hB,q1]);refine AWp.ret ?_;obtain rfl:R=decide (B=M):=by rw[hR,Tm.fits,if_pos q1,←hB,←hM];simp[Int.ofNat_inj]
  try dsimp only[Qq,Q8]
  apply Z5.ret
  ·rfl
  ·conv=>lhs;simp[Qz,Tryd.results37]
  rfl
 refine AWp.rg [] [] ?_ (hr:=by conv=>lhs;simp[Tm.row,Tm.Q3,Cs.Q3,q1]);refine AWp.cn ?_;by_cases q2:tk=6
 ·refine AWp.rg [] [] ?_ (hr:=by conv=>lhs;simp[Tm.row,Tm.Q3,Cs.Q3,q1,q2]);refine AWp.cy ?_;obtain⟨x,y,hxy⟩:=hS.1 q2;have h0x:txs[0]? =some x:=by rw[hxy];rfl
  have h1x:txs[1]? =some y:=by rw[hxy];rfl
  have hln:txs.length=2:=by rw[hxy];rfl
  have hmy:y∈txs:=by rw[hxy];simp
  have hx:=ih y m (by have:=Tm.Zj hmy;omega) (hxO y hmy) (hxS y hmy);obtain⟨z,hz⟩:∃z,y.fits m=z:=⟨_,rfl⟩
  rw[hz,hM]at hx;have hR6:R=((decide (x.tk=3) && decide (x.xs.length=m))||z):=by rw[hR,Tm.fits,if_neg (by omega),if_pos q2,hxy,Tm.fitL,Tm.fitH,hz]
  obtain⟨xk,xn,xa,xb,xvs,xxs,xcs⟩:=x;obtain⟨yk,yn,ya,yb,yvs,yxs,ycs⟩:=y;obtain⟨C,hC⟩:∃C:Int,(xxs.length:Int)=C:=⟨_,rfl⟩
  by_cases q3:xk=3
  ·by_cases q4:C=M
   ·refine AWp.rg [] [] ?_ (hr:=by conv=>lhs;simp[Tm.row,Tm.Q3,Cs.Q3,h0x,h1x,hC,q1,q2,q3,q4]);refine AWp.ret ?_;obtain rfl:R=true:=by
     have hcm:xxs.length=m:=by omega
     rw[hR6];simp[Tm.tk,Tm.xs,hcm,q3]
    try dsimp only[Qq,Q8]
    apply Z5.ret
    ·rfl
    ·conv=>lhs;simp[Qz,Tryd.results37]
    rfl
   refine AWp.rg [] [.p (fun _=>.d (.bool z)) none] ?_ (hr:=by conv=>lhs;simp[Tm.row,Tm.Q3,Cs.Q3,h0x,h1x,hC,q1,q2,q3,q4]);refine AWp.ret ?_;obtain rfl:R=z:=by
    have hcm:xxs.length≠m:=by omega
    rw[hR6];simp[Tm.tk,Tm.xs,hcm,q3]
   try dsimp only[Qq,Q8]
   apply Z5.ret
   ·rfl
   ·conv=>lhs;simp[Qz,Tryd.results37]
   rfl
  refine AWp.rg [] [.p (fun _=>.d (.bool z)) none] ?_ (hr:=by conv=>lhs;simp[Tm.row,Tm.Q3,Cs.Q3,h0x,h1x,hC,q1,q2,q3]);refine AWp.ret ?_;obtain rfl:R=z:=by rw[hR6];simp[Tm.tk,q3]
  try dsimp only[Qq,Q8]
  apply Z5.ret
  ·rfl
  ·conv=>lhs;simp[Qz,Tryd.results37]
  rfl
 refine AWp.rg [] [] ?_ (hr:=by conv=>lhs;simp[Tm.row,Tm.Q3,Cs.Q3,q1,q2]);refine AWp.cn ?_;by_cases q5:tk=7
 ·refine AWp.rg [] [] ?_ (hr:=by conv=>lhs;simp[Tm.row,Tm.Q3,Cs.Q3,q1,q2,q5]);refine AWp.cy ?_;have hR7:R=tcs.any (Cs.fits m):=by rw[hR,Tm.fits,if_neg (by omega),if_neg (by omega),if_pos q5,fitA_any]
  refine AWp.rg [] [] ?_ (hr:=by conv=>lhs;simp[Tm.row,Tm.Q3,Cs.Q3,q1,q2,q5]);repeat (first|refine AWp.seq ?_|refine AWp.block ?_)
  refine AWp.loop (σ:=fun u:{u:Nat // u≤tcs.length∧(tcs.take u).any (Cs.fits m)=false}=>⟨75,[(1,.d (.int M)),(49,.d (.sl (tcs.map Cs.row))),(50,.d (.int (tcs.length:Int))),(51,.d (.int (u.1:Int)))],[]⟩)
   (μ:=fun u=>tcs.length-u.1) ⟨0,⟨Nat.zero_le _,rfl⟩⟩ (Le.sub (by simp) (by simp)) (fun⟨i,⟨hi7,hw⟩⟩=>?_)
  dsimp only;refine AWp.rg [] [] ?_ (hr:=by conv=>lhs;simp[Tm.row,Tm.Q3,Cs.Q3,q1,q2,q5]);repeat (first|refine AWp.seq ?_|refine AWp.block ?_)
  refine AWp.cond rfl (fun hc=>?_) (fun hc=>?_)
  ·have hi1:i<tcs.length:=by have:=of_decide_eq_true hc;omega
   clear hc;have h1d:tcs[i]? =some tcs[i]:=List.getElem?_eq_getElem hi1;have hmd:tcs[i]∈tcs:=List.getElem_mem hi1;have hdd:tcs.drop i=tcs[i]::tcs.drop (i+1):=List.drop_eq_getElem_cons hi1;generalize tcs[i]=d at h1d hmd hdd;have hdO:=hcO d hmd;have hdS:=hcS d hmd;have hsz2:=Cs.Zj hmd;have hsn:(tcs.take (i+1)).any (Cs.fits m)=d.fits m:=by rw[List.take_add_one,h1d,List.any_append,hw];simp
   have hany:d.fits m=true→R=true:=fun h=>by
    rw[hR7];exact List.any_eq_true.2 ⟨d,hmd,h⟩
   obtain⟨dt,dws,y⟩:=d;have hx:=ih y m (by simp only[Cs.sz]at hsz2;omega) hdO.2.2 hdS;rw[Cs.fits]at hsn hany;generalize y.fits m=z at hx hsn hany;rw[hM]at hx;obtain⟨yk,yn,ya,yb,yvs,yxs,ycs⟩:=y;refine AWp.skip ?_;refine AWp.rg [] [] ?_ (hr:=by conv=>lhs;simp[Tm.row,Tm.Q3,Cs.Q3,h1d,Cs.row,q1,q2,q5]);cases z with
   |true=>
    refine AWp.rg [] [.p (fun _=>.d (.bool true)) none] ?_ (hr:=by conv=>lhs;simp[Tm.row,Tm.Q3,Cs.Q3,h1d,Cs.row,q1,q2,q5]);refine AWp.cy ?_;refine AWp.rg [] [] ?_ (hr:=by conv=>lhs;simp[Tm.row,Tm.Q3,Cs.Q3,h1d,Cs.row,q1,q2,q5]);refine AWp.ret ?_;obtain rfl:R=true:=hany rfl;try dsimp only[Qq,Q8]
    apply Z5.ret
    ·rfl
    ·conv=>lhs;simp[Qz,Tryd.results37]
    rfl
   |false=>
    refine AWp.rg [] [.p (fun _=>.d (.bool false)) none] ?_ (hr:=by conv=>lhs;simp[Tm.row,Tm.Q3,Cs.Q3,h1d,Cs.row,q1,q2,q5]);refine AWp.cn ?_;refine AWp.skip ?_;refine AWp.rg [] [] ?_ (hr:=by conv=>lhs;simp[Tm.row,Tm.Q3,Cs.Q3,h1d,Cs.row,q1,q2,q5]);refine⟨⟨i+1,hi1,hsn⟩,by simp;omega,?_⟩;dsimp only;exact Le.sub (by simp[Cs.row,Tm.row,Tm.Q3,Cs.Q3]) (by simp[Cs.row,Tm.row,Tm.Q3,Cs.Q3])
  have hi1:i=tcs.length:=by have:=of_decide_eq_false hc;omega
  subst hi1;clear hc;rw[List.take_length]at hw;refine AWp.exit ?_;refine AWp.rg [] [] ?_ (hr:=by conv=>lhs;simp[Tm.row,Tm.Q3,Cs.Q3,q1,q2,q5]);refine AWp.ret ?_;obtain rfl:R=false:=by rw[hR7,hw]
  try dsimp only[Qq,Q8]
  apply Z5.ret
  ·rfl
  ·conv=>lhs;simp[Qz,Tryd.results37]
  rfl
 refine AWp.rg [] [] ?_ (hr:=by conv=>lhs;simp[Tm.row,Tm.Q3,Cs.Q3,q1,q2,q5]);refine AWp.cn ?_;by_cases q6:8≤tk
 ·by_cases q7:tk=12
  ·refine AWp.rg [] [] ?_ (hr:=by conv=>lhs;simp[Tm.row,Tm.Q3,Cs.Q3,q1,q2,q5,q6,q7]);refine AWp.cn ?_;refine AWp.skip ?_;refine AWp.rg [] [] ?_ (hr:=by conv=>lhs;simp[Tm.row,Tm.Q3,Cs.Q3,q1,q2,q5,q6,q7]);refine AWp.ret ?_;obtain rfl:R=false:=by rw[hR,Tm.fits,if_neg (by omega),if_neg (by omega),if_neg (by omega),if_neg (by omega)]
   try dsimp only[Qq,Q8]
   apply Z5.ret
   ·rfl
   ·conv=>lhs;simp[Qz,Tryd.results37]
   rfl
  refine AWp.rg [] [] ?_ (hr:=by conv=>lhs;simp[Tm.row,Tm.Q3,Cs.Q3,q1,q2,q5,q6,q7]);refine AWp.cy ?_;obtain⟨x,hxy⟩:=hS.2.1 (by omega);have h0x:txs[0]? =some x:=by rw[hxy];rfl
  have hln:txs.length=1:=by rw[hxy];rfl
  have hmy:x∈txs:=by rw[hxy];simp
  have hx:=ih x m (by have:=Tm.Zj hmy;omega) (hxO x hmy) (hxS x hmy);obtain⟨z,hz⟩:∃z,x.fits m=z:=⟨_,rfl⟩
  rw[hz,hM]at hx;have hR8:R=z:=by rw[hR,Tm.fits,if_neg (by omega),if_neg (by omega),if_neg (by omega),if_pos (by omega),hxy,Tm.fitH,hz]
  obtain⟨xk,xn,xa,xb,xvs,xxs,xcs⟩:=x;refine AWp.rg [] [.p (fun _=>.d (.bool z)) none] ?_ (hr:=by conv=>lhs;simp[Tm.row,Tm.Q3,Cs.Q3,h0x,q1,q2,q5,q6,q7]);refine AWp.ret ?_;obtain rfl:R=z:=hR8;try dsimp only[Qq,Q8]
  apply Z5.ret
  ·rfl
  ·conv=>lhs;simp[Qz,Tryd.results37]
  rfl
 refine AWp.rg [] [] ?_ (hr:=by conv=>lhs;simp[Tm.row,Tm.Q3,Cs.Q3,q1,q2,q5,q6]);refine AWp.cn ?_;refine AWp.skip ?_;refine AWp.rg [] [] ?_ (hr:=by conv=>lhs;simp[Tm.row,Tm.Q3,Cs.Q3,q1,q2,q5,q6]);refine AWp.ret ?_;obtain rfl:R=false:=by rw[hR,Tm.fits,if_neg (by omega),if_neg (by omega),if_neg (by omega),if_neg (by omega)]
 try dsimp only[Qq,Q8]
 apply Z5.ret
 ·rfl
 ·conv=>lhs;simp[Qz,Tryd.results37]
 rfl
theorem fit_all:∀N,FitN N
 |0=>fun t m h=>by obtain⟨tk,tn,ta,tb,tvs,txs,tcs⟩:=t;simp only[Tm.sz]at h;omega
 |N+1=>fit_step N (fit_all N)
mutual
def Tm.k13:Tm→Prop
 | .mk k n a b vs xs cs=>k≤13∧Tm.k13L xs∧Cs.k13L cs
def Tm.k13L:List Tm→Prop
 |[]=>True
 |x::r=>x.k13∧Tm.k13L r
def Cs.k13L:List Cs→Prop
 |[]=>True
 |c::r=>c.k13∧Cs.k13L r
def Cs.k13:Cs→Prop
 | .mk t ws y=>y.k13
end
theorem k13L_iff:∀{l:List Tm},Tm.k13L l↔∀x∈l,x.k13
 |[]=>by simp[Tm.k13L]
 |x::r=>by simp[Tm.k13L,k13L_iff (l:=r)]
theorem Pw:∀{l:List Cs},Cs.k13L l↔∀x∈l,x.k13
 |[]=>by simp[Cs.k13L]
 |x::r=>by simp[Cs.k13L,Pw (l:=r)]
def Plc (tok:ByteArray) (m:Nat) (t:Tm):Tm:=if t.fits m=true then t.put tok m else t
theorem putH_len (tok:ByteArray) (m:Nat) (l:List Tm):(Tm.Rk tok m l).length=l.length:=by cases l<;> simp[Tm.Rk]
theorem putL_len (tok:ByteArray) (m:Nat) (l:List Tm):(Tm.Cv tok m l).length=l.length:=by
 cases l with
 |nil=>simp[Tm.Cv]
 |cons x r=>rw[Tm.Cv];split<;> simp[putH_len]
theorem Plc_len {tok:ByteArray} {m:Nat} {k n zk zn:Int} {a b za zb:ByteArray} {vs zvs:List ByteArray} {xs zxs:List Tm} {cs zcs:List Cs} (h:Plc tok m (.mk k n a b vs xs cs)= .mk zk zn za zb zvs zxs zcs):
  vs.length=zvs.length∧xs.length=zxs.length∧cs.length=zcs.length:=by
 unfold Plc at h;split at h
 ·rename_i hf;rw[Tm.put,if_neg (by rw[hf];simp)]at h;split at h
  ·injection h with e1 e2 e3 e4 e5 e6 e7;subst e5 e6 e7;exact⟨rfl,rfl,rfl⟩
  split at h
  ·injection h with e1 e2 e3 e4 e5 e6 e7;subst e5 e6 e7;exact⟨rfl,(putL_len ..).symm,rfl⟩
  split at h
  ·injection h with e1 e2 e3 e4 e5 e6 e7;subst e5 e6 e7;exact⟨rfl,rfl,by rw[P8];simp⟩
  ·injection h with e1 e2 e3 e4 e5 e6 e7;subst e5 e6 e7;exact⟨rfl,(putH_len ..).symm,rfl⟩
 ·injection h with e1 e2 e3 e4 e5 e6 e7;subst e5 e6 e7;exact⟨rfl,rfl,rfl⟩
def PlcN (N:Nat):Prop:=∀(t:Tm) (tok:ByteArray) (m:Nat),t.sz≤N→t.Ok→t.Fs→t.k13→tok.size≤140737488355328→Y9 Tryd.prog 36 [Ex t 1000 1001 1002,.d (.str tok),.d (.int (m:Int))] (S9 t 1000 1001 1002) (.tuple [Ex (Plc tok m t) 1000 1001 1002,.d (.bool (t.fits m))]) (S9 (Plc tok m t) 1000 1001 1002)
def AmgN (N:Nat):Prop:=∀(t:Tm) (tok:ByteArray) (m:Nat),t.tk=7→t.sz≤N→t.Ok→t.Fs→t.k13→tok.size≤140737488355328→Y9 Tryd.prog 53 [Ex t 1000 1001 1002,.d (.str tok),.d (.int (m:Int))] (S9 t 1000 1001 1002) (.tuple [Ex (Plc tok m t) 1000 1001 1002,.d (.bool (t.fits m))]) (S9 (Plc tok m t) 1000 1001 1002)
theorem plc_step (N:Nat) (ih:PlcN N) (iha:AmgN (N+1)):PlcN (N+1):=by
 intro t tok m hsz hO hS hK htok;have ham:=iha t tok m;obtain⟨R,hR⟩:∃R,Plc tok m t=R:=⟨_,rfl⟩
 obtain⟨q,hq⟩:∃q,t.fits m=q:=⟨_,rfl⟩
 rw[hR,hq]at ham⊢;obtain⟨M,hM⟩:∃M:Int,(m:Int)=M:=⟨_,rfl⟩
 rw[hM]at ham⊢;obtain⟨rk,rn,ra,rb,rvs,rxs,rcs⟩:=R;obtain⟨tk,tn,ta,tb,tvs,txs,tcs⟩:=t;have ham:=fun h=>ham h hsz hO hS hK htok
 simp only[Ex,S9]at ham⊢;have hxO:∀x∈txs,x.Ok:=fun x hx=>Tm.Zk.1 hO.2.2.1 x hx
 have hxS:∀x∈txs,x.Fs:=fun x hx=>Cq.1 hS.2.2.1 x hx
 have hxK:∀x∈txs,x.k13:=fun x hx=>k13L_iff.1 hK.2.1 x hx
 have hk13:=hK.1;obtain⟨o1,o2,o3,o4,o5⟩:=hO.vars;simp only[Tm.sz]at hsz;refine Y9.of Tryd.func36 rfl rfl (Nat.le_of_ble_eq_true rfl) ?_;show AWp _ _ (Zw _ Tryd.f36 _ _) (K5 104 _ _);refine AWp.rg [] [] ?_ (hr:=by conv=>lhs;simp[Tm.od,Tm.Q4,Cs.Q4]);refine AWp.rg [] [] ?_ (hr:=by conv=>lhs;simp[Tm.od,Tm.Q4,Cs.Q4]);by_cases q1:tk=3
 ·subst q1;refine AWp.rg [] [] ?_ (hr:=by conv=>lhs;simp[Tm.od,Tm.Q4,Cs.Q4]);refine AWp.cy ?_;by_cases q2:(txs.length:Int)=M
  ·have hlm:txs.length=m:=by omega
   have hqt:q=true:=by rw[←hq];simp[Tm.fits,hlm]
   subst hqt;refine AWp.rg [] [] ?_ (hr:=by conv=>lhs;simp[Tm.od,Tm.Q4,Cs.Q4,q2]);refine AWp.cy ?_;refine AWp.rg [] [] ?_ (hr:=by conv=>lhs;simp[Tm.od,Tm.Q4,Cs.Q4]);refine AWp.rg [] [] ?_ (hr:=by conv=>lhs;simp[Tm.od,Tm.Q4,Cs.Q4]);rw[show Plc tok m (.mk 3 tn ta tb tvs txs tcs)= .mk 12 tn ta tok tvs txs tcs from by simp[Plc,Tm.fits,Tm.put,hlm]]at hR;injection hR with e1 e2 e3 e4 e5 e6 e7;subst e1 e2 e3 e4 e5 e6 e7;refine AWp.ret ?_;try dsimp only[Qq,Q8]
   apply Zw.ret
   ·rfl
   ·conv=>lhs;simp[Qz,Tryd.results36]
   ·first|rfl|simp[Zz,AV.X7,Jq]
   ·simp[Zx,Tm.od,Tm.Q4,Cs.Q4]
  have hlm:¬txs.length=m:=by omega
  have hqt:q=false:=by rw[←hq];simp[Tm.fits,hlm]
  subst hqt;refine AWp.rg [] [] ?_ (hr:=by conv=>lhs;simp[Tm.od,Tm.Q4,Cs.Q4,q2]);refine AWp.cn ?_;refine AWp.skip ?_;refine AWp.rg [] [] ?_ (hr:=by conv=>lhs;simp[Tm.od,Tm.Q4,Cs.Q4]);rw[show Plc tok m (.mk 3 tn ta tb tvs txs tcs)= .mk 3 tn ta tb tvs txs tcs from by simp[Plc,Tm.fits,hlm]]at hR;injection hR with e1 e2 e3 e4 e5 e6 e7;subst e1 e2 e3 e4 e5 e6 e7;refine AWp.ret ?_;try dsimp only[Qq,Q8]
  apply Zw.ret
  ·rfl
  ·conv=>lhs;simp[Qz,Tryd.results36]
  ·first|rfl|simp[Zz,AV.X7,Jq]
  ·simp[Zx,Tm.od,Tm.Q4,Cs.Q4]
 refine AWp.rg [] [] ?_ (hr:=by conv=>lhs;simp[Tm.od,Tm.Q4,Cs.Q4,q1]);refine AWp.cn ?_;by_cases h6:tk=6
 ·obtain⟨x,y,hxy⟩:=hS.1 h6;subst h6 hxy;have hx1:=fun htk=>ih x tok m (by simp only[Tm.szs]at hsz;omega) (hxO x (by simp)) (hxS x (by simp)) (hxK x (by simp)) htk
  have hx2:=fun htk=>ih y tok m (by simp only[Tm.szs]at hsz;omega) (hxO y (by simp)) (hxS y (by simp)) (hxK y (by simp)) htk
  replace hx1:=hx1 htok;replace hx2:=hx2 htok;rw[hM]at hx1 hx2;obtain⟨q0,hq0⟩:∃q,x.fits m=q:=⟨_,rfl⟩
  obtain⟨qy,hqy⟩:∃q,y.fits m=q:=⟨_,rfl⟩
  rw[hq0]at hx1;rw[hqy]at hx2;obtain⟨z,hz⟩:∃z,Plc tok m x=z:=⟨_,rfl⟩
  obtain⟨u,hu⟩:∃z,Plc tok m y=z:=⟨_,rfl⟩
  rw[hz]at hx1;rw[hu]at hx2;have hxe:x.tk=x.tk:=rfl;have hxl:x.xs.length=x.xs.length:=rfl;have hfit:q=((decide (x.tk=3) && decide (x.xs.length=m))||qy):=by rw[←hq,←hqy];simp[Tm.fits,Tm.fitL,Tm.fitH]
  have hput:(x.tk=3∧x.xs.length=m)→Plc tok m (.mk 6 tn ta tb tvs [x,y] tcs)= .mk 6 tn ta tb tvs [z,y] tcs:=fun h=>by
   rw[←hz];simp[Plc,Tm.fits,Tm.fitL,Tm.fitH,Tm.put,Tm.Cv,Tm.Rk,h.1,h.2];obtain⟨xk,xn,xa,xb,xvs,xxs,xcs⟩:=x;have h1:xk=3:=h.1;have h2:xxs.length=m:=h.2;simp[Tm.fits,h1,h2]
  have hput2:¬(x.tk=3∧x.xs.length=m)→Plc tok m (.mk 6 tn ta tb tvs [x,y] tcs)= .mk 6 tn ta tb tvs [x,u] tcs:=fun h=>by
   rw[←hu];have h':(decide (x.tk=3) && decide (x.xs.length=m))=false:=by simpa using h
   simp only[Plc,Tm.fits,Tm.fitL,Tm.fitH,Tm.put,Tm.Cv,Tm.Rk,h',h];cases hy:y.fits m<;> simp
  obtain⟨xk,xn,xa,xb,xvs,xxs,xcs⟩:=x;obtain⟨yk,yn,ya,yb,yvs,yxs,ycs⟩:=y;obtain⟨zk,zn,za,zb,zvs,zxs,zcs⟩:=z;obtain⟨uk,un,ua,ub,uvs,uxs,ucs⟩:=u;simp only[Ex,S9,Tm.tk,Tm.xs]at hx1 hx2 hput hput2 hfit;obtain⟨z1,z2,z3⟩:=Plc_len hz;obtain⟨u1,u2,u3⟩:=Plc_len hu;obtain⟨p1,p2,p3,p4,p5⟩:=(hxO (.mk xk xn xa xb xvs xxs xcs) (by simp)).vars;refine AWp.rg [] [] ?_ (hr:=by conv=>lhs;simp[Tm.od,Tm.Q4,Cs.Q4]);refine AWp.cy ?_;by_cases q2:xk=3
  ·by_cases hcm:xxs.length=m
   ·have q3:(xxs.length:Int)=M:=by omega
    refine AWp.rg [] [] ?_ (hr:=by conv=>lhs;simp[Tm.od,Tm.Q4,Cs.Q4,q2,q3]);refine AWp.cy ?_;rw[hput ⟨q2,hcm⟩]at hR;have hqt:q=true:=by rw[hfit];simp[q2,hcm]
    subst hqt;injection hR with e1 e2 e3 e4 e5 e6 e7;subst e1 e2 e3 e4 e5 e6 e7;refine AWp.le (Le.Yk 1001 500 0 4 (by conv=>lhs;simp) (by conv=>lhs;simp[Tm.od,Tm.Q4,Cs.Q4]) (by conv=>lhs;simp[Tm.od,Tm.Q4,Cs.Q4]) rfl rfl (by simp)) ?_;refine AWp.le (Le.Yk 1001 501 0 5 (by conv=>lhs;simp) (by conv=>lhs;simp[Tm.od,Tm.Q4,Cs.Q4]) (by conv=>lhs;simp[Tm.od,Tm.Q4,Cs.Q4]) rfl rfl (by simp)) ?_;refine AWp.le (Le.Yk 1001 502 0 6 (by conv=>lhs;simp) (by conv=>lhs;simp[Tm.od,Tm.Q4,Cs.Q4]) (by conv=>lhs;simp[Tm.od,Tm.Q4,Cs.Q4]) rfl rfl (by simp)) ?_;refine AWp.dw [] [.c [(1000,500),(1001,501),(1002,502)] [.agg [.d (.int xk),.d (.int xn),.d (.str xa),.d (.str xb),.arr 1000 0 xvs.length,.arr 1001 0 xxs.length,.arr 1002 0 xcs.length],.d (.str tok),.d (.int M)] [(1000,.raw (.own 9 1 (xvs.map Kj) [])),(1001,.raw (.own 32 7 (xxs.map Tm.od) [])),(1002,.raw (.own 42 9 (xcs.map Cs.od) []))] (.tuple [.agg [.d (.int zk),.d (.int zn),.d (.str za),.d (.str zb),.arr 1000 0 zvs.length,.arr 1001 0 zxs.length,.arr 1002 0 zcs.length],.d (.bool q0)]) [(1000,.raw (.own 9 1 (zvs.map Kj) [])),(1001,.raw (.own 32 7 (zxs.map Tm.od) [])),(1002,.raw (.own 42 9 (zcs.map Cs.od) []))]] mixed ?_ (hr:=by conv=>lhs;simp[Tm.od,Tm.Q4,Cs.Q4]);refine AWp.le (Le.X8 1001 500 0 4 (ty:=32) (sz:=7) (by conv=>lhs;simp[Tm.od,Tm.Q4,Cs.Q4]) (by conv=>lhs;simp[Tm.od,Tm.Q4,Cs.Q4]) (by conv=>lhs;simp[Tm.od,Tm.Q4,Cs.Q4]) (by simp;rfl) (by simp) rfl rfl) ?_;refine AWp.le (Le.X8 1001 501 0 5 (ty:=32) (sz:=7) (by conv=>lhs;simp[Tm.od,Tm.Q4,Cs.Q4]) (by conv=>lhs;simp[Tm.od,Tm.Q4,Cs.Q4]) (by conv=>lhs;simp[Tm.od,Tm.Q4,Cs.Q4]) (by simp;rfl) (by simp) rfl rfl) ?_;refine AWp.le (Le.X8 1001 502 0 6 (ty:=32) (sz:=7) (by conv=>lhs;simp[Tm.od,Tm.Q4,Cs.Q4]) (by conv=>lhs;simp[Tm.od,Tm.Q4,Cs.Q4]) (by conv=>lhs;simp[Tm.od,Tm.Q4,Cs.Q4]) (by simp;rfl) (by simp) rfl rfl) ?_;refine AWp.rg [] [] ?_ (hr:=by conv=>lhs;simp[Tm.od,Tm.Q4,Cs.Q4]);refine AWp.ret ?_;try dsimp only[Qq,Q8]
    apply Zw.ret
    ·rfl
    ·conv=>lhs;simp[Qz,Tryd.results36]
    ·first|rfl|simp[Zz,AV.X7,Jq]
    ·simp[Zx,Tm.od,Tm.Q4,Cs.Q4,q2]
   have q3:¬(xxs.length:Int)=M:=by omega
   refine AWp.rg [] [] ?_ (hr:=by conv=>lhs;simp[Tm.od,Tm.Q4,Cs.Q4,q2,q3]);refine AWp.cn ?_;refine AWp.skip ?_;rw[hput2 (fun h=>hcm h.2)]at hR;have hqe:qy=q:=by
    rw[hfit];simp[hcm]
   rw[hqe]at hx2;injection hR with e1 e2 e3 e4 e5 e6 e7;subst e1 e2 e3 e4 e5 e6 e7;refine AWp.le (Le.Yk 1001 500 1 4 (by conv=>lhs;simp) (by conv=>lhs;simp[Tm.od,Tm.Q4,Cs.Q4]) (by conv=>lhs;simp[Tm.od,Tm.Q4,Cs.Q4]) rfl rfl (by simp)) ?_;refine AWp.le (Le.Yk 1001 501 1 5 (by conv=>lhs;simp) (by conv=>lhs;simp[Tm.od,Tm.Q4,Cs.Q4]) (by conv=>lhs;simp[Tm.od,Tm.Q4,Cs.Q4]) rfl rfl (by simp)) ?_;refine AWp.le (Le.Yk 1001 502 1 6 (by conv=>lhs;simp) (by conv=>lhs;simp[Tm.od,Tm.Q4,Cs.Q4]) (by conv=>lhs;simp[Tm.od,Tm.Q4,Cs.Q4]) rfl rfl (by simp)) ?_;refine AWp.rg [] [.c [(1000,500),(1001,501),(1002,502)] [.agg [.d (.int yk),.d (.int yn),.d (.str ya),.d (.str yb),.arr 1000 0 yvs.length,.arr 1001 0 yxs.length,.arr 1002 0 ycs.length],.d (.str tok),.d (.int M)] [(1000,.raw (.own 9 1 (yvs.map Kj) [])),(1001,.raw (.own 32 7 (yxs.map Tm.od) [])),(1002,.raw (.own 42 9 (ycs.map Cs.od) []))] (.tuple [.agg [.d (.int uk),.d (.int un),.d (.str ua),.d (.str ub),.arr 1000 0 uvs.length,.arr 1001 0 uxs.length,.arr 1002 0 ucs.length],.d (.bool q)]) [(1000,.raw (.own 9 1 (uvs.map Kj) [])),(1001,.raw (.own 32 7 (uxs.map Tm.od) [])),(1002,.raw (.own 42 9 (ucs.map Cs.od) []))]] ?_ (hr:=by conv=>lhs;simp[Tm.od,Tm.Q4,Cs.Q4]);refine AWp.rg [] [] ?_ (hr:=by conv=>lhs;simp[Tm.od,Tm.Q4,Cs.Q4]);refine AWp.le (Le.X8 1001 500 1 4 (ty:=32) (sz:=7) (by conv=>lhs;simp[Tm.od,Tm.Q4,Cs.Q4]) (by conv=>lhs;simp[Tm.od,Tm.Q4,Cs.Q4]) (by conv=>lhs;simp[Tm.od,Tm.Q4,Cs.Q4]) (by simp;rfl) (by simp) rfl rfl) ?_;refine AWp.le (Le.X8 1001 501 1 5 (ty:=32) (sz:=7) (by conv=>lhs;simp[Tm.od,Tm.Q4,Cs.Q4]) (by conv=>lhs;simp[Tm.od,Tm.Q4,Cs.Q4]) (by conv=>lhs;simp[Tm.od,Tm.Q4,Cs.Q4]) (by simp;rfl) (by simp) rfl rfl) ?_;refine AWp.le (Le.X8 1001 502 1 6 (ty:=32) (sz:=7) (by conv=>lhs;simp[Tm.od,Tm.Q4,Cs.Q4]) (by conv=>lhs;simp[Tm.od,Tm.Q4,Cs.Q4]) (by conv=>lhs;simp[Tm.od,Tm.Q4,Cs.Q4]) (by simp;rfl) (by simp) rfl rfl) ?_;refine AWp.rg [] [] ?_ (hr:=by conv=>lhs;simp[Tm.od,Tm.Q4,Cs.Q4]);refine AWp.ret ?_;try dsimp only[Qq,Q8]
   apply Zw.ret
   ·rfl
   ·conv=>lhs;simp[Qz,Tryd.results36]
   ·first|rfl|simp[Zz,AV.X7,Jq]
   ·simp[Zx,Tm.od,Tm.Q4,Cs.Q4,q2]
  refine AWp.rg [] [] ?_ (hr:=by conv=>lhs;simp[Tm.od,Tm.Q4,Cs.Q4,q2]);refine AWp.cn ?_;refine AWp.skip ?_;rw[hput2 (fun h=>q2 h.1)]at hR;have hqe:qy=q:=by
   rw[hfit];simp[q2]
  rw[hqe]at hx2;injection hR with e1 e2 e3 e4 e5 e6 e7;subst e1 e2 e3 e4 e5 e6 e7;refine AWp.le (Le.Yk 1001 500 1 4 (by conv=>lhs;simp) (by conv=>lhs;simp[Tm.od,Tm.Q4,Cs.Q4]) (by conv=>lhs;simp[Tm.od,Tm.Q4,Cs.Q4]) rfl rfl (by simp)) ?_;refine AWp.le (Le.Yk 1001 501 1 5 (by conv=>lhs;simp) (by conv=>lhs;simp[Tm.od,Tm.Q4,Cs.Q4]) (by conv=>lhs;simp[Tm.od,Tm.Q4,Cs.Q4]) rfl rfl (by simp)) ?_;refine AWp.le (Le.Yk 1001 502 1 6 (by conv=>lhs;simp) (by conv=>lhs;simp[Tm.od,Tm.Q4,Cs.Q4]) (by conv=>lhs;simp[Tm.od,Tm.Q4,Cs.Q4]) rfl rfl (by simp)) ?_;refine AWp.rg [] [.c [(1000,500),(1001,501),(1002,502)] [.agg [.d (.int yk),.d (.int yn),.d (.str ya),.d (.str yb),.arr 1000 0 yvs.length,.arr 1001 0 yxs.length,.arr 1002 0 ycs.length],.d (.str tok),.d (.int M)] [(1000,.raw (.own 9 1 (yvs.map Kj) [])),(1001,.raw (.own 32 7 (yxs.map Tm.od) [])),(1002,.raw (.own 42 9 (ycs.map Cs.od) []))] (.tuple [.agg [.d (.int uk),.d (.int un),.d (.str ua),.d (.str ub),.arr 1000 0 uvs.length,.arr 1001 0 uxs.length,.arr 1002 0 ucs.length],.d (.bool q)]) [(1000,.raw (.own 9 1 (uvs.map Kj) [])),(1001,.raw (.own 32 7 (uxs.map Tm.od) [])),(1002,.raw (.own 42 9 (ucs.map Cs.od) []))]] ?_ (hr:=by conv=>lhs;simp[Tm.od,Tm.Q4,Cs.Q4]);refine AWp.rg [] [] ?_ (hr:=by conv=>lhs;simp[Tm.od,Tm.Q4,Cs.Q4]);refine AWp.le (Le.X8 1001 500 1 4 (ty:=32) (sz:=7) (by conv=>lhs;simp[Tm.od,Tm.Q4,Cs.Q4]) (by conv=>lhs;simp[Tm.od,Tm.Q4,Cs.Q4]) (by conv=>lhs;simp[Tm.od,Tm.Q4,Cs.Q4]) (by simp;rfl) (by simp) rfl rfl) ?_;refine AWp.le (Le.X8 1001 501 1 5 (ty:=32) (sz:=7) (by conv=>lhs;simp[Tm.od,Tm.Q4,Cs.Q4]) (by conv=>lhs;simp[Tm.od,Tm.Q4,Cs.Q4]) (by conv=>lhs;simp[Tm.od,Tm.Q4,Cs.Q4]) (by simp;rfl) (by simp) rfl rfl) ?_;refine AWp.le (Le.X8 1001 502 1 6 (ty:=32) (sz:=7) (by conv=>lhs;simp[Tm.od,Tm.Q4,Cs.Q4]) (by conv=>lhs;simp[Tm.od,Tm.Q4,Cs.Q4]) (by conv=>lhs;simp[Tm.od,Tm.Q4,Cs.Q4]) (by simp;rfl) (by simp) rfl rfl) ?_;refine AWp.rg [] [] ?_ (hr:=by conv=>lhs;simp[Tm.od,Tm.Q4,Cs.Q4]);refine AWp.ret ?_;try dsimp only[Qq,Q8]
  apply Zw.ret
  ·rfl
  ·conv=>lhs;simp[Qz,Tryd.results36]
  ·first|rfl|simp[Zz,AV.X7,Jq]
  ·simp[Zx,Tm.od,Tm.Q4,Cs.Q4,q2]
 refine AWp.rg [] [] ?_ (hr:=by conv=>lhs;simp[Tm.od,Tm.Q4,Cs.Q4,h6]);refine AWp.cn ?_;by_cases h8:tk=8∨tk=9∨tk=10∨tk=11∨tk=13
 ·obtain⟨x,hxy⟩:=hS.2.1 ⟨by omega,by omega⟩;subst hxy;have hx2:=ih x tok m (by simp only[Tm.szs]at hsz;omega) (hxO x (by simp)) (hxS x (by simp)) (hxK x (by simp)) htok;rw[hM]at hx2;have hqe:x.fits m=q:=by
   rw[←hq,Tm.fits,if_neg (by omega),if_neg (by omega),if_neg (by omega),if_pos ⟨by omega,by omega⟩,Tm.fitH]
  rw[hqe]at hx2;obtain⟨u,hu⟩:∃z,Plc tok m x=z:=⟨_,rfl⟩
  rw[hu]at hx2;have hput2:Plc tok m (.mk tk tn ta tb tvs [x] tcs)= .mk tk tn ta tb tvs [u] tcs:=by
   have hf:Tm.fits m (.mk tk tn ta tb tvs [x] tcs)=x.fits m:=hq.trans hqe.symm;rw[←hu];unfold Plc;rw[hf];split
   ·rename_i h;rw[Tm.put,if_neg (by rw[hf,h];simp),if_neg (by omega),if_neg (by omega),if_neg (by omega),Tm.Rk]
   ·rfl
  rw[hput2]at hR;injection hR with e1 e2 e3 e4 e5 e6 e7;subst e1 e2 e3 e4 e5 e6 e7;obtain⟨xk,xn,xa,xb,xvs,xxs,xcs⟩:=x;obtain⟨uk,un,ua,ub,uvs,uxs,ucs⟩:=u;simp only[Ex,S9]at hx2;obtain⟨u1,u2,u3⟩:=Plc_len hu;try dsimp only[Qq,Q8]
  refine AWp.seqMid ⟨104,[(1,.d (.str tok)),(2,.d (.int M)),(3,.ptr 3 0),(6,.ptr 6 0),(73,.d (.bool true))],[(1000,some (.raw (.own 9 1 (tvs.map Kj) []))),(1001,some (.raw (.own 32 7 ([Tm.mk xk xn xa xb xvs xxs xcs].map Tm.od) []))),(1002,some (.raw (.own 42 9 (tcs.map Cs.od) []))),(3,some (.blk 32 [.d (.int tk),.d (.int tn),.d (.str ta),.d (.str tb),.arr 1000 0 tvs.length,.arr 1001 0 [Tm.mk xk xn xa xb xvs xxs xcs].length,.arr 1002 0 tcs.length])),(6,some (.blk 32 [.d (.int 0),.d (.int 0),.d (.str ByteArray.empty),.d (.str ByteArray.empty),.lit (.slice none 0 0),.lit (.slice none 0 0),.lit (.slice none 0 0)]))]⟩ ?_ ?_
  ·rcases h8 with h|h|h|h|h
   ·skip
    refine AWp.rg [] [] ?_ (hr:=by conv=>lhs;simp[Tm.od,Tm.Q4,Cs.Q4,h]);refine AWp.cy ?_;refine AWp.skip ?_;try dsimp only[Qq,Q8]
    exact Le.sub (by simp[h]) (by simp[Tm.od,Tm.Q4,Cs.Q4,h])
   ·skip
    refine AWp.rg [] [] ?_ (hr:=by conv=>lhs;simp[Tm.od,Tm.Q4,Cs.Q4,h]);refine AWp.cn ?_;refine AWp.rg [] [] ?_ (hr:=by conv=>lhs;simp[Tm.od,Tm.Q4,Cs.Q4,h]);refine AWp.cy ?_;refine AWp.skip ?_;try dsimp only[Qq,Q8]
    exact Le.sub (by simp[h]) (by simp[Tm.od,Tm.Q4,Cs.Q4,h])
   ·skip
    refine AWp.rg [] [] ?_ (hr:=by conv=>lhs;simp[Tm.od,Tm.Q4,Cs.Q4,h]);refine AWp.cn ?_;refine AWp.rg [] [] ?_ (hr:=by conv=>lhs;simp[Tm.od,Tm.Q4,Cs.Q4,h]);refine AWp.cn ?_;refine AWp.rg [] [] ?_ (hr:=by conv=>lhs;simp[Tm.od,Tm.Q4,Cs.Q4,h]);refine AWp.cy ?_;refine AWp.skip ?_;try dsimp only[Qq,Q8]
    exact Le.sub (by simp[h]) (by simp[Tm.od,Tm.Q4,Cs.Q4,h])
   ·skip
    refine AWp.rg [] [] ?_ (hr:=by conv=>lhs;simp[Tm.od,Tm.Q4,Cs.Q4,h]);refine AWp.cn ?_;refine AWp.rg [] [] ?_ (hr:=by conv=>lhs;simp[Tm.od,Tm.Q4,Cs.Q4,h]);refine AWp.cn ?_;refine AWp.rg [] [] ?_ (hr:=by conv=>lhs;simp[Tm.od,Tm.Q4,Cs.Q4,h]);refine AWp.cn ?_;refine AWp.rg [] [] ?_ (hr:=by conv=>lhs;simp[Tm.od,Tm.Q4,Cs.Q4,h]);refine AWp.cy ?_;refine AWp.skip ?_;try dsimp only[Qq,Q8]
    exact Le.sub (by simp[h]) (by simp[Tm.od,Tm.Q4,Cs.Q4,h])
   ·skip
    refine AWp.rg [] [] ?_ (hr:=by conv=>lhs;simp[Tm.od,Tm.Q4,Cs.Q4,h]);refine AWp.cn ?_;refine AWp.rg [] [] ?_ (hr:=by conv=>lhs;simp[Tm.od,Tm.Q4,Cs.Q4,h]);refine AWp.cn ?_;refine AWp.rg [] [] ?_ (hr:=by conv=>lhs;simp[Tm.od,Tm.Q4,Cs.Q4,h]);refine AWp.cn ?_;refine AWp.rg [] [] ?_ (hr:=by conv=>lhs;simp[Tm.od,Tm.Q4,Cs.Q4,h]);refine AWp.cn ?_;refine AWp.rg [] [] ?_ (hr:=by conv=>lhs;simp[Tm.od,Tm.Q4,Cs.Q4,h]);try dsimp only[Qq,Q8]
    exact Le.sub (by simp[h]) (by simp[Tm.od,Tm.Q4,Cs.Q4,h])
  refine AWp.cy ?_;refine AWp.le (Le.Yk 1001 500 0 4 (by conv=>lhs;simp) (by conv=>lhs;simp[Tm.od,Tm.Q4,Cs.Q4]) (by conv=>lhs;simp[Tm.od,Tm.Q4,Cs.Q4]) rfl rfl (by simp)) ?_;refine AWp.le (Le.Yk 1001 501 0 5 (by conv=>lhs;simp) (by conv=>lhs;simp[Tm.od,Tm.Q4,Cs.Q4]) (by conv=>lhs;simp[Tm.od,Tm.Q4,Cs.Q4]) rfl rfl (by simp)) ?_;refine AWp.le (Le.Yk 1001 502 0 6 (by conv=>lhs;simp) (by conv=>lhs;simp[Tm.od,Tm.Q4,Cs.Q4]) (by conv=>lhs;simp[Tm.od,Tm.Q4,Cs.Q4]) rfl rfl (by simp)) ?_;refine AWp.rg [] [.c [(1000,500),(1001,501),(1002,502)] [.agg [.d (.int xk),.d (.int xn),.d (.str xa),.d (.str xb),.arr 1000 0 xvs.length,.arr 1001 0 xxs.length,.arr 1002 0 xcs.length],.d (.str tok),.d (.int M)] [(1000,.raw (.own 9 1 (xvs.map Kj) [])),(1001,.raw (.own 32 7 (xxs.map Tm.od) [])),(1002,.raw (.own 42 9 (xcs.map Cs.od) []))] (.tuple [.agg [.d (.int uk),.d (.int un),.d (.str ua),.d (.str ub),.arr 1000 0 uvs.length,.arr 1001 0 uxs.length,.arr 1002 0 ucs.length],.d (.bool q)]) [(1000,.raw (.own 9 1 (uvs.map Kj) [])),(1001,.raw (.own 32 7 (uxs.map Tm.od) [])),(1002,.raw (.own 42 9 (ucs.map Cs.od) []))]] ?_ (hr:=by conv=>lhs;simp[Tm.od,Tm.Q4,Cs.Q4]);refine AWp.rg [] [] ?_ (hr:=by conv=>lhs;simp[Tm.od,Tm.Q4,Cs.Q4]);refine AWp.le (Le.X8 1001 500 0 4 (ty:=32) (sz:=7) (by conv=>lhs;simp[Tm.od,Tm.Q4,Cs.Q4]) (by conv=>lhs;simp[Tm.od,Tm.Q4,Cs.Q4]) (by conv=>lhs;simp[Tm.od,Tm.Q4,Cs.Q4]) (by simp;rfl) (by simp) rfl rfl) ?_;refine AWp.le (Le.X8 1001 501 0 5 (ty:=32) (sz:=7) (by conv=>lhs;simp[Tm.od,Tm.Q4,Cs.Q4]) (by conv=>lhs;simp[Tm.od,Tm.Q4,Cs.Q4]) (by conv=>lhs;simp[Tm.od,Tm.Q4,Cs.Q4]) (by simp;rfl) (by simp) rfl rfl) ?_;refine AWp.le (Le.X8 1001 502 0 6 (ty:=32) (sz:=7) (by conv=>lhs;simp[Tm.od,Tm.Q4,Cs.Q4]) (by conv=>lhs;simp[Tm.od,Tm.Q4,Cs.Q4]) (by conv=>lhs;simp[Tm.od,Tm.Q4,Cs.Q4]) (by simp;rfl) (by simp) rfl rfl) ?_;refine AWp.rg [] [] ?_ (hr:=by conv=>lhs;simp[Tm.od,Tm.Q4,Cs.Q4]);refine AWp.ret ?_;try dsimp only[Qq,Q8]
  apply Zw.ret
  ·rfl
  ·conv=>lhs;simp[Qz,Tryd.results36]
  ·first|rfl|simp[Zz,AV.X7,Jq]
  ·simp[Zx,Tm.od,Tm.Q4,Cs.Q4]
 have g8:¬tk=8:=fun h=>h8 (by omega)
 have g9:¬tk=9:=fun h=>h8 (by omega)
 have g10:¬tk=10:=fun h=>h8 (by omega)
 have g11:¬tk=11:=fun h=>h8 (by omega)
 have g13:¬tk=13:=fun h=>h8 (by omega)
 refine AWp.rg [] [] ?_ (hr:=by conv=>lhs;simp[Tm.od,Tm.Q4,Cs.Q4,g8]);refine AWp.cn ?_;refine AWp.rg [] [] ?_ (hr:=by conv=>lhs;simp[Tm.od,Tm.Q4,Cs.Q4,g9]);refine AWp.cn ?_;refine AWp.rg [] [] ?_ (hr:=by conv=>lhs;simp[Tm.od,Tm.Q4,Cs.Q4,g10]);refine AWp.cn ?_;refine AWp.rg [] [] ?_ (hr:=by conv=>lhs;simp[Tm.od,Tm.Q4,Cs.Q4,g11]);refine AWp.cn ?_;refine AWp.rg [] [] ?_ (hr:=by conv=>lhs;simp[Tm.od,Tm.Q4,Cs.Q4,g13]);refine AWp.cn ?_;by_cases h7:tk=7
 ·replace ham:=ham h7;obtain⟨u1,u2,u3⟩:=Plc_len hR;refine AWp.rg [] [] ?_ (hr:=by conv=>lhs;simp[Tm.od,Tm.Q4,Cs.Q4,h7]);refine AWp.cy ?_;refine AWp.rg [] [.c [(1000,1000),(1001,1001),(1002,1002)] [.agg [.d (.int tk),.d (.int tn),.d (.str ta),.d (.str tb),.arr 1000 0 tvs.length,.arr 1001 0 txs.length,.arr 1002 0 tcs.length],.d (.str tok),.d (.int M)] [(1000,.raw (.own 9 1 (tvs.map Kj) [])),(1001,.raw (.own 32 7 (txs.map Tm.od) [])),(1002,.raw (.own 42 9 (tcs.map Cs.od) []))] (.tuple [.agg [.d (.int rk),.d (.int rn),.d (.str ra),.d (.str rb),.arr 1000 0 rvs.length,.arr 1001 0 rxs.length,.arr 1002 0 rcs.length],.d (.bool q)]) [(1000,.raw (.own 9 1 (rvs.map Kj) [])),(1001,.raw (.own 32 7 (rxs.map Tm.od) [])),(1002,.raw (.own 42 9 (rcs.map Cs.od) []))]] ?_ (hr:=by conv=>lhs;simp[Tm.od,Tm.Q4,Cs.Q4]);refine AWp.ret ?_;try dsimp only[Qq,Q8]
  apply Zw.ret
  ·rfl
  ·conv=>lhs;simp[Qz,Tryd.results36]
  ·first|rfl|simp[Zz,AV.X7,Jq]
  ·simp[Zx,Tm.od,Tm.Q4,Cs.Q4]
 have hqf:Tm.fits m (.mk tk tn ta tb tvs txs tcs)=false:=by
  rw[Tm.fits,if_neg q1,if_neg h6,if_neg h7,if_neg (by omega)]
 rw[hqf]at hq;subst hq;rw[show Plc tok m (.mk tk tn ta tb tvs txs tcs)= .mk tk tn ta tb tvs txs tcs from by simp[Plc,hqf]]at hR;injection hR with e1 e2 e3 e4 e5 e6 e7;subst e1 e2 e3 e4 e5 e6 e7;refine AWp.rg [] [] ?_ (hr:=by conv=>lhs;simp[Tm.od,Tm.Q4,Cs.Q4,h7]);refine AWp.cn ?_;refine AWp.skip ?_;refine AWp.rg [] [] ?_ (hr:=by conv=>lhs;simp[Tm.od,Tm.Q4,Cs.Q4]);refine AWp.ret ?_;try dsimp only[Qq,Q8]
 apply Zw.ret
 ·rfl
 ·conv=>lhs;simp[Qz,Tryd.results36]
 ·first|rfl|simp[Zz,AV.X7,Jq]
 ·simp[Zx,Tm.od,Tm.Q4,Cs.Q4]
def intRp (j:Nat):List D:=[.int (j:Int)]
def Cs.plc (tok:ByteArray) (m:Nat):Cs→Cs
 | .mk t ws y=>.mk t ws (Plc tok m y)
def Cs.wr (tok:ByteArray):Cs→Cs
 | .mk t ws y=>.mk t ws (.mk 13 0 .empty tok [] [y] [])
def I6 (tok:ByteArray) (l:List Cs) (j:Nat):List Cs:=match l[j]? with
 |some c=>l.set j (c.wr tok)
 |none=>l
theorem wrapAt_len (tok:ByteArray) (l:List Cs) (j:Nat):(I6 tok l j).length=l.length:=by
 unfold I6;split<;> simp
theorem wrapF_len (tok:ByteArray):∀(l:List Nat) (W:List Cs),(l.foldl (I6 tok) W).length=W.length
 |[],W=>rfl
 |a::l,W=>by rw[List.foldl_cons,wrapF_len tok l,wrapAt_len]
def Nq (m:Nat):List Cs→Nat→List Nat
 |[],_=>[]
 |c::r,k=>if c.fits m=true then Nq m r (k+1)else k::Nq m r (k+1)
theorem notIx_snoc (m:Nat) (c:Cs):∀(l:List Cs) (k:Nat),Nq m (l++[c]) k=Nq m l k++(if c.fits m=true then[]else[k+l.length])
 |[],k=>by simp[Nq]
 |d::l,k=>by
  simp only[List.cons_append,Nq,notIx_snoc m c l (k+1),List.length_cons];rw[show k+1+l.length=k+(l.length+1)from by omega];split<;> simp
theorem notIx_lt {m:Nat} {j:Nat}:∀{l:List Cs} {k:Nat},j∈Nq m l k→j<k+l.length
 |[],k,h=>by cases h
 |c::l,k,h=>by
  unfold Nq at h;have:=@notIx_lt m j l (k+1);simp only[List.length_cons];split at h
  ·have:=this h;omega
  ·rcases List.mem_cons.1 h with rfl|h
   ·omega
   ·have:=this h;omega
theorem notIx_len (m:Nat):∀(l:List Cs) (k:Nat),(Nq m l k).length≤l.length
 |[],k=>by simp[Nq]
 |c::l,k=>by
  have:=notIx_len m l (k+1);unfold Nq;split
  ·simp only[List.length_cons];omega
  ·simp only[List.length_cons];omega
theorem wrapAll (tok:ByteArray) (m:Nat):∀(cs pre:List Cs),(Nq m cs pre.length).foldl (I6 tok) (pre++cs.map (Cs.plc tok m))=pre++cs.map (Cs.put tok m)
 |[],pre=>by simp[Nq]
 | .mk t ws y::cs,pre=>by
  have ih:=wrapAll tok m cs (pre++[Cs.put tok m (.mk t ws y)]);rw[List.length_append,List.length_singleton]at ih;unfold Nq;split
  ·rename_i h;have e:Cs.plc tok m (.mk t ws y)=Cs.put tok m (.mk t ws y):=by
    have h':y.fits m=true:=by rw[Cs.fits]at h;exact h
    simp[Cs.plc,Cs.put,Plc,h']
   rw[List.map_cons,List.map_cons,e];simpa using ih
  ·rename_i h;have h':y.fits m=false:=by rw[Cs.fits]at h;simpa using h
   have e:(Cs.plc tok m (.mk t ws y)).wr tok=Cs.put tok m (.mk t ws y):=by
    obtain⟨k,n,a,b,vs,xs,ds⟩:=y;simp[Cs.plc,Cs.put,Plc,h',Cs.wr,Tm.put]
   rw[List.foldl_cons,List.map_cons,List.map_cons];have e2:I6 tok (pre++Cs.plc tok m (.mk t ws y)::cs.map (Cs.plc tok m)) pre.length=(pre++[Cs.put tok m (.mk t ws y)])++cs.map (Cs.plc tok m):=by
    unfold I6;rw[List.getElem?_append_right (Nat.le_refl _),Nat.sub_self];simp only[List.getElem?_cons_zero];rw[e];simp
   rw[e2,ih];simp
theorem pl_id {tok:ByteArray} {m:Nat}:∀{cs:List Cs},cs.any (Cs.fits m)=false→cs.map (Cs.plc tok m)=cs
 |[],_=>rfl
 | .mk t ws y::cs,h=>by
  simp only[List.any_cons,Bool.or_eq_false_iff]at h;have h1:y.fits m=false:=by have:=h.1;rw[Cs.fits]at this;exact this
  rw[List.map_cons,pl_id h.2];simp[Cs.plc,Plc,h1]
theorem amg_step (N:Nat) (ih:PlcN N):AmgN (N+1):=by
 intro t tok m h7 hsz hO hS hK htok;obtain⟨tk,tn,ta,tb,tvs,txs,tcs⟩:=t;have h7:tk=7:=h7;subst h7;have hcO:∀x∈tcs,x.Ok:=fun x hx=>Cs.Zk.1 hO.2.2.2 x hx
 have hcS:∀x∈tcs,x.Fs:=fun x hx=>Dk.1 hS.2.2.2 x hx
 have hcK:∀x∈tcs,x.k13:=fun x hx=>Pw.1 hK.2.2 x hx
 obtain⟨o1,o2,o3,o4,o5⟩:=hO.vars;simp only[Tm.sz]at hsz;have hfit:Tm.fits m (.mk 7 tn ta tb tvs txs tcs)=tcs.any (Cs.fits m):=by rw[←fitA_any];simp[Tm.fits]
 have hplc:Plc tok m (.mk 7 tn ta tb tvs txs tcs)= .mk 7 tn ta tb tvs txs (if tcs.any (Cs.fits m)=true then tcs.map (Cs.put tok m)else tcs):=by
  unfold Plc;rw[hfit];split
  ·rename_i h;rw[Tm.put,if_neg (by rw[hfit,h];simp),if_neg (by decide),if_neg (by decide),if_pos rfl,P8]
  ·rfl
 rw[hplc,hfit];obtain⟨M,hM⟩:∃M:Int,(m:Int)=M:=⟨_,rfl⟩
 rw[hM];simp only[Ex,S9];have hlen2:(if tcs.any (Cs.fits m)=true then tcs.map (Cs.put tok m)else tcs).length=tcs.length:=by split<;> simp
 rw[hlen2];refine Y9.of Tryd.func53 rfl rfl (Nat.le_of_ble_eq_true rfl) ?_;show AWp _ _ (Zw _ Tryd.f53 _ _) (K5 74 _ _);refine AWp.rg [] [] ?_ (hr:=by conv=>lhs;simp[Tm.od,Tm.Q4,Cs.Q4]);refine AWp.rg [] [] ?_ (hr:=by conv=>lhs;simp[Tm.od,Tm.Q4,Cs.Q4]);refine AWp.rg [] [] ?_ (hr:=by conv=>lhs;simp[Tm.od,Tm.Q4,Cs.Q4]);refine AWp.rg [] [] ?_ (hr:=by conv=>lhs;simp[Tm.od,Tm.Q4,Cs.Q4]);repeat (first|refine AWp.seq ?_|refine AWp.block ?_)
 refine AWp.le (Le.low [400] [] (fr:=[(1,.d (.str tok)),(2,.d (.int M)),(3,.ptr 3 0),(6,.ptr 6 0),(8,.d (.bool false)),(9,.arr 400 0 ([]:List Nat).length),(17,.d (.int (tcs.length:Int))),(18,.d (.int (0:Int)))]) (mem:=[(1000,some (.raw (.own 9 1 (tvs.map Kj) []))),(1001,some (.raw (.own 32 7 (txs.map Tm.od) []))),(1002,some (.raw (.own 42 9 (tcs.map Cs.od) []))),(3,some (.blk 32 [.d (.int 7),.d (.int tn),.d (.str ta),.d (.str tb),.arr 1000 0 tvs.length,.arr 1001 0 txs.length,.arr 1002 0 tcs.length])),(6,some (.blk 32 [.d (.int 0),.d (.int 0),.d (.str ByteArray.empty),.d (.str ByteArray.empty),.lit (.slice none 0 0),.lit (.slice none 0 0),.lit (.slice none 0 0)])),(400,some (.arr 3 1 (([]:List Nat).map intRp)))]) rfl (by simp) (by simp)) ?_;refine AWp.loop (σ:=fun u:{u:Nat×List Cs×Bool×List Nat // u.1≤tcs.length∧u.2.1=(tcs.take u.1).map (Cs.plc tok m)++tcs.drop u.1∧u.2.2.1=(tcs.take u.1).any (Cs.fits m)∧u.2.2.2=Nq m (tcs.take u.1) 0}=>⟨74,[(1,.d (.str tok)),(2,.d (.int M)),(3,.ptr 3 0),(6,.ptr 6 0),(8,.d (.bool u.1.2.2.1)),(9,.arr 400 0 u.1.2.2.2.length),(17,.d (.int (tcs.length:Int))),(18,.d (.int (u.1.1:Int)))],[(1000,some (.raw (.own 9 1 (tvs.map Kj) []))),(1001,some (.raw (.own 32 7 (txs.map Tm.od) []))),(1002,some (.raw (.own 42 9 (u.1.2.1.map Cs.od) []))),(3,some (.blk 32 [.d (.int 7),.d (.int tn),.d (.str ta),.d (.str tb),.arr 1000 0 tvs.length,.arr 1001 0 txs.length,.arr 1002 0 tcs.length])),(6,some (.blk 32 [.d (.int 0),.d (.int 0),.d (.str ByteArray.empty),.d (.str ByteArray.empty),.lit (.slice none 0 0),.lit (.slice none 0 0),.lit (.slice none 0 0)])),(400,some (.arr 3 1 (u.1.2.2.2.map intRp)))]⟩)
  (μ:=fun u=>tcs.length-u.1.1) ⟨(0,tcs,false,[]),⟨Nat.zero_le _,by simp,by simp,by simp[Nq]⟩⟩ (Le.sub (by simp) (by simp)) (fun⟨(i,W,b,L),⟨hi4,hW,hb,hL⟩⟩=>?_)
 dsimp only at hi4 hW hb hL⊢;have hLl:L.length≤i:=by rw[hL];have:=notIx_len m (tcs.take i) 0;rw[List.length_take]at this;omega
 refine AWp.rg [] [] ?_ (hr:=by conv=>lhs;simp[Tm.od,Tm.Q4,Cs.Q4]);repeat (first|refine AWp.seq ?_|refine AWp.block ?_)
 refine AWp.cond rfl (fun hc=>?_) (fun hc=>?_)
 ·have hi1:i<tcs.length:=by have:=of_decide_eq_true hc;omega
  clear hc;have h1d:tcs[i]? =some tcs[i]:=List.getElem?_eq_getElem hi1;have hmd:tcs[i]∈tcs:=List.getElem_mem hi1;generalize tcs[i]=d at h1d hmd;have hWl:W.length=tcs.length:=by rw[hW];simp;omega
  have hWi:W[i]? =some d:=by
   rw[hW,List.getElem?_append_right (by rw[List.length_map,List.length_take];omega),List.getElem?_drop];simp[h1d,Nat.min_eq_left hi4]
  have hiW:i<W.length:=by omega
  have hS1:∀r:List OD,((List.map Cs.od W).set i r)[i]? =some r:=fun r=>List.getElem?_set_self (by rw[List.length_map];exact hiW)
  have hpl:=ih d.body tok m (by have:=Cs.Zj hmd;obtain⟨_,_,_⟩:=d;simp only[Cs.sz,Cs.body]at this⊢;omega) (by obtain⟨_,_,_⟩:=d;exact(hcO _ hmd).2.2) (by obtain⟨_,_,_⟩:=d;exact hcS _ hmd) (by obtain⟨_,_,_⟩:=d;exact hcK _ hmd) htok;rw[hM]at hpl;obtain⟨q,hq⟩:∃q,d.body.fits m=q:=⟨_,rfl⟩
  obtain⟨z,hz⟩:∃z,Plc tok m d.body=z:=⟨_,rfl⟩
  rw[hq,hz]at hpl;have hfb:d.fits m=q:=by obtain⟨_,_,_⟩:=d;rw[Cs.fits];exact hq
  have hpd:d.plc tok m= .mk d.tag d.vars z:=by rw[←hz];obtain⟨_,_,_⟩:=d;rfl
  have hnx:W.set i (d.plc tok m)=(tcs.take (i+1)).map (Cs.plc tok m)++tcs.drop (i+1):=by
   have hs:tcs.drop i=d::tcs.drop (i+1):=by
    rw[List.drop_eq_getElem_cons hi1];rw[List.getElem?_eq_getElem hi1]at h1d;rw[Option.some.inj h1d]
   rw[hW,hs,List.take_add_one,h1d];have hset:∀(A B:List Cs) (x y:Cs),A.length=i→(A++x::B).set i y=A++y::B:=fun A B x y h=>by subst h;simp
   rw[hset _ _ _ _ (by rw[List.length_map,List.length_take];omega)];simp
  have hbx:(tcs.take (i+1)).any (Cs.fits m)=(b||q):=by rw[List.take_add_one,h1d,hb];simp[hfb]
  have hLx:Nq m (tcs.take (i+1)) 0=L++(if q=true then[]else[i]):=by
   rw[List.take_add_one,h1d,hL];simp only[Option.toList_some];rw[notIx_snoc,hfb,List.length_take,Nat.min_eq_left hi4,Nat.zero_add]
  obtain⟨dt,dws,⟨dk,dn,da,db,dvs,dxs,dcs⟩⟩:=d;obtain⟨zk,zn,za,zb,zvs,zxs,zcs⟩:=z;simp only[Cs.body,Cs.tag,Cs.vars]at hpl hpd hz;rw[hpd]at hnx;simp only[Ex,S9]at hpl;obtain⟨z1,z2,z3⟩:=Plc_len hz;refine AWp.skip ?_;refine AWp.rg [] [] ?_ (hr:=by conv=>lhs;simp[Tm.od,Tm.Q4,Cs.Q4]);refine AWp.le (Le.Yk 1002 500 i 6 (by conv=>lhs;simp[Cs.od,hWi,hS1]) (by conv=>lhs;simp[Tm.od,Tm.Q4,Cs.Q4,Cs.od,hWi,hS1]) (by conv=>lhs;simp[Tm.od,Tm.Q4,Cs.Q4]) rfl rfl (by simp)) ?_;refine AWp.le (Le.Yk 1002 501 i 7 (by conv=>lhs;simp[Cs.od,hWi,hS1]) (by conv=>lhs;simp[Tm.od,Tm.Q4,Cs.Q4,Cs.od,hWi,hS1]) (by conv=>lhs;simp[Tm.od,Tm.Q4,Cs.Q4]) rfl rfl (by simp)) ?_;refine AWp.le (Le.Yk 1002 502 i 8 (by conv=>lhs;simp[Cs.od,hWi,hS1]) (by conv=>lhs;simp[Tm.od,Tm.Q4,Cs.Q4,Cs.od,hWi,hS1]) (by conv=>lhs;simp[Tm.od,Tm.Q4,Cs.Q4]) rfl rfl (by simp)) ?_;refine AWp.rg [] [.c [(1000,500),(1001,501),(1002,502)] [.agg [.d (.int dk),.d (.int dn),.d (.str da),.d (.str db),.arr 1000 0 dvs.length,.arr 1001 0 dxs.length,.arr 1002 0 dcs.length],.d (.str tok),.d (.int M)] [(1000,.raw (.own 9 1 (dvs.map Kj) [])),(1001,.raw (.own 32 7 (dxs.map Tm.od) [])),(1002,.raw (.own 42 9 (dcs.map Cs.od) []))] (.tuple [.agg [.d (.int zk),.d (.int zn),.d (.str za),.d (.str zb),.arr 1000 0 zvs.length,.arr 1001 0 zxs.length,.arr 1002 0 zcs.length],.d (.bool q)]) [(1000,.raw (.own 9 1 (zvs.map Kj) [])),(1001,.raw (.own 32 7 (zxs.map Tm.od) [])),(1002,.raw (.own 42 9 (zcs.map Cs.od) []))]] ?_ (hr:=by conv=>lhs;simp[Tm.od,Tm.Q4,Cs.Q4,Cs.od,hWi,hS1]);refine AWp.rg [] [] ?_ (hr:=by conv=>lhs;simp[Tm.od,Tm.Q4,Cs.Q4,Cs.od,hWi,hS1]);refine AWp.le (Le.X8 1002 500 i 6 (ty:=42) (sz:=9) (by conv=>lhs;simp[Tm.od,Tm.Q4,Cs.Q4,Cs.od,hWi,hS1]) (by conv=>lhs;simp[Tm.od,Tm.Q4,Cs.Q4,Cs.od,hWi,hS1]) (by conv=>lhs;simp[Tm.od,Tm.Q4,Cs.Q4,Cs.od,hWi,hS1]) (by simp;rfl) (by simp) rfl rfl) ?_
  refine AWp.le (Le.X8 1002 501 i 7 (ty:=42) (sz:=9) (by conv=>lhs;simp[Tm.od,Tm.Q4,Cs.Q4,Cs.od,hWi,hS1]) (by conv=>lhs;simp[Tm.od,Tm.Q4,Cs.Q4,Cs.od,hWi,hS1]) (by conv=>lhs;simp[Tm.od,Tm.Q4,Cs.Q4,Cs.od,hWi,hS1]) (by simp;rfl) (by simp) rfl rfl) ?_;refine AWp.le (Le.X8 1002 502 i 8 (ty:=42) (sz:=9) (by conv=>lhs;simp[Tm.od,Tm.Q4,Cs.Q4,Cs.od,hWi,hS1]) (by conv=>lhs;simp[Tm.od,Tm.Q4,Cs.Q4,Cs.od,hWi,hS1]) (by conv=>lhs;simp[Tm.od,Tm.Q4,Cs.Q4,Cs.od,hWi,hS1]) (by simp;rfl) (by simp) rfl rfl) ?_;cases b
  ·cases q
   ·skip
    refine AWp.rg [] [] ?_ (hr:=by conv=>lhs;simp[Tm.od,Tm.Q4,Cs.Q4,Cs.od,hWi,hS1]);refine AWp.rg [] [] ?_ (hr:=by conv=>lhs;simp[Tm.od,Tm.Q4,Cs.Q4,Cs.od,hWi,hS1]);refine AWp.cy ?_;refine AWp.rg [] [] ?_ (hr:=by conv=>lhs;simp[Tm.od,Tm.Q4,Cs.Q4,Cs.od,hWi,hS1]);refine AWp.rg [] [] ?_ (hr:=by conv=>lhs;simp[Tm.od,Tm.Q4,Cs.Q4,Cs.od,hWi,hS1]);refine⟨⟨(i+1,W.set i (.mk dt dws (.mk zk zn za zb zvs zxs zcs)),false,L++[i]),⟨hi1,hnx,by rw[hbx];rfl,by rw[hLx];simp⟩⟩,by simp;omega,?_⟩;dsimp only;exact Le.sub (by simp) (by simp[Cs.od,hWi,hS1,Tm.od,Tm.Q4,Cs.Q4,intRp])
   ·skip
    refine AWp.rg [] [] ?_ (hr:=by conv=>lhs;simp[Tm.od,Tm.Q4,Cs.Q4,Cs.od,hWi,hS1]);refine AWp.rg [] [] ?_ (hr:=by conv=>lhs;simp[Tm.od,Tm.Q4,Cs.Q4,Cs.od,hWi,hS1]);refine AWp.cn ?_;refine AWp.skip ?_;refine AWp.rg [] [] ?_ (hr:=by conv=>lhs;simp[Tm.od,Tm.Q4,Cs.Q4,Cs.od,hWi,hS1]);refine⟨⟨(i+1,W.set i (.mk dt dws (.mk zk zn za zb zvs zxs zcs)),true,L),⟨hi1,hnx,by rw[hbx];rfl,by rw[hLx];simp⟩⟩,by simp;omega,?_⟩;dsimp only;exact Le.sub (by simp) (by simp[Cs.od,hWi,hS1,Tm.od,Tm.Q4,Cs.Q4,intRp])
  ·cases q
   ·skip
    refine AWp.rg [] [] ?_ (hr:=by conv=>lhs;simp[Tm.od,Tm.Q4,Cs.Q4,Cs.od,hWi,hS1]);refine AWp.rg [] [] ?_ (hr:=by conv=>lhs;simp[Tm.od,Tm.Q4,Cs.Q4,Cs.od,hWi,hS1]);refine AWp.cy ?_;refine AWp.rg [] [] ?_ (hr:=by conv=>lhs;simp[Tm.od,Tm.Q4,Cs.Q4,Cs.od,hWi,hS1]);refine AWp.rg [] [] ?_ (hr:=by conv=>lhs;simp[Tm.od,Tm.Q4,Cs.Q4,Cs.od,hWi,hS1]);refine⟨⟨(i+1,W.set i (.mk dt dws (.mk zk zn za zb zvs zxs zcs)),true,L++[i]),⟨hi1,hnx,by rw[hbx];rfl,by rw[hLx];simp⟩⟩,by simp;omega,?_⟩;dsimp only;exact Le.sub (by simp) (by simp[Cs.od,hWi,hS1,Tm.od,Tm.Q4,Cs.Q4,intRp])
   ·skip
    refine AWp.rg [] [] ?_ (hr:=by conv=>lhs;simp[Tm.od,Tm.Q4,Cs.Q4,Cs.od,hWi,hS1]);refine AWp.rg [] [] ?_ (hr:=by conv=>lhs;simp[Tm.od,Tm.Q4,Cs.Q4,Cs.od,hWi,hS1]);refine AWp.cn ?_;refine AWp.skip ?_;refine AWp.rg [] [] ?_ (hr:=by conv=>lhs;simp[Tm.od,Tm.Q4,Cs.Q4,Cs.od,hWi,hS1]);refine⟨⟨(i+1,W.set i (.mk dt dws (.mk zk zn za zb zvs zxs zcs)),true,L),⟨hi1,hnx,by rw[hbx];rfl,by rw[hLx];simp⟩⟩,by simp;omega,?_⟩;dsimp only;exact Le.sub (by simp) (by simp[Cs.od,hWi,hS1,Tm.od,Tm.Q4,Cs.Q4,intRp])
 have hi1:i=tcs.length:=by have:=of_decide_eq_false hc;omega
 subst hi1;clear hc;rw[List.take_length,List.drop_length,List.append_nil]at hW;rw[List.take_length]at hb hL;have hWl:W.length=tcs.length:=by rw[hW];simp
 refine AWp.exit ?_;refine AWp.rg [] [] ?_ (hr:=by conv=>lhs;simp[Tm.od,Tm.Q4,Cs.Q4]);rw[←hb];cases b
 ·have hWt:tcs=W:=by rw[hW];exact(pl_id hb.symm).symm
  subst hWt;simp only[Bool.false_eq_true,if_false];repeat (first|refine AWp.seq ?_|refine AWp.block ?_)
  refine AWp.loop (σ:=fun u:{u:Nat×List Cs // u.1≤L.length∧u.2=tcs}=>⟨74,[(1,.d (.str tok)),(3,.ptr 3 0),(6,.ptr 6 0),(8,.d (.bool false)),(50,.arr 400 0 L.length),(51,.d (.int (L.length:Int))),(52,.d (.int (u.1.1:Int)))],[(1000,some (.raw (.own 9 1 (tvs.map Kj) []))),(1001,some (.raw (.own 32 7 (txs.map Tm.od) []))),(1002,some (.raw (.own 42 9 (u.1.2.map Cs.od) []))),(3,some (.blk 32 [.d (.int 7),.d (.int tn),.d (.str ta),.d (.str tb),.arr 1000 0 tvs.length,.arr 1001 0 txs.length,.arr 1002 0 tcs.length])),(6,some (.blk 32 [.d (.int 0),.d (.int 0),.d (.str ByteArray.empty),.d (.str ByteArray.empty),.lit (.slice none 0 0),.lit (.slice none 0 0),.lit (.slice none 0 0)])),(400,some (.arr 3 1 (L.map intRp)))]⟩)
   (μ:=fun u=>L.length-u.1.1) ⟨(0,tcs),⟨Nat.zero_le _,by simp⟩⟩ (Le.sub (by simp) (by simp)) (fun⟨(k,V),⟨hk4,hV⟩⟩=>?_)
  dsimp only at hk4 hV⊢;refine AWp.rg [] [] ?_ (hr:=by conv=>lhs;simp[Tm.od,Tm.Q4,Cs.Q4]);repeat (first|refine AWp.seq ?_|refine AWp.block ?_)
  refine AWp.cond rfl (fun hc=>?_) (fun hc=>?_)
  ·have hk1:k<L.length:=by have:=of_decide_eq_true hc;omega
   clear hc;have h1j:L[k]? =some L[k]:=List.getElem?_eq_getElem hk1;have hmj:L[k]∈L:=List.getElem_mem hk1;generalize L[k]=j at h1j hmj;have hjl:j<tcs.length:=by rw[hL]at hmj;have:=notIx_lt hmj;omega
   refine AWp.skip ?_;refine AWp.rg [] [] ?_ (hr:=by conv=>lhs;simp[Tm.od,Tm.Q4,Cs.Q4,h1j,intRp]);refine AWp.rg [] [] ?_ (hr:=by conv=>lhs;simp[Tm.od,Tm.Q4,Cs.Q4]);refine AWp.cn ?_;refine AWp.skip ?_;refine AWp.rg [] [] ?_ (hr:=by conv=>lhs;simp[Tm.od,Tm.Q4,Cs.Q4]);refine⟨⟨(k+1,V),⟨hk1,hV⟩⟩,by simp;omega,?_⟩;dsimp only;exact Le.sub (by simp) (by simp)
  have hk1:k=L.length:=by have:=of_decide_eq_false hc;omega
  clear hc;subst hV;refine AWp.exit ?_;refine AWp.rg [] [] ?_ (hr:=by conv=>lhs;simp[Tm.od,Tm.Q4,Cs.Q4]);refine AWp.ret ?_;try dsimp only[Qq,Q8]
  apply Zw.ret
  ·rfl
  ·conv=>lhs;simp[Qz,Tryd.results53]
  ·first|rfl|simp[Zz,AV.X7,Jq]
  ·simp[Zx,Tm.od,Tm.Q4,Cs.Q4]
 simp only[if_true];repeat (first|refine AWp.seq ?_|refine AWp.block ?_)
 refine AWp.loop (σ:=fun u:{u:Nat×List Cs // u.1≤L.length∧u.2=(L.take u.1).foldl (I6 tok) W}=>⟨74,[(1,.d (.str tok)),(3,.ptr 3 0),(6,.ptr 6 0),(8,.d (.bool true)),(50,.arr 400 0 L.length),(51,.d (.int (L.length:Int))),(52,.d (.int (u.1.1:Int)))],[(1000,some (.raw (.own 9 1 (tvs.map Kj) []))),(1001,some (.raw (.own 32 7 (txs.map Tm.od) []))),(1002,some (.raw (.own 42 9 (u.1.2.map Cs.od) []))),(3,some (.blk 32 [.d (.int 7),.d (.int tn),.d (.str ta),.d (.str tb),.arr 1000 0 tvs.length,.arr 1001 0 txs.length,.arr 1002 0 tcs.length])),(6,some (.blk 32 [.d (.int 0),.d (.int 0),.d (.str ByteArray.empty),.d (.str ByteArray.empty),.lit (.slice none 0 0),.lit (.slice none 0 0),.lit (.slice none 0 0)])),(400,some (.arr 3 1 (L.map intRp)))]⟩)
  (μ:=fun u=>L.length-u.1.1) ⟨(0,W),⟨Nat.zero_le _,by simp⟩⟩ (Le.sub (by simp) (by simp)) (fun⟨(k,V),⟨hk4,hV⟩⟩=>?_)
 dsimp only at hk4 hV⊢;refine AWp.rg [] [] ?_ (hr:=by conv=>lhs;simp[Tm.od,Tm.Q4,Cs.Q4]);repeat (first|refine AWp.seq ?_|refine AWp.block ?_)
 refine AWp.cond rfl (fun hc=>?_) (fun hc=>?_)
 ·have hk1:k<L.length:=by have:=of_decide_eq_true hc;omega
  clear hc;have h1j:L[k]? =some L[k]:=List.getElem?_eq_getElem hk1;have hmj:L[k]∈L:=List.getElem_mem hk1;generalize L[k]=j at h1j hmj;have hjl:j<tcs.length:=by rw[hL]at hmj;have:=notIx_lt hmj;omega
  refine AWp.skip ?_;refine AWp.rg [] [] ?_ (hr:=by conv=>lhs;simp[Tm.od,Tm.Q4,Cs.Q4,h1j,intRp]);refine AWp.rg [] [] ?_ (hr:=by conv=>lhs;simp[Tm.od,Tm.Q4,Cs.Q4]);have hVl:V.length=tcs.length:=by rw[hV,wrapF_len,hWl]
  have hjV:j<V.length:=by omega
  have hVj:V[j]? =some V[j]:=List.getElem?_eq_getElem hjV;have hS1:∀r:List OD,((List.map Cs.od V).set j r)[j]? =some r:=fun r=>List.getElem?_set_self (by rw[List.length_map];exact hjV)
  generalize V[j]=d at hVj;have hnx:(L.take (k+1)).foldl (I6 tok) W=V.set j (d.wr tok):=by
   rw[List.take_add_one,h1j,Option.toList_some,List.foldl_append,←hV];simp only[List.foldl_cons,List.foldl_nil,I6,hVj]
  obtain⟨dt,dws,⟨dk,dn,da,db,dvs,dxs,dcs⟩⟩:=d;simp only[Cs.wr]at hnx;refine AWp.cy ?_;refine AWp.le (Le.Yk 1002 500 j 6 (by conv=>lhs;simp[Cs.od,hVj,hS1]) (by conv=>lhs;simp[Tm.od,Tm.Q4,Cs.Q4,Cs.od,hVj,hS1]) (by conv=>lhs;simp[Tm.od,Tm.Q4,Cs.Q4]) rfl rfl (by simp)) ?_;refine AWp.le (Le.Yk 1002 501 j 7 (by conv=>lhs;simp[Cs.od,hVj,hS1]) (by conv=>lhs;simp[Tm.od,Tm.Q4,Cs.Q4,Cs.od,hVj,hS1]) (by conv=>lhs;simp[Tm.od,Tm.Q4,Cs.Q4]) rfl rfl (by simp)) ?_;refine AWp.le (Le.Yk 1002 502 j 8 (by conv=>lhs;simp[Cs.od,hVj,hS1]) (by conv=>lhs;simp[Tm.od,Tm.Q4,Cs.Q4,Cs.od,hVj,hS1]) (by conv=>lhs;simp[Tm.od,Tm.Q4,Cs.Q4]) rfl rfl (by simp)) ?_;refine AWp.dw [] [] mixed ?_ (hr:=by conv=>lhs;simp[Tm.od,Tm.Q4,Cs.Q4,Cs.od,hVj,hS1]);refine AWp.le (Le.give _ 67 503 rfl rfl rfl) ?_;refine AWp.le (Le.X8 503 500 0 4 (ty:=32) (sz:=7) (by conv=>lhs;simp[Tm.od,Tm.Q4,Cs.Q4,Cs.od,hVj,hS1,AS.swap,swN]) (by conv=>lhs;simp[Tm.od,Tm.Q4,Cs.Q4,Cs.od,hVj,hS1,AS.swap,swN]) (by conv=>lhs;simp[Tm.od,Tm.Q4,Cs.Q4,Cs.od,hVj,hS1,AS.swap,swN]) (by simp;rfl) (by simp) rfl rfl) ?_;refine AWp.le (Le.X8 503 501 0 5 (ty:=32) (sz:=7) (by conv=>lhs;simp[Tm.od,Tm.Q4,Cs.Q4,Cs.od,hVj,hS1,AS.swap,swN]) (by conv=>lhs;simp[Tm.od,Tm.Q4,Cs.Q4,Cs.od,hVj,hS1,AS.swap,swN]) (by conv=>lhs;simp[Tm.od,Tm.Q4,Cs.Q4,Cs.od,hVj,hS1,AS.swap,swN]) (by simp;rfl) (by simp) rfl rfl) ?_;refine AWp.le (Le.X8 503 502 0 6 (ty:=32) (sz:=7) (by conv=>lhs;simp[Tm.od,Tm.Q4,Cs.Q4,Cs.od,hVj,hS1,AS.swap,swN]) (by conv=>lhs;simp[Tm.od,Tm.Q4,Cs.Q4,Cs.od,hVj,hS1,AS.swap,swN]) (by conv=>lhs;simp[Tm.od,Tm.Q4,Cs.Q4,Cs.od,hVj,hS1,AS.swap,swN]) (by simp;rfl) (by simp) rfl rfl) ?_;refine AWp.le (Le.X8 1002 503 j 7 (ty:=42) (sz:=9) (by conv=>lhs;simp[Tm.od,Tm.Q4,Cs.Q4,Cs.od,hVj,hS1,AS.swap,swN]) (by conv=>lhs;simp[Tm.od,Tm.Q4,Cs.Q4,Cs.od,hVj,hS1,AS.swap,swN]) (by conv=>lhs;simp[Tm.od,Tm.Q4,Cs.Q4,Cs.od,hVj,hS1,AS.swap,swN]) (by simp;rfl) (by simp) rfl rfl) ?_
  refine AWp.le (Le.odrow 1002 j (ty:=42) (sz:=9) (r':=Cs.od (.mk dt dws (.mk 13 0 .empty tok [] [.mk dk dn da db dvs dxs dcs] []))) (by conv=>lhs;simp[Tm.od,Tm.Q4,Cs.Q4,Cs.od,hVj,hS1,AS.swap,swN]) (by conv=>lhs;simp[Tm.od,Tm.Q4,Cs.Q4,Cs.od,hVj,hS1,AS.swap,swN]) (by simp only[Cs.od,Tm.od,Tm.Q4,Cs.Q4,List.map_cons,List.map_nil];exact⟨OdLe.refl _,OdLe.refl _,OdLe.refl _,OdLe.refl _,OdLe.refl _,OdLe.refl _,OdLe.nilO (by omega),OdLe.refl _,OdLe.nilO (by omega),trivial⟩)) ?_;refine AWp.rg [] [] ?_ (hr:=by conv=>lhs;simp[Tm.od,Tm.Q4,Cs.Q4,Cs.od,hVj,hS1,AS.swap,swN]);refine⟨⟨(k+1,V.set j (.mk dt dws (.mk 13 0 .empty tok [] [.mk dk dn da db dvs dxs dcs] []))),⟨hk1,hnx.symm⟩⟩,by simp;omega,?_⟩;dsimp only;exact Le.sub (by simp[Cs.od,hVj,hS1,AS.swap,swN]) (by simp[Tm.od,Tm.Q4,Cs.Q4,Cs.od,hVj,hS1,AS.swap,swN])
 have hk1:k=L.length:=by have:=of_decide_eq_false hc;omega
 clear hc;subst hk1;have hVe:V=tcs.map (Cs.put tok m):=by
  rw[hV,List.take_length,hL,hW];have:=wrapAll tok m tcs [];simpa using this
 subst hVe;refine AWp.exit ?_;refine AWp.rg [] [] ?_ (hr:=by conv=>lhs;simp[Tm.od,Tm.Q4,Cs.Q4]);refine AWp.ret ?_;try dsimp only[Qq,Q8]
 apply Zw.ret
 ·rfl
 ·conv=>lhs;simp[Qz,Tryd.results53]
 ·first|rfl|simp[Zz,AV.X7,Jq]
 ·simp[Zx,Tm.od,Tm.Q4,Cs.Q4]
theorem plc_all:∀N,PlcN N
 |0=>fun t tok m h=>by cases t;simp only[Tm.sz]at h;omega
 |N+1=>plc_step N (plc_all N) (amg_step N (plc_all N))
def PutN (N:Nat):Prop:=∀(t:Tm) (tok:ByteArray) (m:Nat),t.sz≤N→t.Ok→t.Fs→tok.size≤140737488355328→Qv Tryd.prog 38 [Xj t,.d (.str tok),.d (.int (m:Int))] (fun _=>Xj (t.put tok m)) none
theorem put_step (N:Nat) (ih:PutN N):PutN (N+1):=by
 intro t tok m hsz hO hS htok;obtain⟨R,hR⟩:∃R,R=t.put tok m:=⟨_,rfl⟩
 rw[←hR];have hft:=fit_all t.sz t m (Nat.le_refl _) hO hS;obtain⟨M,hM⟩:∃M:Int,(m:Int)=M:=⟨_,rfl⟩
 rw[hM]at hft⊢;obtain⟨rk,rn,ra,rb,rvs,rxs,rcs⟩:=R;obtain⟨tk,tn,ta,tb,tvs,txs,tcs⟩:=t;rw[Tm.put]at hR;obtain⟨q,hq⟩:∃q,Tm.fits m (.mk tk tn ta tb tvs txs tcs)=q:=⟨_,rfl⟩
 rw[hq]at hft hR;have hxO:∀x∈txs,x.Ok:=fun x hx=>Tm.Zk.1 hO.2.2.1 x hx
 have hcO:∀x∈tcs,x.Ok:=fun x hx=>Cs.Zk.1 hO.2.2.2 x hx
 have hxS:∀x∈txs,x.Fs:=fun x hx=>Cq.1 hS.2.2.1 x hx
 have hcS:∀x∈tcs,x.Fs:=fun x hx=>Dk.1 hS.2.2.2 x hx
 obtain⟨o1,o2,o3,o4,o5⟩:=hO.vars;simp only[Tm.sz]at hsz;refine Qv.of Tryd.func38 rfl rfl rfl (Nat.le_of_ble_eq_true rfl) ?_;show AWp _ _ (Z5 _ Tryd.f38 _ _ _) (Qw 116 _);refine AWp.rg [] [] ?_ (hr:=by conv=>lhs;simp[Tm.row,Tm.Q3,Cs.Q3]);cases q with
 |true=>
  refine AWp.rg [] [.p (fun _=>.d (.bool true)) none] ?_ (hr:=by conv=>lhs;simp[Tm.row,Tm.Q3,Cs.Q3]);refine AWp.cn ?_;refine AWp.skip ?_;refine AWp.rg [] [] ?_ (hr:=by conv=>lhs;simp[Tm.row,Tm.Q3,Cs.Q3]);rw[if_neg (by simp)]at hR;by_cases q1:tk=3
  ·refine AWp.rg [] [] ?_ (hr:=by conv=>lhs;simp[Tm.row,Tm.Q3,Cs.Q3,q1]);refine AWp.cy ?_;rw[if_pos q1]at hR;replace hR:=hR.symm;injection hR with e1 e2 e3 e4 e5 e6 e7;subst e1 e2 e3 e4 e5 e6 e7;refine AWp.rg [] [] ?_ (hr:=by conv=>lhs;simp[Tm.row,Tm.Q3,Cs.Q3,q1]);refine AWp.rg [] [] ?_ (hr:=by conv=>lhs;simp[Tm.row,Tm.Q3,Cs.Q3,q1]);refine AWp.ret ?_;try dsimp only[Qq,Q8]
   apply Z5.ret
   ·rfl
   ·conv=>lhs;simp[Qz,Tryd.results38]
   first|rfl|(simp[Zz,Xj,Tm.row,Tm.Q3,Cs.Q3,AV.X7,Jq,Q7];done)|(simp[Zz,Xj,Tm.row,Tm.Q3,Cs.Q3,AV.X7,Jq,Q7];omega)
  refine AWp.rg [] [] ?_ (hr:=by conv=>lhs;simp[Tm.row,Tm.Q3,Cs.Q3,q1]);refine AWp.cn ?_;by_cases h6:tk=6
  ·obtain⟨x,y,hxy⟩:=hS.1 h6;have h0x:txs[0]? =some x:=by rw[hxy];rfl
   have h1x:txs[1]? =some y:=by rw[hxy];rfl
   have hln:txs.length=2:=by rw[hxy];rfl
   have hmx:x∈txs:=by rw[hxy];simp
   have hmy:y∈txs:=by rw[hxy];simp
   have hx1:=ih x tok m (by have:=Tm.Zj hmx;omega) (hxO x hmx) (hxS x hmx) htok;have hx2:=ih y tok m (by have:=Tm.Zj hmy;omega) (hxO y hmy) (hxS y hmy) htok;rw[hM]at hx1 hx2;rw[if_neg (by omega),if_pos h6,hxy,Tm.Cv,Tm.Rk]at hR;obtain⟨xk,xn,xa,xb,xvs,xxs,xcs⟩:=x;obtain⟨C,hC⟩:∃C:Int,(xxs.length:Int)=C:=⟨_,rfl⟩
   by_cases q2:xk=3
   ·by_cases q3:C=M
    ·refine AWp.rg [] [] ?_ (hr:=by conv=>lhs;simp[Tm.row,Tm.Q3,Cs.Q3,h0x,h1x,hC,q1,h6,q2,q3]);refine AWp.cy ?_;subst q2;have hcm:xxs.length=m:=by omega
     rw[if_pos ⟨rfl,hcm⟩]at hR;generalize Tm.put tok m (.mk 3 xn xa xb xvs xxs xcs)=z at hx1 hR;obtain⟨yk,yn,ya,yb,yvs,yxs,ycs⟩:=y;obtain⟨zk,zn,za,zb,zvs,zxs,zcs⟩:=z;replace hR:=hR.symm;injection hR with e1 e2 e3 e4 e5 e6 e7;subst e1 e2 e3 e4 e5 e6 e7;refine AWp.dw [11] [.p (fun _=>.agg [.d (.int zk),.d (.int zn),.d (.str za),.d (.str zb),.d (Q7 zvs),.d (.sl (zxs.map Tm.row)),.d (.sl (zcs.map Cs.row))]) none] mixed ?_ (hr:=by conv=>lhs;simp[Tm.row,Tm.Q3,Cs.Q3,h0x,h1x,hC,q1,h6,q3]);refine AWp.rg [] [] ?_ (hr:=by conv=>lhs;simp[Tm.row,Tm.Q3,Cs.Q3,h0x,h1x,hC,q1,h6,q3]);refine AWp.ret ?_;try dsimp only[Qq,Q8]
     apply Z5.ret
     ·rfl
     ·conv=>lhs;simp[Qz,Tryd.results38]
     first|rfl|(simp[Zz,Xj,Tm.row,Tm.Q3,Cs.Q3,AV.X7,Jq,Q7];done)|(simp[Zz,Xj,Tm.row,Tm.Q3,Cs.Q3,AV.X7,Jq,Q7];omega)
    refine AWp.rg [] [] ?_ (hr:=by conv=>lhs;simp[Tm.row,Tm.Q3,Cs.Q3,h0x,h1x,hC,q1,h6,q2,q3]);refine AWp.cn ?_;refine AWp.rg [] [] ?_ (hr:=by conv=>lhs;simp[Tm.row,Tm.Q3,Cs.Q3,h0x,h1x,hC,q1,h6,q2,q3]);refine AWp.cy ?_;rw[if_neg (fun h=>by have h3:xk=3:=h.1;have hcm:xxs.length=m:=h.2;first|omega|(exact absurd h3 (by assumption)))]at hR;generalize Tm.put tok m y=z at hx2 hR;obtain⟨yk,yn,ya,yb,yvs,yxs,ycs⟩:=y;obtain⟨zk,zn,za,zb,zvs,zxs,zcs⟩:=z;replace hR:=hR.symm;injection hR with e1 e2 e3 e4 e5 e6 e7;subst e1 e2 e3 e4 e5 e6 e7;refine AWp.dw [11] [.p (fun _=>.agg [.d (.int zk),.d (.int zn),.d (.str za),.d (.str zb),.d (Q7 zvs),.d (.sl (zxs.map Tm.row)),.d (.sl (zcs.map Cs.row))]) none] mixed ?_ (hr:=by conv=>lhs;simp[Tm.row,Tm.Q3,Cs.Q3,h0x,h1x,hC,q1,h6,q2,q3]);refine AWp.rg [] [] ?_ (hr:=by conv=>lhs;simp[Tm.row,Tm.Q3,Cs.Q3,h0x,h1x,hC,q1,h6,q2,q3]);refine AWp.ret ?_;try dsimp only[Qq,Q8]
    apply Z5.ret
    ·rfl
    ·conv=>lhs;simp[Qz,Tryd.results38]
    first|rfl|(simp[Zz,Xj,Tm.row,Tm.Q3,Cs.Q3,AV.X7,Jq,Q7];done)|(simp[Zz,Xj,Tm.row,Tm.Q3,Cs.Q3,AV.X7,Jq,Q7];omega)
   refine AWp.rg [] [] ?_ (hr:=by conv=>lhs;simp[Tm.row,Tm.Q3,Cs.Q3,h0x,h1x,hC,q1,h6,q2]);refine AWp.cn ?_;refine AWp.rg [] [] ?_ (hr:=by conv=>lhs;simp[Tm.row,Tm.Q3,Cs.Q3,h0x,h1x,hC,q1,h6,q2]);refine AWp.cy ?_;rw[if_neg (fun h=>by have h3:xk=3:=h.1;have hcm:xxs.length=m:=h.2;first|omega|(exact absurd h3 (by assumption)))]at hR;generalize Tm.put tok m y=z at hx2 hR;obtain⟨yk,yn,ya,yb,yvs,yxs,ycs⟩:=y;obtain⟨zk,zn,za,zb,zvs,zxs,zcs⟩:=z;replace hR:=hR.symm;injection hR with e1 e2 e3 e4 e5 e6 e7;subst e1 e2 e3 e4 e5 e6 e7;refine AWp.dw [11] [.p (fun _=>.agg [.d (.int zk),.d (.int zn),.d (.str za),.d (.str zb),.d (Q7 zvs),.d (.sl (zxs.map Tm.row)),.d (.sl (zcs.map Cs.row))]) none] mixed ?_ (hr:=by conv=>lhs;simp[Tm.row,Tm.Q3,Cs.Q3,h0x,h1x,hC,q1,h6,q2]);refine AWp.rg [] [] ?_ (hr:=by conv=>lhs;simp[Tm.row,Tm.Q3,Cs.Q3,h0x,h1x,hC,q1,h6,q2]);refine AWp.ret ?_;try dsimp only[Qq,Q8]
   apply Z5.ret
   ·rfl
   ·conv=>lhs;simp[Qz,Tryd.results38]
   first|rfl|(simp[Zz,Xj,Tm.row,Tm.Q3,Cs.Q3,AV.X7,Jq,Q7];done)|(simp[Zz,Xj,Tm.row,Tm.Q3,Cs.Q3,AV.X7,Jq,Q7];omega)
  refine AWp.rg [] [] ?_ (hr:=by conv=>lhs;simp[Tm.row,Tm.Q3,Cs.Q3,q1,h6]);refine AWp.cn ?_;refine AWp.rg [] [] ?_ (hr:=by conv=>lhs;simp[Tm.row,Tm.Q3,Cs.Q3,q1,h6]);refine AWp.cn ?_;by_cases q4:tk=7
  ·refine AWp.rg [] [] ?_ (hr:=by conv=>lhs;simp[Tm.row,Tm.Q3,Cs.Q3,q1,h6,q4]);refine AWp.cy ?_;subst q4;rw[if_neg (by omega),if_neg (by omega),if_pos rfl,P8]at hR;refine AWp.rg [] [] ?_ (hr:=by conv=>lhs;simp[Tm.row,Tm.Q3,Cs.Q3,q1,h6]);refine AWp.rg [] [] ?_ (hr:=by conv=>lhs;simp[Tm.row,Tm.Q3,Cs.Q3,q1,h6]);repeat (first|refine AWp.seq ?_|refine AWp.block ?_)
   refine AWp.le (Le.low [401] [] (fr:=[(1,.d (.str tok)),(2,.d (.int M)),(6,.ptr 6 0),(7,.ptr 7 0),(93,.d (.sl (tcs.map Cs.row))),(94,.d (.int (tcs.length:Int))),(95,.d (.int (0:Int)))]) (mem:=[(6,some (.blk 32 [.d (.int 0),.d (.int 0),.d (.str ByteArray.empty),.d (.str ByteArray.empty),.lit (.slice none 0 0),.lit (.slice none 0 0),.lit (.slice none 0 0)])),(7,some (.blk 32 [.d (.int 7),.d (.int tn),.d (.str ta),.d (.str tb),.d (Q7 tvs),.d (.sl (txs.map Tm.row)),.arr 401 0 ([]:List Cs).length])),(401,some (.arr 42 9 (([]:List Cs).map Cs.row)))]) rfl (by simp) (by simp)) ?_;refine AWp.loop (σ:=fun u:{u:Nat×List Cs // u.1≤tcs.length∧u.2=(tcs.take u.1).map (Cs.put tok m)}=>⟨116,[(1,.d (.str tok)),(2,.d (.int M)),(6,.ptr 6 0),(7,.ptr 7 0),(93,.d (.sl (tcs.map Cs.row))),(94,.d (.int (tcs.length:Int))),(95,.d (.int (u.1.1:Int)))],[(6,some (.blk 32 [.d (.int 0),.d (.int 0),.d (.str ByteArray.empty),.d (.str ByteArray.empty),.lit (.slice none 0 0),.lit (.slice none 0 0),.lit (.slice none 0 0)])),(7,some (.blk 32 [.d (.int 7),.d (.int tn),.d (.str ta),.d (.str tb),.d (Q7 tvs),.d (.sl (txs.map Tm.row)),.arr 401 0 u.1.2.length])),(401,some (.arr 42 9 (u.1.2.map Cs.row)))]⟩)
    (μ:=fun u=>tcs.length-u.1.1) ⟨(0,[]),⟨Nat.zero_le _,by simp⟩⟩ (Le.sub (by simp) (by simp)) (fun⟨(i,ds),⟨hi14,hw⟩⟩=>?_)
   dsimp only at hi14 hw⊢;refine AWp.rg [] [] ?_ (hr:=by conv=>lhs;simp[Tm.row,Tm.Q3,Cs.Q3,q1,h6]);repeat (first|refine AWp.seq ?_|refine AWp.block ?_)
   refine AWp.cond rfl (fun hc=>?_) (fun hc=>?_)
   ·have hi1:i<tcs.length:=by have:=of_decide_eq_true hc;omega
    clear hc;have h1d:tcs[i]? =some tcs[i]:=List.getElem?_eq_getElem hi1;have hmd:tcs[i]∈tcs:=List.getElem_mem hi1;have hdd:tcs.drop i=tcs[i]::tcs.drop (i+1):=List.drop_eq_getElem_cons hi1;generalize tcs[i]=d at h1d hmd hdd;have hdl:ds.length=i:=by rw[hw,List.length_map,List.length_take];omega
    have hdO:=hcO d hmd;have hdS:=hcS d hmd;have hsz2:=Cs.Zj hmd;have hsn:(tcs.take (i+1)).map (Cs.put tok m)=ds++[d.put tok m]:=by rw[List.take_add_one,h1d,List.map_append,←hw];rfl
    obtain⟨dt,dws,y⟩:=d;have hx:=ih y tok m (by simp only[Cs.sz]at hsz2;omega) hdO.2.2 hdS htok;rw[hM]at hx;rw[Cs.put]at hsn;generalize y.put tok m=z at hx hsn;obtain⟨yk,yn,ya,yb,yvs,yxs,ycs⟩:=y;obtain⟨zk,zn,za,zb,zvs,zxs,zcs⟩:=z;refine AWp.skip ?_;refine AWp.rg [] [] ?_ (hr:=by conv=>lhs;simp[Tm.row,Tm.Q3,Cs.Q3,h1d,Cs.row,q1,h6]);refine AWp.dw [] [.p (fun _=>.agg [.d (.int zk),.d (.int zn),.d (.str za),.d (.str zb),.d (Q7 zvs),.d (.sl (zxs.map Tm.row)),.d (.sl (zcs.map Cs.row))]) none] mixed ?_ (hr:=by conv=>lhs;simp[Tm.row,Tm.Q3,Cs.Q3,h1d,Cs.row,q1,h6]);refine AWp.rg [] [] ?_ (hr:=by conv=>lhs;simp[Tm.row,Tm.Q3,Cs.Q3,h1d,Cs.row,q1,h6]);refine⟨⟨(i+1,ds++[.mk dt dws (.mk zk zn za zb zvs zxs zcs)]),hi1,hsn.symm⟩,by simp;omega,?_⟩;dsimp only;exact Le.sub (by simp[Cs.row,Tm.row,Tm.Q3,Cs.Q3,hdl]) (by simp[Cs.row,Tm.row,Tm.Q3,Cs.Q3,hdl])
   have hi1:i=tcs.length:=by have:=of_decide_eq_false hc;omega
   subst hi1;clear hc;rw[List.take_length]at hw;rw[←hw]at hR;clear hw;replace hR:=hR.symm;injection hR with e1 e2 e3 e4 e5 e6 e7;subst e1 e2 e3 e4 e5 e6 e7;refine AWp.exit ?_;refine AWp.rg [] [] ?_ (hr:=by conv=>lhs;simp[Tm.row,Tm.Q3,Cs.Q3,q1,h6]);refine AWp.ret ?_;try dsimp only[Qq,Q8]
   apply Z5.retF [401]
   ·rfl
   ·conv=>lhs;simp
   ·conv=>lhs;simp[Qz,Tryd.results38]
   first|rfl|(simp[Zz,Xj,Tm.row,Tm.Q3,Cs.Q3,AV.X7,Jq,Q7];done)|(simp[Zz,Xj,Tm.row,Tm.Q3,Cs.Q3,AV.X7,Jq,Q7];omega)
  refine AWp.rg [] [] ?_ (hr:=by conv=>lhs;simp[Tm.row,Tm.Q3,Cs.Q3,q1,h6,q4]);refine AWp.cn ?_;rw[if_neg (by omega),if_neg (by omega),if_neg (by omega)]at hR;have h8:8≤tk∧tk≠12:=by
   rw[Tm.fits,if_neg (by omega),if_neg (by omega),if_neg (by omega)]at hq;by_cases h8:8≤tk∧tk≠12
   ·exact h8
   ·rw[if_neg h8]at hq;simp at hq
  obtain⟨x,hxy⟩:=hS.2.1 h8;have h0x:txs[0]? =some x:=by rw[hxy];rfl
  have hln:txs.length=1:=by rw[hxy];rfl
  have hmx:x∈txs:=by rw[hxy];simp
  have hx:=ih x tok m (by have:=Tm.Zj hmx;omega) (hxO x hmx) (hxS x hmx) htok;rw[hM]at hx;rw[hxy,Tm.Rk]at hR;generalize x.put tok m=z at hx hR;obtain⟨xk,xn,xa,xb,xvs,xxs,xcs⟩:=x;obtain⟨zk,zn,za,zb,zvs,zxs,zcs⟩:=z;replace hR:=hR.symm;injection hR with e1 e2 e3 e4 e5 e6 e7;subst e1 e2 e3 e4 e5 e6 e7;refine AWp.rg [7] [.p (fun _=>.agg [.d (.int zk),.d (.int zn),.d (.str za),.d (.str zb),.d (Q7 zvs),.d (.sl (zxs.map Tm.row)),.d (.sl (zcs.map Cs.row))]) none] ?_ (hr:=by conv=>lhs;simp[Tm.row,Tm.Q3,Cs.Q3,h0x,q1,h6,q4]);refine AWp.rg [] [] ?_ (hr:=by conv=>lhs;simp[Tm.row,Tm.Q3,Cs.Q3,h0x,q1,h6,q4]);refine AWp.ret ?_;try dsimp only[Qq,Q8]
  apply Z5.ret
  ·rfl
  ·conv=>lhs;simp[Qz,Tryd.results38]
  first|rfl|(simp[Zz,Xj,Tm.row,Tm.Q3,Cs.Q3,AV.X7,Jq,Q7];done)|(simp[Zz,Xj,Tm.row,Tm.Q3,Cs.Q3,AV.X7,Jq,Q7];omega)
 |false=>
  refine AWp.rg [] [.p (fun _=>.d (.bool false)) none] ?_ (hr:=by conv=>lhs;simp[Tm.row,Tm.Q3,Cs.Q3]);refine AWp.cy ?_;rw[if_pos rfl]at hR;replace hR:=hR.symm;injection hR with e1 e2 e3 e4 e5 e6 e7;subst e1 e2 e3 e4 e5 e6 e7;refine AWp.rg [2] [] ?_ (hr:=by conv=>lhs;simp[Tm.row,Tm.Q3,Cs.Q3]);refine AWp.ret ?_;try dsimp only[Qq,Q8]
  apply Z5.ret
  ·rfl
  ·conv=>lhs;simp[Qz,Tryd.results38]
  first|rfl|(simp[Zz,Xj,Tm.row,Tm.Q3,Cs.Q3,AV.X7,Jq,Q7];done)|(simp[Zz,Xj,Tm.row,Tm.Q3,Cs.Q3,AV.X7,Jq,Q7];omega)
theorem put_all:∀N,PutN N
 |0=>fun t tok m h=>by obtain⟨tk,tn,ta,tb,tvs,txs,tcs⟩:=t;simp only[Tm.sz]at h;omega
 |N+1=>put_step N (put_all N)
theorem pl_all_pt {l:List Fn} (hl:P5 l) (h:Yv l=0):∀f∈l.map Fn.pl,f.Pt:=fun f hf=>by
 obtain⟨g,hg,rfl⟩:=List.mem_map.1 hf;obtain⟨k1,k2,k3⟩:=Bw hl h g hg;have:=((check_zero h).2.2.2 g hg).sz;exact Fn.pl_pt g k1 k2 k3 (by omega)
theorem Fn.ow_fits {f:Fn} (h:f.Pt):f.ow.body.Ok∧f.ow.body.Du∧f.ow.params.length≤6:=by
 obtain⟨h1,h2⟩:=ow_ok 175 f.body f.params h.rt h.fit.ok h.pars;exact⟨h1,h2,h.par⟩
theorem ow_all_fits {l:List Fn} (h:∀f∈l,f.Pt):∀f∈l.map Fn.ow,f.body.Ok∧f.body.Du∧f.params.length≤6:=fun f hf=>by
 obtain⟨g,hg,rfl⟩:=List.mem_map.1 hf;exact Fn.ow_fits (h g hg)
theorem fu_all_fits {l:List Fn} (h:∀f∈l,f.body.Ok∧f.body.Du∧f.params.length≤6):∀f∈l.map Fn.fu,f.body.Ok∧f.body.Du∧f.params.length≤6:=fun f hf=>by
 obtain⟨g,hg,rfl⟩:=List.mem_map.1 hf;obtain⟨h1,h2,h3⟩:=h g hg;obtain⟨h4,h5⟩:=Tm.fu_ok g.body h1 h2;exact⟨h4,h5,h3⟩
def mk0 (l:List Fn):List Fn:=(l.map Fn.pl).map Fn.ow
def mk1 (l:List Fn):List Fn:=(mk0 l).map Fn.fu
theorem mk0_fits {l:List Fn} (hl:P5 l) (h:Yv l=0):∀f∈mk0 l,f.body.Ok∧f.body.Du∧f.params.length≤6:=ow_all_fits (pl_all_pt hl h)
theorem mk1_fits {l:List Fn} (hl:P5 l) (h:Yv l=0):∀f∈mk1 l,f.body.Ok∧f.body.Du∧f.params.length≤6:=fu_all_fits (mk0_fits hl h)
theorem sp_Made1 (l:List Fn) (hl:P5 l) (hc:Yv l=0):Qv Tryd.prog 6 [W9 l,.d (.int 1)] (fun _=>W9 (mk1 l)) none:=by
 have hll:=hl.len;have h1:=sp_EachPlain l hl.len (Bw hl hc);have hp:=pl_all_pt hl hc;have h2:=sp_EachOwned (l.map Fn.pl) (by rw[List.length_map];exact hl.len) hp;have h3:=sp_EachFused ((l.map Fn.pl).map Fn.ow) (by rw[List.length_map,List.length_map];exact hl.len) (fun f hf=>⟨(mk0_fits hl hc f hf).1,(mk0_fits hl hc f hf).2.1⟩);unfold mk1 mk0;generalize l.map Fn.pl=P at h1 h2 h3⊢;generalize P.map Fn.ow=O at h2 h3⊢;generalize O.map Fn.fu=U at h3⊢;refine Qv.of Tryd.func6 rfl rfl rfl (Nat.le_of_ble_eq_true rfl) ?_;show AWp _ _ (Z5 _ Tryd.f6 _ _ _) (Qw 17 _);refine AWp.rg [] [] ?_;refine AWp.rg [] [.p (fun _=>.d (.sl (P.map Fn.row))) none,.p (fun _=>.d (.sl (O.map Fn.row))) none] ?_;refine AWp.rg [] [] ?_;refine AWp.cy ?_;refine AWp.rg [] [.p (fun _=>.d (.sl (U.map Fn.row))) none] ?_;refine AWp.rg [] [] ?_;refine AWp.cn ?_;refine AWp.skip ?_;refine AWp.rg [] [] ?_;refine AWp.ret ?_;try dsimp only[Qq,Q8]
 apply Z5.ret
 ·rfl
 ·conv=>lhs;simp[Qz,Tryd.results6]
 rfl
end Go.Proofs.YtlbcipohiepjmaaDoor
namespace Go.Proofs.YtlbcipohiepjmaaDoor
open Go.RowKit
theorem put_fs (b:ByteArray) (m:Nat):∀(N:Nat) (t:Tm),t.sz≤N→t.Fs→(t.put b m).Fs:=by
 intro N;induction N with
 |zero=>intro t h;have:=t.Cj;omega
 |succ N ih=>
  intro t hN hS;obtain⟨k,n,a,b0,vs,xs,cs⟩:=t;rw[Tm.sz]at hN;have hX:∀x∈xs,x.sz≤N:=fun x hx=>by have:=Tm.Zj hx;omega
  rw[Tm.put];split
  ·exact⟨by omega,fun _=>⟨_,rfl⟩,⟨hS,trivial⟩,trivial⟩
  split
  ·exact⟨by omega,by omega,hS.2.2⟩
  split
  ·rename_i h6;obtain⟨x,y,rfl⟩:=hS.1 h6;rw[Tm.Cv,Tm.Rk];obtain⟨h1,h2,-⟩:=hS.2.2.1;split
   ·exact⟨fun _=>⟨_,_,rfl⟩,by omega,⟨ih x (hX x (by simp)) h1,h2,trivial⟩,hS.2.2.2⟩
   ·exact⟨fun _=>⟨_,_,rfl⟩,by omega,⟨h1,ih y (hX y (by simp)) h2,trivial⟩,hS.2.2.2⟩
  split
  ·refine⟨by omega,by omega,hS.2.2.1,?_⟩;rw[P8];refine Dk.2 fun c h=>?_
   obtain⟨c0,hc0,rfl⟩:=List.mem_map.1 h;have h1:=Dk.1 hS.2.2.2 c0 hc0;have hs:=Cs.Zj hc0;obtain⟨t,ws,y⟩:=c0;rw[Cs.sz]at hs;rw[Cs.put];exact ih y (by omega) h1
  ·refine⟨by omega,fun h=>?_,?_,hS.2.2.2⟩
   ·obtain⟨x,rfl⟩:=hS.2.1 h;exact⟨_,rfl⟩
   ·cases xs with
    |nil=>trivial
    |cons x r=>rw[Tm.Rk];exact⟨ih x (hX x (by simp)) hS.2.2.1.1,hS.2.2.1.2⟩
theorem put_ok (b:ByteArray) (m:Nat) (hb:b.size≤140737488355328):∀(N:Nat) (t:Tm),t.sz≤N→t.Ok→(t.put b m).Ok:=by
 intro N;induction N with
 |zero=>intro t h;have:=t.Cj;omega
 |succ N ih=>
  intro t hN hO;obtain⟨k,n,a,b0,vs,xs,cs⟩:=t;rw[Tm.sz]at hN;have hX:∀x∈xs,x.sz≤N:=fun x hx=>by have:=Tm.Zj hx;omega
  obtain⟨⟨o1,o2,o3⟩,⟨o4,o5,o6⟩,o7,o8⟩:=id hO;have hH:∀l:List Tm,(∀x∈l,x.sz≤N)→Tm.Oks l→Tm.Oks (Tm.Rk b m l)∧(Tm.Rk b m l).length=l.length:=fun l hl h1=>by
   cases l with
   |nil=>exact⟨trivial,rfl⟩
   |cons x r=>rw[Tm.Rk];exact⟨⟨ih x (hl x (by simp)) h1.1,h1.2⟩,rfl⟩
  rw[Tm.put];split
  ·exact⟨⟨by simp,hb,by simp⟩,⟨by simp,by simp,by simp⟩,⟨hO,trivial⟩,trivial⟩
  split
  ·exact⟨⟨o1,hb,o3⟩,⟨o4,o5,o6⟩,o7,o8⟩
  split
  ·cases xs with
   |nil=>exact hO
   |cons x r=>
    rw[Tm.Cv];split
    ·exact⟨⟨o1,o2,o3⟩,⟨o4,o5,o6⟩,⟨ih x (hX x (by simp)) o7.1,o7.2⟩,o8⟩
    ·have h1:=hH r (fun z hz=>hX z (by simp[hz])) o7.2;exact⟨⟨o1,o2,o3⟩,⟨o4,by rw[List.length_cons,h1.2];exact o5,o6⟩,⟨o7.1,h1.1⟩,o8⟩
  split
  ·refine⟨⟨o1,o2,o3⟩,⟨o4,o5,by rw[P8,List.length_map];exact o6⟩,o7,?_⟩;rw[P8];refine Cs.Zk.2 fun c h=>?_
   obtain⟨c0,hc0,rfl⟩:=List.mem_map.1 h;have h1:=Cs.Zk.1 o8 c0 hc0;have hs:=Cs.Zj hc0;obtain⟨t,ws,y⟩:=c0;rw[Cs.sz]at hs;rw[Cs.put];exact⟨h1.1,h1.2.1,ih y (by omega) h1.2.2⟩
  ·have h1:=hH xs hX o7;exact⟨⟨o1,o2,o3⟩,⟨o4,by rw[h1.2];exact o5,o6⟩,h1.1,o8⟩
def FuId (t:Tm):Prop:=t.fu=t
end Go.Proofs.YtlbcipohiepjmaaDoor
