import Derived.Test.YtlbcipohiepjmaaDoorWrongA
set_option maxRecDepth 20000
set_option maxHeartbeats 16000000
set_option linter.unusedVariables false
set_option linter.unusedSimpArgs false
namespace Go.Proofs.YtlbcipohiepjmaaDoor
open Go.RowKit
def Fn.Xw (f:J6) (x:Fn):Int:=
 if ((f.get x.name).isSome|| !Rw x.name||twB x.params||badB x.params)=true then 7
 else if 6<x.params.length then 5 else if 400<wr x.body.sz then 4 else 0
def Cw:J6→List Fn→Int
 |_,[]=>0
 |f,x::r=>if x.Xw f≠0 then x.Xw f else Cw ((x.name,x.params.length)::f) r
def Ow (l:List Fn):J6:=l.reverse.map fun x=>(x.name,x.params.length)
theorem arOf_snoc (l:List Fn) (x:Fn):Ow (l++[x])=(x.name,x.params.length)::Ow l:=by simp[Ow]
def C9 (f:J6):List Fn→Int
 |[]=>0
 |x::r=>if x.body.wrong f x.params 0≠0 then x.body.wrong f x.params 0 else C9 f r
def Yv (l:List Fn):Int:=
 if l.length=0∨6<l.length then 5 else if Cw [] l≠0 then Cw [] l else C9 (Ow l) l
theorem R3 {f:J6} {k n:Int} {a b:ByteArray} {vs names:List ByteArray} {xs:List Tm} {cs:List Cs} {deep:Int} (h:(Tm.mk k n a b vs xs cs).wrong f names deep=0):
  deep≤24∧1≤k∧k≤7∧Zv k xs.length cs.length=false∧Xw f k n a names xs.length=0∧Tm.X9 f k a names deep 0 xs=0∧(k=7→cs.length≠0∧cs.length≤5∧Cs.X9 f names deep [] cs=0):=by
 simp only[Tm.wrong]at h;split at h
 ·cases h
 rename_i h1;split at h
 ·cases h
 rename_i h2;split at h
 ·cases h
 rename_i h3;split at h
 ·rename_i h4;exact absurd h h4
 rename_i h4;split at h
 ·rename_i h5;exact absurd h h5
 rename_i h5;refine⟨by omega,by omega,by omega,by simpa using h3,by omega,by omega,fun h7=>?_⟩;rw[if_neg (by omega)]at h;split at h
 ·cases h
 rename_i h6;exact⟨by omega,by omega,h⟩
theorem Fw {f:J6} {k:Int} {a:ByteArray} {names:List ByteArray} {deep:Int}:∀{l:List Tm} {i:Nat},Tm.X9 f k a names deep i l=0→
  ∀(j:Nat) (x:Tm),l[j]? =some x→x.wrong f (if k=6∧i+j=1 then names++[a]else names) (deep+1)=0
 |[],_,_,j,x,hj=>by simp at hj
 |y::r,i,h,j,x,hj=>by
  simp only[Tm.X9]at h;obtain⟨ns,hns⟩:∃ns,ns=if k=6∧i=1 then names++[a]else names:=⟨_,rfl⟩
  rw[←hns]at h;by_cases h1:y.wrong f ns (deep+1)=0;rotate_left
  ·rw[if_pos h1]at h;exact absurd h h1
  rw[if_neg (fun e=>e h1)]at h;match j with
  |0=>
   simp at hj;subst hj;rw[Nat.add_zero,←hns];exact h1
  |j+1=>
   have:=Fw h j x (by simpa using hj)
   rwa [show i+1+j=i+(j+1)by omega]at this
theorem Dq {f:J6} {names:List ByteArray} {deep:Int}:∀{l:List Cs} {had:List Int},Cs.X9 f names deep had l=0→
  ∀{t:Int} {vs:List ByteArray} {b:Tm},Cs.mk t vs b∈l→0≤t∧t≤9∧twB vs=false∧badB vs=false∧vs.length≤6∧b.wrong f (names++vs) (deep+1)=0
 |[],_,_,t,vs,b,hm=>by cases hm
 |c::r,had,h,t,vs,b,hm=>by
  simp only[Cs.X9]at h;split at h
  ·rename_i h1;exact absurd h h1
  rename_i h1;rcases List.mem_cons.1 hm with rfl|hm
  ·have h1:=Decidable.byContradiction fun e=>h1 e
   simp only[Cs.wrongC]at h1;split at h1
   ·cases h1
   split at h1
   ·cases h1
   split at h1
   ·cases h1
   rename_i h2 h3 h4;simp only[Bool.or_eq_true,not_or,Bool.not_eq_true]at h3;exact⟨by omega,by omega,h3.1.2,h3.2,by omega,h1⟩
  ·exact Dq h hm
def gB:Nat→Nat
 |0=>0
 |n+1=>1+6 * gB n
theorem szs_le {g:Nat}:∀{l:List Tm},(∀x∈l,x.sz≤g)→Tm.szs l≤l.length * g
 |[],_=>by simp[Tm.szs]
 |x::r,h=>by
  have h1:=h x (List.mem_cons_self ..);have h2:=szs_le (l:=r) fun y hy=>h y (List.mem_cons_of_mem _ hy)
  simp only[Tm.szs,List.length_cons,Nat.succ_mul];omega
theorem cszs_le {g:Nat}:∀{l:List Cs},(∀x∈l,x.sz≤g)→Cs.szs l≤l.length * g
 |[],_=>by simp[Cs.szs]
 |x::r,h=>by
  have h1:=h x (List.mem_cons_self ..);have h2:=cszs_le (l:=r) fun y hy=>h y (List.mem_cons_of_mem _ hy)
  simp only[Cs.szs,List.length_cons,Nat.succ_mul];omega
theorem many_six {k:Int} {na nc:Nat} (h:Zv k na nc=false) (h2:k=7→nc≤5):na+nc≤6:=by
 unfold Zv at h;simp only[Bool.or_eq_false_iff,Bool.and_eq_false_iff,decide_eq_false_iff_not]at h;obtain⟨h,h'⟩:=h;by_cases h7:k=7
 ·have:=h2 h7;subst h7;simp at h;omega
 ·have hc:nc=0:=by
   rcases h' with h'|h'
   ·exact absurd h7 h'
   ·omega
  split at h
  ·simp at h;omega
  ·split at h
   ·simp at h;omega
   ·simp at h;omega
theorem wrong_sz (f:J6):∀(N:Nat) (t:Tm) (names:List ByteArray) (n:Nat) (deep:Int),t.sz<N→deep=25-(n:Int)→t.wrong f names deep=0→t.sz≤gB n:=by
 intro N;induction N with
 |zero=>intro t _ _ _ h;omega
 |succ N ih=>
 intro t names n deep hN hd h;obtain⟨k,m,a,b,vs,xs,cs⟩:=t;obtain⟨h1,h2,h3,h4,h5,h6,h7⟩:=R3 h;match n with
 |0=>omega
 |n+1=>
  have hx:∀x∈xs,x.sz≤gB n:=fun x hx=>by
   obtain⟨j,hj⟩:=List.mem_iff_getElem?.1 hx;exact ih x _ n (deep+1) (by have:=Tm.sz_arg (k:=k) (n:=m) (a:=a) (b:=b) (vs:=vs) (cs:=cs) hx;omega) (by omega) (Fw h6 j x hj)
  have hc:Cs.szs cs≤cs.length * gB n:=by
   by_cases h8:k=7
   ·refine cszs_le fun c hc=>?_
    obtain⟨g,ws,x⟩:=c;have:=(Dq (h7 h8).2.2 hc).2.2.2.2.2;exact ih x _ n (deep+1) (by have:=Tm.I8 (k:=k) (n:=m) (a:=a) (b:=b) (vs:=vs) (xs:=xs) hc;omega) (by omega) this
   ·have:=many_six h4 (fun h=>absurd h h8);have hl:cs.length=0:=by
     unfold Zv at h4;simp only[Bool.or_eq_false_iff,Bool.and_eq_false_iff,decide_eq_false_iff_not]at h4;rcases h4.2 with h'|h'
     ·exact absurd h8 h'
     ·omega
    have:cs=[]:=List.eq_nil_of_length_eq_zero hl;subst this;simp[Cs.szs]
  have h8:=szs_le hx;have h9:=many_six h4 fun h=>(h7 h).2.1
  simp only[Tm.sz,gB];have:xs.length * gB n+cs.length * gB n≤6 * gB n:=by
   rw[←Nat.add_mul];exact Nat.mul_le_mul_right _ h9
  omega
theorem wrong_small {f:J6} {t:Tm} {names:List ByteArray} (h:t.wrong f names 0=0):wr t.sz=t.sz:=by
 have h1:=wrong_sz f _ t names 25 0 (Nat.lt_succ_self _) (by omega) h;have h2:gB 25≤9223372036854775807:=by decide+kernel
 exact wr_id ⟨by omega,by omega⟩
theorem Nz {s:ByteArray} (more:List ByteArray):∀l:List ByteArray,s∈addN l more↔s∈l∨s∈more:=by
 induction more with
 |nil=>intro l;simp[addN]
 |cons x more ih=>
  intro l;have:=ih (if hasB l x then l else l++[x]);simp only[addN,List.foldl_cons]at this⊢;rw[this];split
  ·rename_i h;have h:=X4.1 h;simp only[List.mem_cons];constructor
   ·rintro(h|h)
    ·exact .inl h
    ·exact .inr (.inr h)
   ·rintro(h'|rfl|h')
    ·exact .inl h'
    ·exact .inl h
    ·exact .inr h'
  ·simp only[List.mem_append,List.mem_cons,List.not_mem_nil,or_false,or_assoc]
theorem X5 {s:ByteArray} {l gone:List ByteArray}:s∈woN l gone↔s∈l∧s ∉ gone:=by
 unfold woN;rw[List.mem_filter,←Nv (l:=gone)];simp
theorem mem_frees {s:ByteArray} (l:List Tm):∀o,s∈Tm.frees o l↔s∈o∨∃x∈l,s∈x.free:=by
 induction l with
 |nil=>intro o;simp[Tm.frees]
 |cons x r ih=>
  intro o;simp only[Tm.frees,ih,Nz,List.mem_cons,exists_eq_or_imp,or_assoc]
theorem O3 {s:ByteArray} (l:List Cs):∀o,s∈Cs.frees o l↔s∈o∨∃x∈l,s∈x.Mw:=by
 induction l with
 |nil=>intro o;simp[Cs.frees]
 |cons x r ih=>
  intro o;simp only[Cs.frees,ih,Nz,List.mem_cons,exists_eq_or_imp,or_assoc]
theorem wrong_free (f:J6):∀(N:Nat) (t:Tm) (names:List ByteArray) (deep:Int),t.sz<N→t.wrong f names deep=0→∀s∈t.free,s∈names:=by
 intro N;induction N with
 |zero=>intro t _ _ h;omega
 |succ N ih=>
 intro t names deep hN h s hs;obtain⟨k,m,a,b,vs,xs,cs⟩:=t;obtain⟨h1,h2,h3,h4,h5,h6,h7⟩:=R3 h;have hx:∀(j:Nat) (x:Tm),xs[j]? =some x→s∈x.free→s∈(if k=6∧0+j=1 then names++[a]else names):=fun j x hj hs=>
  ih x _ (deep+1) (by have:=Tm.sz_arg (k:=k) (n:=m) (a:=a) (b:=b) (vs:=vs) (cs:=cs) (List.mem_of_getElem? hj);omega) (Fw h6 j x hj) s hs
 simp only[Tm.free]at hs;split at hs
 ·rename_i hk;subst hk;unfold Xw at h5;rw[if_pos rfl]at h5;split at h5
  ·rename_i hh;simp at hs;subst hs;exact X4.1 hh
  ·cases h5
 split at hs
 ·rename_i hk;obtain⟨hk,hl⟩:=hk;match xs,hl with
  |[x,y],_=>
   simp only[Tm.freeL,Tm.freeB]at hs;rw[Nz,Nz,X5]at hs;rcases hs with(hs|hs)|hs
   ·cases hs
   ·have:=hx 0 x rfl hs
    rwa [if_neg (by omega)]at this
   ·have:=hx 1 y rfl hs.1;rw[if_pos (by omega)]at this;rcases List.mem_append.1 this with h|h
    ·exact h
    ·exact absurd h hs.2
 ·rename_i hk1 hk2;rw[if_neg (by omega),O3,mem_frees]at hs;rcases hs with(hs|⟨x,hm,hs⟩)|⟨c,hm,hs⟩
  ·cases hs
  ·obtain⟨j,hj⟩:=List.mem_iff_getElem?.1 hm;have:=hx j x hj hs;have hj2:j<xs.length:=by
    have:=List.getElem?_eq_some_iff.1 hj;exact this.1
   rw[if_neg]at this
   ·exact this
   rintro⟨rfl,hj1⟩;unfold Zv at h4;simp at h4;simp at hk2;exact hk2 h4.1
  ·have hk7:k=7:=by
    unfold Zv at h4;simp only[Bool.or_eq_false_iff,Bool.and_eq_false_iff,decide_eq_false_iff_not]at h4;rcases h4.2 with h'|h'
    ·omega
    ·have:=List.length_pos_of_mem hm;omega
   obtain⟨g,ws,x⟩:=c;have h8:=(Dq (h7 hk7).2.2 hm).2.2.2.2.2;simp only[Cs.Mw]at hs;rw[X5]at hs;have:=ih x _ (deep+1) (by have:=Tm.I8 (k:=k) (n:=m) (a:=a) (b:=b) (vs:=vs) (xs:=xs) hm;omega) h8 s hs.1;rcases List.mem_append.1 this with h|h
   ·exact h
   ·exact absurd h hs.2
theorem heads_zero:∀{l:List Fn} {f:J6},Cw f l=0→∀x∈l,Rw x.name=true∧twB x.params=false∧badB x.params=false∧x.params.length≤6∧wr x.body.sz≤400
 |[],_,_,x,hx=>by cases hx
 |y::r,f,h,x,hx=>by
  simp only[Cw]at h;split at h
  ·rename_i h1;exact absurd h h1
  rename_i h1;rcases List.mem_cons.1 hx with rfl|hx
  ·have h1:=Decidable.byContradiction fun e=>h1 e
   unfold Fn.Xw at h1;split at h1
   ·cases h1
   split at h1
   ·cases h1
   split at h1
   ·cases h1
   rename_i h2 h3 h4;simp only[Bool.or_eq_true,not_or,Bool.not_eq_true,Bool.not_eq_false,Bool.not_eq_true']at h2;exact⟨by simpa using h2.1.1.2,h2.1.2,h2.2,by omega,by omega⟩
  ·exact heads_zero h x hx
theorem bodies_zero {f:J6}:∀{l:List Fn},C9 f l=0→∀x∈l,x.body.wrong f x.params 0=0
 |[],_,x,hx=>by cases hx
 |y::r,h,x,hx=>by
  simp only[C9]at h;split at h
  ·rename_i h1;exact absurd h h1
  rename_i h1;rcases List.mem_cons.1 hx with rfl|hx
  ·exact Decidable.byContradiction fun e=>h1 e
  ·exact bodies_zero h x hx
structure Fn.Right (f:J6) (x:Fn):Prop where
 name:Rw x.name=true
 twice:twB x.params=false
 bad:badB x.params=false
 params:x.params.length≤6
 sz:x.body.sz≤400
 wrong:x.body.wrong f x.params 0=0
structure Fn.Fit (f:J6) (x:Fn):Prop where
 params:x.params.length≤6
 wrong:∃deep,x.body.wrong f x.params deep=0
theorem check_zero {l:List Fn} (h:Yv l=0):l.length≠0∧l.length≤6∧Cw [] l=0∧∀x∈l,x.Right (Ow l):=by
 unfold Yv at h;split at h
 ·cases h
 split at h
 ·rename_i h1;exact absurd h h1
 rename_i h1 h2;have h2:=Decidable.byContradiction fun e=>h2 e
 refine⟨by omega,by omega,h2,fun x hx=>?_⟩;obtain⟨k1,k2,k3,k4,k5⟩:=heads_zero h2 x hx;have k6:=bodies_zero h x hx;rw[wrong_small k6]at k5;exact⟨k1,k2,k3,k4,by omega,k6⟩
def Tm.Rt:Nat→Tm→Prop
 |0,_=>False
 |d+1,.mk k n a b vs xs cs=>(1≤k∧k≤7)∧Zv k xs.length cs.length=false∧xs.length+cs.length≤6∧(∀x∈xs,Tm.Rt d x)∧(∀c∈cs,c.2.length≤6∧Tm.Rt d c.3)
theorem wrong_rt (A:J6):∀(d:Nat) (t:Tm) (names:List ByteArray) (deep:Int),deep=25-(d:Int)→t.wrong A names deep=0→t.Rt d:=by
 intro d;induction d with
 |zero=>
  intro t names deep hd hw;obtain⟨k,n,a,b,vs,xs,cs⟩:=t;obtain⟨h1,_⟩:=R3 hw;omega
 |succ d ih=>
 intro t names deep hd hw;obtain⟨k,n,a,b,vs,xs,cs⟩:=t;obtain⟨h1,h2,h3,h4,h5,h6,h7⟩:=R3 hw;have hn6:=many_six h4 fun h=>(h7 h).2.1
 refine⟨⟨h2,h3⟩,h4,hn6,fun x hx=>?_,fun c hc=>?_⟩
 ·obtain⟨j,hj⟩:=List.mem_iff_getElem?.1 hx;exact ih x _ (deep+1) (by omega) (Fw h6 j x hj)
 ·obtain⟨t,ws,y⟩:=c;by_cases h8:k=7
  ·have h9:=Dq (h7 h8).2.2 hc;exact⟨h9.2.2.2.2.1,ih y _ (deep+1) (by omega) h9.2.2.2.2.2⟩
  ·exfalso;have h4':=h4;unfold Zv at h4';simp only[Bool.or_eq_false_iff,Bool.and_eq_false_iff,decide_eq_false_iff_not]at h4';have:=List.length_pos_of_mem hc;omega
abbrev Ps:=List (ByteArray×ByteArray)
def psR (p:ByteArray×ByteArray):List D:=[.str p.1,.str p.2]
abbrev psAV (ps:Ps):AV:=.d (.sl (ps.map psR))
def vNm (c:Int):ByteArray:=⟨#[118]⟩++Hz c
theorem M6:((⟨#[118]⟩:ByteArray).size≤maxLen)=True:=eq_true (by show 1≤9223372036854775807;omega)
def Xx:List ByteArray→Int→List ByteArray
 |[],_=>[]
 |_::r,c=>vNm (wr (c+1))::Xx r (wr (c+1))
def V7:List ByteArray→Int→Int
 |[],c=>c
 |_::r,c=>V7 r (wr (c+1))
theorem Vw:∀(l:List ByteArray) (c:Int),(Xx l c).length=l.length
 |[],_=>rfl
 |_::r,c=>by simp[Xx,Vw r]
def nowP (ps:Ps) (s:ByteArray):ByteArray:=ps.foldl (fun o p=>if p.1=s then p.2 else o) s
mutual
def Tm.rn:Tm→Ps→Int→Tm×Int
 | .mk k n a b vs xs cs,ps,c=>if k=1 then (.mk k n (nowP ps a) b vs [] [],c)
  else (.mk k n (Tm.rns k a ps 0 xs a c).2.1 b vs (Tm.rns k a ps 0 xs a c).1 (Cs.rnL cs ps (Tm.rns k a ps 0 xs a c).2.2).1,(Cs.rnL cs ps (Tm.rns k a ps 0 xs a c).2.2).2)
def Tm.rns (k:Int) (a:ByteArray) (ps:Ps):Nat→List Tm→ByteArray→Int→List Tm×ByteArray×Int
 |_,[],nm,c=>([],nm,c)
 |i,x::r,nm,c=>if k=6∧i=1 then
   ((x.rn (ps++[(a,vNm (wr (c+1)))]) (wr (c+1))).1::(Tm.rns k a ps (i+1) r (vNm (wr (c+1))) (x.rn (ps++[(a,vNm (wr (c+1)))]) (wr (c+1))).2).1,(Tm.rns k a ps (i+1) r (vNm (wr (c+1))) (x.rn (ps++[(a,vNm (wr (c+1)))]) (wr (c+1))).2).2)
  else ((x.rn ps c).1::(Tm.rns k a ps (i+1) r nm (x.rn ps c).2).1,(Tm.rns k a ps (i+1) r nm (x.rn ps c).2).2)
def Cs.rnL:List Cs→Ps→Int→List Cs×Int
 |[],_,c=>([],c)
 |d::r,ps,c=>((d.rn ps c).1::(Cs.rnL r ps (d.rn ps c).2).1,(Cs.rnL r ps (d.rn ps c).2).2)
def Cs.rn:Cs→Ps→Int→Cs×Int
 | .mk t ws y,ps,c=>(.mk t (Xx ws c) (y.rn (ps++ws.zip (Xx ws c)) (V7 ws c)).1,(y.rn (ps++ws.zip (Xx ws c)) (V7 ws c)).2)
end
end Go.Proofs.YtlbcipohiepjmaaDoor
namespace Go.Proofs.YtlbcipohiepjmaaDoor
open Go.RowKit
attribute [local simp] runD mkRc ldOf stOf stOk Mj Tv Rz Kv Kw Yq Y8 Xz Y4 Bj evA Vj F4 Value.oneCell' Z9 Q5 Qw frOf Uv Qj AS.after Z4 V4 Y3 AV.ids M7 Q6.ids frNo Mx Gj Uw Hq Jv Y5 Vx U3 U2 K4 toD1 Ez setAt U9 O0 F5 Av H6 Aw binI AV.cells J4 Jj H5 Wj AV.kill Q6.kill AV.has AV.Yj Op.operands Call.operands Nk Mv Z8 cChk Z0 X3 Ev moQ M9 R7 Yz AV.ren Ej Q6.ren Q6.like kept K5 Sq AV.frz Px Ox frSub M5 D9 AS.frz C8 G7 Q6.frz Fx bleF Nat.ble_eq Gw G6 Y1 D.Y2 Tj G5 V8 Vk phO Az F6 D7 K6 V5 Low Ew
abbrev nObj (c:Int):Q6:=.blk 80 [.d (.int c)]
theorem vsz (e:Int) (h:inI e):(vNm e).size≤22:=by
 have:=Uz h;show(⟨#[118]⟩++Hz e:ByteArray).size≤22;rw[ByteArray.size_append];have h1:(⟨#[118]⟩:ByteArray).size=1:=rfl;omega
theorem cs_fresh (ws:List ByteArray) (c:Int) (hw6:ws.length≤6):Y9 Tryd.prog 45 [.ptr 1000 0,Z7 ws] [(1000,nObj c)] (.tuple [Z7 (Xx ws c),psAV (ws.zip (Xx ws c))]) [(1000,nObj (V7 ws c))]:=by
 obtain⟨US,hUS⟩:∃US,US=Xx ws c:=⟨_,rfl⟩
 obtain⟨PS,hPS⟩:∃PS,PS=ws.zip US:=⟨_,rfl⟩
 obtain⟨E,hE⟩:∃E,E=V7 ws c:=⟨_,rfl⟩
 rw[←hUS,←hPS,←hE];refine Y9.of Tryd.func45 rfl rfl (Nat.le_of_ble_eq_true rfl) ?_;show AWp _ _ (Zw _ Tryd.f45 _ _) (K5 43 _ _);refine AWp.rg [] [] ?_ (hr:=by conv=>lhs;simp[psR,M6]);refine AWp.rg [] [] ?_ (hr:=by conv=>lhs;simp[psR,M6]);refine AWp.rg [] [] ?_ (hr:=by conv=>lhs;simp[psR,M6]);refine AWp.rg [] [] ?_ (hr:=by conv=>lhs;simp[psR,M6]);repeat (first|refine AWp.seq ?_|refine AWp.block ?_)
 refine AWp.le (Le.low [400,401] [] (fr:=[(0,.ptr 1000 0),(6,.arr 400 0 ([]:List ByteArray).length),(7,.arr 401 0 ([]:Ps).length),(11,.d (Q7 ws)),(12,.d (.int (ws.length:Int))),(13,.d (.int (0:Int)))]) (mem:=[(400,some (.arr 9 1 (([]:List ByteArray).map Y0))),(401,some (.arr 97 2 (([]:Ps).map psR))),(1000,some (.blk 80 [.d (.int (c:Int))]))]) rfl (by simp) (by simp)) ?_;refine AWp.loop (σ:=fun u:{u:Nat×List ByteArray×Ps×Int // u.1≤ws.length∧(Xx ws c=u.2.1++Xx (ws.drop u.1) u.2.2.2∧V7 ws c=V7 (ws.drop u.1) u.2.2.2∧u.2.1.length=u.1∧u.2.2.1=(ws.take u.1).zip u.2.1)}=>⟨43,[(0,.ptr 1000 0),(6,.arr 400 0 u.1.2.1.length),(7,.arr 401 0 u.1.2.2.1.length),(11,.d (Q7 ws)),(12,.d (.int (ws.length:Int))),(13,.d (.int (u.1.1:Int)))],[(400,some (.arr 9 1 (u.1.2.1.map Y0))),(401,some (.arr 97 2 (u.1.2.2.1.map psR))),(1000,some (.blk 80 [.d (.int u.1.2.2.2)]))]⟩)
  (μ:=fun u=>ws.length-u.1.1) ⟨(0,[],[],c),⟨Nat.zero_le _,⟨by simp,by simp,rfl,by simp⟩⟩⟩ (Le.sub (by simp) (by simp)) (fun⟨(i,us,ps,k),⟨hi4,hw⟩⟩=>?_)
 dsimp only at hi4 hw⊢;refine AWp.rg [] [] ?_ (hr:=by conv=>lhs;simp[psR,M6]);repeat (first|refine AWp.seq ?_|refine AWp.block ?_)
 refine AWp.cond rfl (fun hc=>?_) (fun hc=>?_)
 ·have hi1:i<ws.length:=by have:=of_decide_eq_true hc;omega
  clear hc;have h1x:ws[i]? =some ws[i]:=List.getElem?_eq_getElem hi1;have hmx:ws[i]∈ws:=List.getElem_mem hi1;have hdx:ws.drop i=ws[i]::ws.drop (i+1):=List.drop_eq_getElem_cons hi1;generalize ws[i]=x at h1x hmx hdx;obtain⟨hfr,hfc,hul,hps⟩:=hw;obtain⟨e,he⟩:∃e:Int,wr (k+1)=e:=⟨_,rfl⟩
  have heI:inI e:=by rw[←he];exact Mq _
  have hit:=sp_Itoa e heI;have hsz:=Uz heI;have h1s:(⟨#[118]⟩:ByteArray).size=1:=rfl;have hpl:ps.length=i:=by rw[hps,List.length_zip,hul,List.length_take];omega
  refine AWp.skip ?_;refine AWp.rg [] [] ?_ (hr:=by conv=>lhs;simp[psR,M6,h1x,he]);refine AWp.rg [4] [] ?_ (hr:=by conv=>lhs;simp[psR,M6,h1x,he]);refine AWp.rg [] [.p (fun _=>.d (.str (Hz e))) none] ?_ (hr:=by conv=>lhs;simp[psR,M6,h1x,he]);refine AWp.rg [] [] ?_ (hr:=by conv=>lhs;simp[psR,M6,h1x,he]);refine AWp.rg [] [] ?_ (hr:=by conv=>lhs;simp[psR,M6,h1x,he]);refine AWp.rg [] [] ?_ (hr:=by conv=>lhs;simp[psR,M6,h1x,he]);refine⟨⟨(i+1,us++[vNm e],ps++[(x,vNm e)],e),hi1,⟨by rw[hfr,hdx,Xx,he];simp,by rw[hfc,hdx,V7,he],by simp[hul],by rw[hps,List.take_add_one,h1x,List.zip_append (by rw[List.length_take,hul];omega)];rfl⟩⟩,by simp;omega,?_⟩;dsimp only;exact Le.sub (by simp[vNm,psR]) (by simp[vNm,psR])
 have hi1:i=ws.length:=by have:=of_decide_eq_false hc;omega
 subst hi1;clear hc;obtain⟨hfr,hfc,hul,hps⟩:=hw;rw[List.drop_length,Xx,List.append_nil]at hfr;rw[List.drop_length,V7]at hfc;rw[List.take_length]at hps;obtain rfl:us=US:=by rw[hUS,hfr]
 obtain rfl:ps=PS:=by rw[hPS,hps]
 obtain rfl:k=E:=by rw[hE,hfc]
 clear hfr hfc hps hPS hUS hE;refine AWp.exit ?_;refine AWp.rg [] [] ?_ (hr:=by conv=>lhs;simp[psR,M6]);refine AWp.ret ?_;try dsimp only[Qq,Q8]
 apply Zw.retF [400,401]
 ·rfl
 ·conv=>lhs;simp
 ·conv=>lhs;simp[Qz,Tryd.results45]
 ·rfl
 ·simp[Zx,Q5]
theorem cs_fresh1 (s:ByteArray) (c:Int):Y9 Tryd.prog 45 [.ptr 1000 0,.d (.sl [[.str s]])] [(1000,nObj c)] (.tuple [.d (.sl [[.str (vNm (wr (c+1)))]]),.d (.sl [[.str s,.str (vNm (wr (c+1)))]])]) [(1000,nObj (wr (c+1)))]:=by
 exact cs_fresh [s] c (by simp)
theorem nowP_snoc {ps:Ps} {i:Nat} {p:ByteArray×ByteArray} (h:ps[i]? =some p) (s:ByteArray):nowP (ps.take (i+1)) s=if p.1=s then p.2 else nowP (ps.take i) s:=by
 unfold nowP;rw[List.take_add_one,h,List.foldl_append];rfl
def RnE (N:Nat):Prop:=∀(t:Tm) (ps:Ps) (c:Int),t.Rt N→t.Ok→ps.length+6 * N≤1000→
 Y9 Tryd.prog 46 [.ptr 1000 0,Xj t,psAV ps] [(1000,nObj c)] (Xj (t.rn ps c).1) [(1000,nObj (t.rn ps c).2)]
theorem rn_step (N:Nat) (ih:RnE N):RnE (N+1):=by
 intro t ps c hRt hO hps;obtain⟨R,hR⟩:∃R,R=t.rn ps c:=⟨_,rfl⟩
 rw[←hR];obtain⟨tk,tn,ta,tb,tvs,txs,tcs⟩:=t;obtain⟨hkk,hmany,h6,hxR,hcR⟩:=hRt;have hxO:∀x∈txs,x.Ok:=fun x hx=>Tm.Zk.1 hO.2.2.1 x hx
 refine Y9.of Tryd.func46 rfl rfl (Nat.le_of_ble_eq_true rfl) ?_;show AWp _ _ (Zw _ Tryd.f46 _ _) (K5 118 _ _);refine AWp.rg [] [] ?_ (hr:=by conv=>lhs;simp[Tm.row,Tm.Q3,Cs.Q3,psR]);refine AWp.rg [] [] ?_ (hr:=by conv=>lhs;simp[Tm.row,Tm.Q3,Cs.Q3,psR]);refine AWp.rg [] [] ?_ (hr:=by conv=>lhs;simp[Tm.row,Tm.Q3,Cs.Q3,psR]);by_cases q1:tk=1
 ·refine AWp.rg [] [] ?_ (hr:=by conv=>lhs;simp[Tm.row,Tm.Q3,Cs.Q3,psR,q1]);refine AWp.cy ?_;subst q1;obtain rfl:R=(.mk 1 tn (nowP ps ta) tb tvs [] [],c):=by rw[hR,Tm.rn,if_pos rfl]
  refine AWp.rg [] [] ?_ (hr:=by conv=>lhs;simp[Tm.row,Tm.Q3,Cs.Q3,psR]);repeat (first|refine AWp.seq ?_|refine AWp.block ?_)
  refine AWp.loop (σ:=fun u:{u:Nat // u≤ps.length}=>⟨118,[(4,.ptr 4 0),(6,.ptr 6 0),(7,.ptr 7 0),(25,.d (.sl (ps.map psR))),(26,.d (.int (ps.length:Int))),(27,.d (.int (u.1:Int)))],[(4,some (.blk 32 [.d (.int 1),.d (.int tn),.d (.str ta),.d (.str tb),.d (Q7 tvs),.d (.sl (txs.map Tm.row)),.d (.sl (tcs.map Cs.row))])),(6,some (.blk 32 [.d (.int 0),.d (.int 0),.d (.str ByteArray.empty),.d (.str ByteArray.empty),.lit (.slice none 0 0),.lit (.slice none 0 0),.lit (.slice none 0 0)])),(7,some (.blk 32 [.d (.int 1),.d (.int tn),.d (.str (nowP (ps.take u.1) ta)),.d (.str tb),.d (Q7 tvs),.lit (.slice none 0 0),.lit (.slice none 0 0)])),(1000,some (.blk 80 [.d (.int c)]))]⟩)
   (μ:=fun u=>ps.length-u.1) ⟨0,Nat.zero_le _⟩ (Le.sub (by simp[nowP]) (by simp[nowP])) (fun⟨i,hi5⟩=>?_)
  dsimp only;refine AWp.rg [] [] ?_ (hr:=by conv=>lhs;simp[Tm.row,Tm.Q3,Cs.Q3,psR]);repeat (first|refine AWp.seq ?_|refine AWp.block ?_)
  refine AWp.cond rfl (fun hc=>?_) (fun hc=>?_)
  ·have hi1:i<ps.length:=by have:=of_decide_eq_true hc;omega
   clear hc;have h1p:ps[i]? =some ps[i]:=List.getElem?_eq_getElem hi1;have hmp:ps[i]∈ps:=List.getElem_mem hi1;have hdp:ps.drop i=ps[i]::ps.drop (i+1):=List.drop_eq_getElem_cons hi1;generalize ps[i]=p at h1p hmp hdp;have hsn:=nowP_snoc h1p ta;generalize nowP (ps.take i) ta=nw at hsn⊢;obtain⟨pf,pg⟩:=p;refine AWp.skip ?_;refine AWp.rg [] [] ?_ (hr:=by conv=>lhs;simp[Tm.row,Tm.Q3,Cs.Q3,psR,h1p]);by_cases q2:pf=ta
   ·refine AWp.rg [] [] ?_ (hr:=by conv=>lhs;simp[Tm.row,Tm.Q3,Cs.Q3,psR,h1p,q2]);refine AWp.cy ?_;refine AWp.rg [] [] ?_ (hr:=by conv=>lhs;simp[Tm.row,Tm.Q3,Cs.Q3,psR,h1p,q2]);refine AWp.rg [] [] ?_ (hr:=by conv=>lhs;simp[Tm.row,Tm.Q3,Cs.Q3,psR,h1p,q2]);refine⟨⟨i+1,hi1⟩,by simp;omega,?_⟩;dsimp only;rw[if_pos (by assumption)]at hsn;rw[hsn];exact Le.sub (by simp) (by simp)
   refine AWp.rg [] [] ?_ (hr:=by conv=>lhs;simp[Tm.row,Tm.Q3,Cs.Q3,psR,h1p,q2]);refine AWp.cn ?_;refine AWp.skip ?_;refine AWp.rg [] [] ?_ (hr:=by conv=>lhs;simp[Tm.row,Tm.Q3,Cs.Q3,psR,h1p,q2]);refine⟨⟨i+1,hi1⟩,by simp;omega,?_⟩;dsimp only;rw[if_neg (by assumption)]at hsn;rw[hsn];exact Le.sub (by simp) (by simp)
  have hi1:i=ps.length:=by have:=of_decide_eq_false hc;omega
  subst hi1;clear hc;rw[List.take_length];refine AWp.exit ?_;refine AWp.rg [] [] ?_ (hr:=by conv=>lhs;simp[Tm.row,Tm.Q3,Cs.Q3,psR]);refine AWp.ret ?_;try dsimp only[Qq,Q8]
  apply Zw.ret
  ·rfl
  ·conv=>lhs;simp[Qz,Tryd.results46]
  ·rfl
  ·simp[Zx,Q5]
 refine AWp.rg [] [] ?_ (hr:=by conv=>lhs;simp[Tm.row,Tm.Q3,Cs.Q3,psR,q1]);refine AWp.cn ?_;refine AWp.skip ?_;rw[Tm.rn,if_neg q1]at hR;refine AWp.rg [] [] ?_ (hr:=by conv=>lhs;simp[Tm.row,Tm.Q3,Cs.Q3,psR,q1]);repeat (first|refine AWp.seq ?_|refine AWp.block ?_)
 refine AWp.le (Le.low [400] [] (fr:=[(0,.ptr 1000 0),(2,.d (.sl (ps.map psR))),(4,.ptr 4 0),(6,.ptr 6 0),(7,.ptr 7 0),(42,.d (.sl (txs.map Tm.row))),(43,.d (.int (txs.length:Int))),(44,.d (.int (0:Int)))]) (mem:=[(4,some (.blk 32 [.d (.int tk),.d (.int tn),.d (.str ta),.d (.str tb),.d (Q7 tvs),.d (.sl (txs.map Tm.row)),.d (.sl (tcs.map Cs.row))])),(6,some (.blk 32 [.d (.int 0),.d (.int 0),.d (.str ByteArray.empty),.d (.str ByteArray.empty),.lit (.slice none 0 0),.lit (.slice none 0 0),.lit (.slice none 0 0)])),(7,some (.blk 32 [.d (.int tk),.d (.int tn),.d (.str (ta:ByteArray)),.d (.str tb),.d (Q7 tvs),.arr 400 0 ([]:List Tm).length,.lit (.slice none 0 0)])),(400,some (.arr 32 7 (([]:List Tm).map Tm.row))),(1000,some (.blk 80 [.d (.int (c:Int))]))]) rfl (by simp) (by simp)) ?_;refine AWp.loop (σ:=fun u:{u:Nat×List Tm×ByteArray×Int // u.1≤txs.length∧(Tm.rns tk ta ps 0 txs ta c=(u.2.1++(Tm.rns tk ta ps u.1 (txs.drop u.1) u.2.2.1 u.2.2.2).1,(Tm.rns tk ta ps u.1 (txs.drop u.1) u.2.2.1 u.2.2.2).2)∧u.2.1.length=u.1)}=>⟨118,[(0,.ptr 1000 0),(2,.d (.sl (ps.map psR))),(4,.ptr 4 0),(6,.ptr 6 0),(7,.ptr 7 0),(42,.d (.sl (txs.map Tm.row))),(43,.d (.int (txs.length:Int))),(44,.d (.int (u.1.1:Int)))],[(4,some (.blk 32 [.d (.int tk),.d (.int tn),.d (.str ta),.d (.str tb),.d (Q7 tvs),.d (.sl (txs.map Tm.row)),.d (.sl (tcs.map Cs.row))])),(6,some (.blk 32 [.d (.int 0),.d (.int 0),.d (.str ByteArray.empty),.d (.str ByteArray.empty),.lit (.slice none 0 0),.lit (.slice none 0 0),.lit (.slice none 0 0)])),(7,some (.blk 32 [.d (.int tk),.d (.int tn),.d (.str u.1.2.2.1),.d (.str tb),.d (Q7 tvs),.arr 400 0 u.1.2.1.length,.lit (.slice none 0 0)])),(400,some (.arr 32 7 (u.1.2.1.map Tm.row))),(1000,some (.blk 80 [.d (.int u.1.2.2.2)]))]⟩)
  (μ:=fun u=>txs.length-u.1.1) ⟨(0,[],ta,c),⟨Nat.zero_le _,⟨by simp,rfl⟩⟩⟩ (Le.sub (by simp) (by simp)) (fun⟨(i,ys,nm,c1),⟨hi12,hw⟩⟩=>?_)
 dsimp only at hi12 hw⊢;refine AWp.rg [] [] ?_ (hr:=by conv=>lhs;simp[Tm.row,Tm.Q3,Cs.Q3,psR,q1]);repeat (first|refine AWp.seq ?_|refine AWp.block ?_)
 refine AWp.cond rfl (fun hc=>?_) (fun hc=>?_)
 ·have hi1:i<txs.length:=by have:=of_decide_eq_true hc;omega
  clear hc;have h1y:txs[i]? =some txs[i]:=List.getElem?_eq_getElem hi1;have hmy:txs[i]∈txs:=List.getElem_mem hi1;have hdy:txs.drop i=txs[i]::txs.drop (i+1):=List.drop_eq_getElem_cons hi1;generalize txs[i]=y at h1y hmy hdy;obtain⟨hap,hyl⟩:=hw;have hyR:=hxR y hmy;rw[hdy]at hap;refine AWp.skip ?_;by_cases hk6:tk=6
  ·by_cases hi1e:(i:Int)=1
   ·have hi1t:=eq_true hi1e;rw[Tm.rns,if_pos ⟨hk6,by omega⟩]at hap;obtain⟨e,he⟩:∃e:Int,e=wr (c1+1):=⟨_,rfl⟩
    rw[←he]at hap;have hfr:=cs_fresh1 ta c1;rw[←he]at hfr;obtain⟨v,hv⟩:∃v,v=vNm e:=⟨_,rfl⟩
    rw[←hv]at hfr hap;obtain⟨nw,hnw⟩:∃nw,nw=ps++[(ta,v)]:=⟨_,rfl⟩
    rw[←hnw]at hap;have hnw2:List.take (ps.length+1) (List.map psR ps++[[D.str ta,D.str v]])=List.map psR nw:=by rw[hnw,List.map_append,List.take_of_length_le (by simp)];rfl
    have hx:=ih y nw e hyR (hxO y hmy) (by rw[hnw,List.length_append,List.length_singleton];omega);generalize y.rn nw e=o at hx hap;obtain⟨z,c2⟩:=o;dsimp only at hx hap;obtain⟨yk,yn,ya,yb,yvs,yxs,ycs⟩:=y;obtain⟨zk,zn,za,zb,zvs,zxs,zcs⟩:=z;refine AWp.rg [] [] ?_ (hr:=by conv=>lhs;simp[Tm.row,Tm.Q3,Cs.Q3,psR,h1y,hnw2,q1,hk6,hi1t]);refine AWp.rg [] [] ?_ (hr:=by conv=>lhs;simp[Tm.row,Tm.Q3,Cs.Q3,psR,h1y,hnw2,q1,hk6,hi1t]);refine AWp.rg [] [] ?_ (hr:=by conv=>lhs;simp[Tm.row,Tm.Q3,Cs.Q3,psR,h1y,hnw2,q1,hk6,hi1t]);refine AWp.cy ?_;refine AWp.rg [3] [.c [] [.ptr 1000 0,.d (.sl [[.str ta]])] [(1000,.blk 80 [.d (.int c1)])] (.tuple [.d (.sl [[.str v]]),.d (.sl [[.str ta,.str v]])]) [(1000,.blk 80 [.d (.int e)])]] ?_ (hr:=by conv=>lhs;simp[Tm.row,Tm.Q3,Cs.Q3,psR,h1y,hnw2,q1,hk6,hi1t]);refine AWp.rg [] [] ?_ (hr:=by conv=>lhs;simp[Tm.row,Tm.Q3,Cs.Q3,psR,h1y,hnw2,q1,hk6,hi1t]);refine AWp.rg [4] [] ?_ (hr:=by conv=>lhs;simp[Tm.row,Tm.Q3,Cs.Q3,psR,h1y,hnw2,q1,hk6,hi1t]);refine AWp.dw [] [.c [] [.ptr 1000 0,.agg [.d (.int yk),.d (.int yn),.d (.str ya),.d (.str yb),.d (Q7 yvs),.d (.sl (yxs.map Tm.row)),.d (.sl (ycs.map Cs.row))],.d (.sl (nw.map psR))] [(1000,.blk 80 [.d (.int e)])] (.agg [.d (.int zk),.d (.int zn),.d (.str za),.d (.str zb),.d (Q7 zvs),.d (.sl (zxs.map Tm.row)),.d (.sl (zcs.map Cs.row))]) [(1000,.blk 80 [.d (.int c2)])]] mixed ?_ (hr:=by conv=>lhs;simp[Tm.row,Tm.Q3,Cs.Q3,psR,h1y,hnw2,q1,hk6,hi1t]);refine AWp.rg [] [] ?_ (hr:=by conv=>lhs;simp[Tm.row,Tm.Q3,Cs.Q3,psR,h1y,hnw2,q1,hk6,hi1t]);refine⟨⟨(i+1,ys++[.mk zk zn za zb zvs zxs zcs],v,c2),hi1,⟨by rw[hap];simp,by simp[hyl]⟩⟩,by simp;omega,?_⟩;dsimp only;exact Le.sub (by simp[Tm.row,Tm.Q3,Cs.Q3,hyl,hk6]) (by simp[Tm.row,Tm.Q3,Cs.Q3,hyl,hk6])
   have hi1n:=hi1e;rw[Tm.rns,if_neg (fun h=>hi1e (by have:=h.2;omega))]at hap;have hx:=ih y ps c1 hyR (hxO y hmy) (by omega);generalize y.rn ps c1=o at hx hap;obtain⟨z,c2⟩:=o;dsimp only at hx hap;obtain⟨yk,yn,ya,yb,yvs,yxs,ycs⟩:=y;obtain⟨zk,zn,za,zb,zvs,zxs,zcs⟩:=z;refine AWp.rg [] [] ?_ (hr:=by conv=>lhs;simp[Tm.row,Tm.Q3,Cs.Q3,psR,h1y,q1,hk6,hi1n]);refine AWp.rg [] [] ?_ (hr:=by conv=>lhs;simp[Tm.row,Tm.Q3,Cs.Q3,psR,h1y,q1,hk6,hi1n]);refine AWp.rg [] [] ?_ (hr:=by conv=>lhs;simp[Tm.row,Tm.Q3,Cs.Q3,psR,h1y,q1,hk6,hi1n]);refine AWp.cn ?_;refine AWp.skip ?_;refine AWp.dw [] [.c [] [.ptr 1000 0,.agg [.d (.int yk),.d (.int yn),.d (.str ya),.d (.str yb),.d (Q7 yvs),.d (.sl (yxs.map Tm.row)),.d (.sl (ycs.map Cs.row))],.d (.sl (ps.map psR))] [(1000,.blk 80 [.d (.int c1)])] (.agg [.d (.int zk),.d (.int zn),.d (.str za),.d (.str zb),.d (Q7 zvs),.d (.sl (zxs.map Tm.row)),.d (.sl (zcs.map Cs.row))]) [(1000,.blk 80 [.d (.int c2)])]] mixed ?_ (hr:=by conv=>lhs;simp[Tm.row,Tm.Q3,Cs.Q3,psR,h1y,q1,hk6,hi1n]);refine AWp.rg [] [] ?_ (hr:=by conv=>lhs;simp[Tm.row,Tm.Q3,Cs.Q3,psR,h1y,q1,hk6,hi1n]);refine⟨⟨(i+1,ys++[.mk zk zn za zb zvs zxs zcs],nm,c2),hi1,⟨by rw[hap];simp,by simp[hyl]⟩⟩,by simp;omega,?_⟩;dsimp only;exact Le.sub (by simp[Tm.row,Tm.Q3,Cs.Q3,hyl,hk6]) (by simp[Tm.row,Tm.Q3,Cs.Q3,hyl,hk6])
  rw[Tm.rns,if_neg (fun h=>hk6 h.1)]at hap;have hx:=ih y ps c1 hyR (hxO y hmy) (by omega);generalize y.rn ps c1=o at hx hap;obtain⟨z,c2⟩:=o;dsimp only at hx hap;obtain⟨yk,yn,ya,yb,yvs,yxs,ycs⟩:=y;obtain⟨zk,zn,za,zb,zvs,zxs,zcs⟩:=z;refine AWp.rg [] [] ?_ (hr:=by conv=>lhs;simp[Tm.row,Tm.Q3,Cs.Q3,psR,h1y,q1,hk6]);refine AWp.rg [] [] ?_ (hr:=by conv=>lhs;simp[Tm.row,Tm.Q3,Cs.Q3,psR,h1y,q1,hk6]);refine AWp.rg [] [] ?_ (hr:=by conv=>lhs;simp[Tm.row,Tm.Q3,Cs.Q3,psR,h1y,q1,hk6]);refine AWp.cn ?_;refine AWp.skip ?_;refine AWp.dw [] [.c [] [.ptr 1000 0,.agg [.d (.int yk),.d (.int yn),.d (.str ya),.d (.str yb),.d (Q7 yvs),.d (.sl (yxs.map Tm.row)),.d (.sl (ycs.map Cs.row))],.d (.sl (ps.map psR))] [(1000,.blk 80 [.d (.int c1)])] (.agg [.d (.int zk),.d (.int zn),.d (.str za),.d (.str zb),.d (Q7 zvs),.d (.sl (zxs.map Tm.row)),.d (.sl (zcs.map Cs.row))]) [(1000,.blk 80 [.d (.int c2)])]] mixed ?_ (hr:=by conv=>lhs;simp[Tm.row,Tm.Q3,Cs.Q3,psR,h1y,q1,hk6]);refine AWp.rg [] [] ?_ (hr:=by conv=>lhs;simp[Tm.row,Tm.Q3,Cs.Q3,psR,h1y,q1,hk6]);refine⟨⟨(i+1,ys++[.mk zk zn za zb zvs zxs zcs],nm,c2),hi1,⟨by rw[hap];simp,by simp[hyl]⟩⟩,by simp;omega,?_⟩;dsimp only;exact Le.sub (by simp[Tm.row,Tm.Q3,Cs.Q3,hyl]) (by simp[Tm.row,Tm.Q3,Cs.Q3,hyl])
 have hi1:i=txs.length:=by have:=of_decide_eq_false hc;omega
 subst hi1;clear hc;obtain⟨hap,hyl⟩:=hw;rw[List.drop_length,Tm.rns]at hap;simp only[List.append_nil]at hap;rw[hap]at hR;dsimp only at hR;clear hap;refine AWp.exit ?_;refine AWp.rg [] [] ?_ (hr:=by conv=>lhs;simp[Tm.row,Tm.Q3,Cs.Q3,psR,q1]);repeat (first|refine AWp.seq ?_|refine AWp.block ?_)
 refine AWp.le (Le.low [401] [] (fr:=[(0,.ptr 1000 0),(2,.d (.sl (ps.map psR))),(6,.ptr 6 0),(7,.ptr 7 0),(85,.d (.sl (tcs.map Cs.row))),(86,.d (.int (tcs.length:Int))),(87,.d (.int (0:Int)))]) (mem:=[(6,some (.blk 32 [.d (.int 0),.d (.int 0),.d (.str ByteArray.empty),.d (.str ByteArray.empty),.lit (.slice none 0 0),.lit (.slice none 0 0),.lit (.slice none 0 0)])),(7,some (.blk 32 [.d (.int tk),.d (.int tn),.d (.str nm),.d (.str tb),.d (Q7 tvs),.arr 400 0 ys.length,.arr 401 0 ([]:List Cs).length])),(400,some (.arr 32 7 (ys.map Tm.row))),(401,some (.arr 42 9 (([]:List Cs).map Cs.row))),(1000,some (.blk 80 [.d (.int (c1:Int))]))]) rfl (by simp) (by simp)) ?_;refine AWp.loop (σ:=fun u:{u:Nat×List Cs×Int // u.1≤tcs.length∧(Cs.rnL tcs ps c1=(u.2.1++(Cs.rnL (tcs.drop u.1) ps u.2.2).1,(Cs.rnL (tcs.drop u.1) ps u.2.2).2)∧u.2.1.length=u.1)}=>⟨118,[(0,.ptr 1000 0),(2,.d (.sl (ps.map psR))),(6,.ptr 6 0),(7,.ptr 7 0),(85,.d (.sl (tcs.map Cs.row))),(86,.d (.int (tcs.length:Int))),(87,.d (.int (u.1.1:Int)))],[(6,some (.blk 32 [.d (.int 0),.d (.int 0),.d (.str ByteArray.empty),.d (.str ByteArray.empty),.lit (.slice none 0 0),.lit (.slice none 0 0),.lit (.slice none 0 0)])),(7,some (.blk 32 [.d (.int tk),.d (.int tn),.d (.str nm),.d (.str tb),.d (Q7 tvs),.arr 400 0 ys.length,.arr 401 0 u.1.2.1.length])),(400,some (.arr 32 7 (ys.map Tm.row))),(401,some (.arr 42 9 (u.1.2.1.map Cs.row))),(1000,some (.blk 80 [.d (.int u.1.2.2)]))]⟩)
  (μ:=fun u=>tcs.length-u.1.1) ⟨(0,[],c1),⟨Nat.zero_le _,⟨by simp,rfl⟩⟩⟩ (Le.sub (by simp) (by simp)) (fun⟨(i,ds,c3),⟨hi22,hw2⟩⟩=>?_)
 dsimp only at hi22 hw2⊢;refine AWp.rg [] [] ?_ (hr:=by conv=>lhs;simp[Tm.row,Tm.Q3,Cs.Q3,psR,q1]);repeat (first|refine AWp.seq ?_|refine AWp.block ?_)
 refine AWp.cond rfl (fun hc=>?_) (fun hc=>?_)
 ·have hi1:i<tcs.length:=by have:=of_decide_eq_true hc;omega
  clear hc;have h1d:tcs[i]? =some tcs[i]:=List.getElem?_eq_getElem hi1;have hmd:tcs[i]∈tcs:=List.getElem_mem hi1;have hdd:tcs.drop i=tcs[i]::tcs.drop (i+1):=List.drop_eq_getElem_cons hi1;generalize tcs[i]=d at h1d hmd hdd;obtain⟨hap,hdl⟩:=hw2;rw[hdd,Cs.rnL]at hap;have hdR:=hcR d hmd;obtain⟨dt,dws,y⟩:=d;obtain⟨hw6,hyR⟩:=hdR;dsimp only at hw6 hyR;rw[Cs.rn]at hap;have hfr:=cs_fresh dws c3 hw6;obtain⟨e,he⟩:∃e:Int,e=V7 dws c3:=⟨_,rfl⟩
  rw[←he]at hfr hap;have hul:=Vw dws c3;generalize Xx dws c3=us at hfr hap hul;have hpxl:(dws.zip us).length=dws.length:=by rw[List.length_zip];omega
  generalize dws.zip us=PX at hfr hap hpxl;obtain⟨nw,hnw⟩:∃nw,nw=ps++PX:=⟨_,rfl⟩
  rw[←hnw]at hap;have hnw2:List.take (ps.length+PX.length) (List.map psR ps++List.map psR PX)=List.map psR nw:=by rw[hnw,List.map_append,List.take_of_length_le (by simp)]
  have hx:=ih y nw e hyR (Cs.Zk.1 hO.2.2.2 _ hmd).2.2 (by rw[hnw,List.length_append];omega);generalize y.rn nw e=o at hx hap;obtain⟨z,c2⟩:=o;dsimp only at hx hap;obtain⟨dk,dn,da,db,dvs,dxs,dcs⟩:=y;obtain⟨zk,zn,za,zb,zvs,zxs,zcs⟩:=z;refine AWp.skip ?_;refine AWp.rg [] [] ?_ (hr:=by conv=>lhs;simp[Tm.row,Tm.Q3,Cs.Q3,psR,h1d,Cs.row,hnw2,q1]);refine AWp.rg [] [.c [] [.ptr 1000 0,.d (Q7 dws)] [(1000,.blk 80 [.d (.int c3)])] (.tuple [.d (Q7 us),.d (.sl (PX.map psR))]) [(1000,.blk 80 [.d (.int e)])]] ?_ (hr:=by conv=>lhs;simp[Tm.row,Tm.Q3,Cs.Q3,psR,h1d,Cs.row,hnw2,q1]);refine AWp.dw [12] [.c [] [.ptr 1000 0,.agg [.d (.int dk),.d (.int dn),.d (.str da),.d (.str db),.d (Q7 dvs),.d (.sl (dxs.map Tm.row)),.d (.sl (dcs.map Cs.row))],.d (.sl (nw.map psR))] [(1000,.blk 80 [.d (.int e)])] (.agg [.d (.int zk),.d (.int zn),.d (.str za),.d (.str zb),.d (Q7 zvs),.d (.sl (zxs.map Tm.row)),.d (.sl (zcs.map Cs.row))]) [(1000,.blk 80 [.d (.int c2)])]] mixed ?_ (hr:=by conv=>lhs;simp[Tm.row,Tm.Q3,Cs.Q3,psR,h1d,Cs.row,hnw2,q1]);refine AWp.rg [] [] ?_ (hr:=by conv=>lhs;simp[Tm.row,Tm.Q3,Cs.Q3,psR,h1d,Cs.row,hnw2,q1]);refine⟨⟨(i+1,ds++[.mk dt us (.mk zk zn za zb zvs zxs zcs)],c2),hi1,⟨by rw[hap];simp,by simp[hdl]⟩⟩,by simp;omega,?_⟩;dsimp only;exact Le.sub (by simp[Cs.row,Tm.row,Tm.Q3,Cs.Q3,hdl]) (by simp[Cs.row,Tm.row,Tm.Q3,Cs.Q3,hdl])
 have hi1:i=tcs.length:=by have:=of_decide_eq_false hc;omega
 subst hi1;clear hc;obtain⟨hap,hdl⟩:=hw2;rw[List.drop_length,Cs.rnL]at hap;simp only[List.append_nil]at hap;rw[hap]at hR;dsimp only at hR;subst hR;refine AWp.exit ?_;refine AWp.rg [] [] ?_ (hr:=by conv=>lhs;simp[Tm.row,Tm.Q3,Cs.Q3,psR,q1]);refine AWp.ret ?_;try dsimp only[Qq,Q8]
 apply Zw.retF [400,401]
 ·rfl
 ·conv=>lhs;simp
 ·conv=>lhs;simp[Qz,Tryd.results46]
 ·rfl
 ·simp[Zx,Q5]
theorem rn_all:∀N,RnE N
 |0=>fun _ _ _ h=>h.elim
 |N+1=>rn_step N (rn_all N)
theorem sp_pickI (l o:List ByteArray) (hl:l.length≤8796093022207) (ho:o.length≤8796093022208):Qv Tryd.prog 50 [Z7 l,Z7 o,.d (.bool true)] (fun _=>Z7 (inN l o)) none:=by
 refine Qv.of Tryd.func50 rfl rfl rfl (Nat.le_of_ble_eq_true rfl) ?_;show AWp _ _ (Z5 _ Tryd.f50 _ _ _) (Qw 27 _);refine AWp.rg [] [] ?_;refine AWp.rg [] [] ?_;refine AWp.rg [] [] ?_;repeat (first|refine AWp.seq ?_|refine AWp.block ?_)
 refine AWp.le (Le.low [400] [] (fr:=[(1,.d (Q7 o)),(2,.d (.bool true)),(7,.arr 400 0 ([]:List ByteArray).length),(10,.d (Q7 l)),(11,.d (.int (l.length:Int))),(12,.d (.int (0:Int)))]) (mem:=[(400,some (.arr 9 1 (([]:List ByteArray).map Y0)))]) rfl (by simp) (by simp)) ?_;refine AWp.loop (σ:=fun u:{u:Nat×List ByteArray // u.1≤l.length∧u.2=inN (l.take u.1) o}=>⟨27,[(1,.d (Q7 o)),(2,.d (.bool true)),(7,.arr 400 0 u.1.2.length),(10,.d (Q7 l)),(11,.d (.int (l.length:Int))),(12,.d (.int (u.1.1:Int)))],[(400,some (.arr 9 1 (u.1.2.map Y0)))]⟩)
  (μ:=fun u=>l.length-u.1.1) ⟨(0,[]),⟨Nat.zero_le _,by simp[inN]⟩⟩ (Le.sub (by simp) (by simp)) (fun⟨(i,us),⟨hi3,hw⟩⟩=>?_)
 dsimp only at hi3 hw⊢;refine AWp.rg [] [] ?_;repeat (first|refine AWp.seq ?_|refine AWp.block ?_)
 refine AWp.cond rfl (fun hc=>?_) (fun hc=>?_)
 ·have hi1:i<l.length:=by have:=of_decide_eq_true hc;omega
  clear hc;have h1x:l[i]? =some l[i]:=List.getElem?_eq_getElem hi1;have hmx:l[i]∈l:=List.getElem_mem hi1;have hdx:l.drop i=l[i]::l.drop (i+1):=List.drop_eq_getElem_cons hi1;generalize l[i]=x at h1x hmx hdx;have hul:us.length≤i:=by have:=Pz (l.take i) o;rw[hw];rw[List.length_take]at this;omega
  have hsn:=inN_snoc o h1x;rw[←hw]at hsn;have hc:=sp_Has o x ho;generalize hasB o x=q at hc hsn;refine AWp.skip ?_;refine AWp.rg [] [] ?_ (hr:=by conv=>lhs;simp[h1x]);cases q with
  |true=>
   refine AWp.rg [] [.p (fun _=>.d (.bool true)) none] ?_ (hr:=by conv=>lhs;simp[h1x]);refine AWp.cy ?_;refine AWp.rg [] [] ?_ (hr:=by conv=>lhs;simp[h1x]);refine AWp.rg [] [] ?_ (hr:=by conv=>lhs;simp[h1x]);refine⟨⟨(i+1,us++[x]),hi1,by rw[hsn];rfl⟩,by simp;omega,?_⟩;dsimp only;exact Le.sub (by simp) (by simp)
  |false=>
   refine AWp.rg [] [.p (fun _=>.d (.bool false)) none] ?_ (hr:=by conv=>lhs;simp[h1x]);refine AWp.cn ?_;refine AWp.skip ?_;refine AWp.rg [] [] ?_ (hr:=by conv=>lhs;simp[h1x]);refine⟨⟨(i+1,us),hi1,by rw[hsn];rfl⟩,by simp;omega,?_⟩;dsimp only;exact Le.sub (by simp) (by simp)
 have hi1:i=l.length:=by have:=of_decide_eq_false hc;omega
 subst hi1;clear hc;rw[List.take_length]at hw;subst hw;refine AWp.exit ?_;refine AWp.rg [] [] ?_;refine AWp.ret ?_;try dsimp only[Qq,Q8]
 apply Z5.retF [400]
 ·rfl
 ·conv=>lhs;simp
 ·conv=>lhs;simp[Qz,Tryd.results50]
 rfl
theorem sp_pickO (l o:List ByteArray) (hl:l.length≤8796093022207) (ho:o.length≤8796093022208):Qv Tryd.prog 50 [Z7 l,Z7 o,.d (.bool false)] (fun _=>Z7 (woN l o)) none:=by
 refine Qv.of Tryd.func50 rfl rfl rfl (Nat.le_of_ble_eq_true rfl) ?_;show AWp _ _ (Z5 _ Tryd.f50 _ _ _) (Qw 27 _);refine AWp.rg [] [] ?_;refine AWp.rg [] [] ?_;refine AWp.rg [] [] ?_;repeat (first|refine AWp.seq ?_|refine AWp.block ?_)
 refine AWp.le (Le.low [400] [] (fr:=[(1,.d (Q7 o)),(2,.d (.bool false)),(7,.arr 400 0 ([]:List ByteArray).length),(10,.d (Q7 l)),(11,.d (.int (l.length:Int))),(12,.d (.int (0:Int)))]) (mem:=[(400,some (.arr 9 1 (([]:List ByteArray).map Y0)))]) rfl (by simp) (by simp)) ?_;refine AWp.loop (σ:=fun u:{u:Nat×List ByteArray // u.1≤l.length∧u.2=woN (l.take u.1) o}=>⟨27,[(1,.d (Q7 o)),(2,.d (.bool false)),(7,.arr 400 0 u.1.2.length),(10,.d (Q7 l)),(11,.d (.int (l.length:Int))),(12,.d (.int (u.1.1:Int)))],[(400,some (.arr 9 1 (u.1.2.map Y0)))]⟩)
  (μ:=fun u=>l.length-u.1.1) ⟨(0,[]),⟨Nat.zero_le _,by simp[woN]⟩⟩ (Le.sub (by simp) (by simp)) (fun⟨(i,us),⟨hi3,hw⟩⟩=>?_)
 dsimp only at hi3 hw⊢;refine AWp.rg [] [] ?_;repeat (first|refine AWp.seq ?_|refine AWp.block ?_)
 refine AWp.cond rfl (fun hc=>?_) (fun hc=>?_)
 ·have hi1:i<l.length:=by have:=of_decide_eq_true hc;omega
  clear hc;have h1x:l[i]? =some l[i]:=List.getElem?_eq_getElem hi1;have hmx:l[i]∈l:=List.getElem_mem hi1;have hdx:l.drop i=l[i]::l.drop (i+1):=List.drop_eq_getElem_cons hi1;generalize l[i]=x at h1x hmx hdx;have hul:us.length≤i:=by have:=L8 (l.take i) o;rw[hw];rw[List.length_take]at this;omega
  have hsn:=woN_snoc o h1x;rw[←hw]at hsn;have hc:=sp_Has o x ho;generalize hasB o x=q at hc hsn;refine AWp.skip ?_;refine AWp.rg [] [] ?_ (hr:=by conv=>lhs;simp[h1x]);cases q with
  |true=>
   refine AWp.rg [] [.p (fun _=>.d (.bool true)) none] ?_ (hr:=by conv=>lhs;simp[h1x]);refine AWp.cn ?_;refine AWp.skip ?_;refine AWp.rg [] [] ?_ (hr:=by conv=>lhs;simp[h1x]);refine⟨⟨(i+1,us),hi1,by rw[hsn];rfl⟩,by simp;omega,?_⟩;dsimp only;exact Le.sub (by simp) (by simp)
  |false=>
   refine AWp.rg [] [.p (fun _=>.d (.bool false)) none] ?_ (hr:=by conv=>lhs;simp[h1x]);refine AWp.cy ?_;refine AWp.rg [] [] ?_ (hr:=by conv=>lhs;simp[h1x]);refine AWp.rg [] [] ?_ (hr:=by conv=>lhs;simp[h1x]);refine⟨⟨(i+1,us++[x]),hi1,by rw[hsn];rfl⟩,by simp;omega,?_⟩;dsimp only;exact Le.sub (by simp) (by simp)
 have hi1:i=l.length:=by have:=of_decide_eq_false hc;omega
 subst hi1;clear hc;rw[List.take_length]at hw;subst hw;refine AWp.exit ?_;refine AWp.rg [] [] ?_;refine AWp.ret ?_;try dsimp only[Qq,Q8]
 apply Z5.retF [400]
 ·rfl
 ·conv=>lhs;simp
 ·conv=>lhs;simp[Qz,Tryd.results50]
 rfl
theorem cnt_append (k:Int):∀(x y:List ByteArray) (t:Tm),cnt k (x++y) t=cnt k x (cnt k y t)
 |[],_,_=>rfl
 |b::r,y,t=>by simp only[List.cons_append,cnt,cnt_append k r y t]
theorem V9 (kd:Int) (l:List ByteArray) (tk tn:Int) (ta tb:ByteArray) (tvs:List ByteArray) (txs:List Tm) (tcs:List Cs) (hl:l.length≤8796093022207):Qv Tryd.prog 51 [.d (.int kd),Z7 l,Xj (.mk tk tn ta tb tvs txs tcs)] (fun _=>Xj (cnt kd l (.mk tk tn ta tb tvs txs tcs))) none:=by
 obtain⟨R,hR⟩:∃R,R=cnt kd l (.mk tk tn ta tb tvs txs tcs):=⟨_,rfl⟩
 rw[←hR];obtain⟨rk,rn,ra,rb,rvs,rxs,rcs⟩:=R;refine Qv.of Tryd.func51 rfl rfl rfl (Nat.le_of_ble_eq_true rfl) ?_;show AWp _ _ (Z5 _ Tryd.f51 _ _ _) (Qw 24 _);refine AWp.rg [] [] ?_ (hr:=by conv=>lhs;simp[Tm.row,Tm.Q3,Cs.Q3]);refine AWp.rg [] [] ?_ (hr:=by conv=>lhs;simp[Tm.row,Tm.Q3,Cs.Q3]);repeat (first|refine AWp.seq ?_|refine AWp.block ?_)
 refine AWp.loop (σ:=fun u:{u:Nat×Int×Int×ByteArray×ByteArray×List ByteArray×List Tm×List Cs // (cnt kd l (.mk tk tn ta tb tvs txs tcs)=cnt kd (l.take u.1) (.mk u.2.1 u.2.2.1 u.2.2.2.1 u.2.2.2.2.1 u.2.2.2.2.2.1 u.2.2.2.2.2.2.1 u.2.2.2.2.2.2.2)∧u.1≤l.length)}=>⟨24,[(0,.d (.int kd)),(1,.d (Q7 l)),(5,.ptr 5 0),(6,.ptr 6 0),(7,.d (.int ((u.1.1:Int)-1)))],[(5,some (.blk 32 [.d (.int u.1.2.1),.d (.int u.1.2.2.1),.d (.str u.1.2.2.2.1),.d (.str u.1.2.2.2.2.1),.d (Q7 u.1.2.2.2.2.2.1),.d (.sl (u.1.2.2.2.2.2.2.1.map Tm.row)),.d (.sl (u.1.2.2.2.2.2.2.2.map Cs.row))])),(6,some (.blk 32 [.d (.int 0),.d (.int 0),.d (.str ByteArray.empty),.d (.str ByteArray.empty),.lit (.slice none 0 0),.lit (.slice none 0 0),.lit (.slice none 0 0)]))]⟩)
  (μ:=fun u=>u.1.1) ⟨(l.length,tk,tn,ta,tb,tvs,txs,tcs),⟨by rw[List.take_length],Nat.le_refl _⟩⟩ (Le.sub (by simp) (by simp)) (fun⟨(j0,zk,zn,za,zb,zvs,zxs,zcs),hw⟩=>?_)
 dsimp only at hw⊢;obtain⟨hw,hj⟩:=hw;rcases j0 with _|j
 ·rw[show((0:Nat):Int)-1= -1 from rfl];refine AWp.rg [] [] ?_ (hr:=by conv=>lhs;simp[Tm.row,Tm.Q3,Cs.Q3]);refine AWp.cn ?_;refine AWp.exit ?_;rw[List.take_zero]at hw;obtain⟨rfl,rfl,rfl,rfl,rfl,rfl,rfl⟩:zk=rk∧zn=rn∧za=ra∧zb=rb∧zvs=rvs∧zxs=rxs∧zcs=rcs:=by simpa[cnt]using (hR.trans hw).symm
  refine AWp.rg [] [] ?_ (hr:=by conv=>lhs;simp[Tm.row,Tm.Q3,Cs.Q3]);refine AWp.ret ?_;try dsimp only[Qq,Q8]
  apply Z5.ret
  ·rfl
  ·conv=>lhs;simp[Qz,Tryd.results51]
  first|rfl|simp[Zz,Xj]
 rw[show((j+1:Nat):Int)-1=(j:Int)by omega];have hk0:=eq_true (Int.natCast_nonneg j);have hk1:j<l.length:=by omega
 have h1p:l[j]? =some l[j]:=List.getElem?_eq_getElem hk1;have htk:l.take (j+1)=l.take j++[l[j]]:=by rw[List.take_add_one,h1p];rfl
 generalize l[j]=s at h1p htk;rw[htk,cnt_append]at hw;dsimp only[cnt]at hw;refine AWp.rg [] [] ?_ (hr:=by conv=>lhs;simp[Tm.row,Tm.Q3,Cs.Q3,h1p,hk0]);refine AWp.cy ?_;refine AWp.skip ?_;refine AWp.dw [6] [] mixed ?_ (hr:=by conv=>lhs;simp[Tm.row,Tm.Q3,Cs.Q3,h1p,hk0]);repeat (first|refine AWp.seq ?_|refine AWp.block ?_)
 refine AWp.le (Le.low [] [] (fr:=[(0,.d (.int kd)),(1,.d (Q7 l)),(5,.ptr 5 0),(6,.ptr 6 0),(7,.d (.int (j:Int)))]) (mem:=[(5,some (.blk 32 [.d (.int kd),.d (.int 0),.d (.str s),.d (.str ByteArray.empty),.d (.sl []),.d (.sl [[.int zk,.int zn,.str za,.str zb,Q7 zvs,.sl (zxs.map Tm.row),.sl (zcs.map Cs.row)]]),.d (.sl [])])),(6,some (.blk 32 [.d (.int 0),.d (.int 0),.d (.str ByteArray.empty),.d (.str ByteArray.empty),.lit (.slice none 0 0),.lit (.slice none 0 0),.lit (.slice none 0 0)]))]) rfl (by simp) (by simp)) ?_;refine AWp.rg [] [] ?_ (hr:=by conv=>lhs;simp[Tm.row,Tm.Q3,Cs.Q3,h1p,hk0]);refine⟨⟨(j,kd,0,s,.empty,[],[.mk zk zn za zb zvs zxs zcs],[]),⟨hw,by omega⟩⟩,by simp only[];omega,?_⟩;dsimp only;exact Le.sub (by simp[Tm.row,Tm.Q3,Cs.Q3,Q7]) (by simp[Tm.row,Tm.Q3,Cs.Q3,Q7])
def Fn.rn (f:Fn):Fn:=⟨f.name,Xx f.params 0,(f.body.rn (f.params.zip (Xx f.params 0)) (V7 f.params 0)).1⟩
abbrev Wz:Fn→AV
 |⟨g,ps,.mk k n a b vs xs cs⟩=>.agg [.d (.str g),.d (Q7 ps),.d (.int k),.d (.int n),.d (.str a),.d (.str b),.d (Q7 vs),.d (.sl (xs.map Tm.row)),.d (.sl (cs.map Cs.row))]
theorem sp_Named (f:Fn) (hb:f.body.Ok) (hr:f.body.Rt 25) (hp:f.params.length≤6):Qv Tryd.prog 31 [Wz f] (fun _=>Wz f.rn) none:=by
 have hfr:=cs_fresh f.params 0 hp;have hl:=Vw f.params 0;have hx:=rn_all 25 f.body (f.params.zip (Xx f.params 0)) (V7 f.params 0) hr hb (by rw[List.length_zip];omega);unfold Fn.rn;obtain⟨fg,fps,fy⟩:=f;dsimp only at *;generalize V7 fps 0=e at hfr hx⊢;generalize Xx fps 0=us at hfr hx hl⊢;generalize fps.zip us=px at hfr hx⊢;generalize fy.rn px e=o at hx⊢;obtain⟨z,c2⟩:=o;dsimp only at *;obtain⟨fk,fn,fa,fb,fvs,fxs,fcs⟩:=fy;obtain⟨zk,zn,za,zb,zvs,zxs,zcs⟩:=z;refine Qv.of Tryd.func31 rfl rfl rfl (Nat.le_of_ble_eq_true rfl) ?_;show AWp _ _ (Z5 _ Tryd.f31 _ _ _) (Qw 24 _);refine AWp.rg [] [] ?_ (hr:=by conv=>lhs;simp[Wz,Fn.row,Tm.row,Tm.Q3,Cs.Q3,psR]);refine AWp.rg [] [] ?_ (hr:=by conv=>lhs;simp[Wz,Fn.row,Tm.row,Tm.Q3,Cs.Q3,psR]);refine AWp.rg [] [.c [(1000,7)] [.ptr 1000 0,.d (Q7 fps)] [(1000,.blk 80 [.d (.int 0)])] (.tuple [.d (Q7 us),.d (.sl (px.map psR))]) [(1000,.blk 80 [.d (.int e)])]] ?_ (hr:=by conv=>lhs;simp[Wz,Fn.row,Tm.row,Tm.Q3,Cs.Q3,psR]);refine AWp.dw [] [.c [(1000,7)] [.ptr 1000 0,.agg [.d (.int fk),.d (.int fn),.d (.str fa),.d (.str fb),.d (Q7 fvs),.d (.sl (fxs.map Tm.row)),.d (.sl (fcs.map Cs.row))],.d (.sl (px.map psR))] [(1000,.blk 80 [.d (.int e)])] (.agg [.d (.int zk),.d (.int zn),.d (.str za),.d (.str zb),.d (Q7 zvs),.d (.sl (zxs.map Tm.row)),.d (.sl (zcs.map Cs.row))]) [(1000,.blk 80 [.d (.int c2)])]] mixed ?_ (hr:=by conv=>lhs;simp[Wz,Fn.row,Tm.row,Tm.Q3,Cs.Q3,psR]);refine AWp.ret ?_;try dsimp only[Qq,Q8]
 apply Z5.ret
 ·rfl
 ·conv=>lhs;simp[Qz,Tryd.results31]
 rfl
theorem moreN_mem {s:ByteArray}:∀{l:List Tm} {had:List ByteArray},s∈U4 had l→∃x∈l,s=x.nm
 |[],had,h=>by simp[U4]at h
 |x::r,had,h=>by
  rw[U4]at h;split at h
  ·rcases List.mem_cons.1 h with h|h
   ·exact⟨x,List.mem_cons_self ..,h⟩
   ·obtain⟨y,hy,e⟩:=moreN_mem h;exact⟨y,List.mem_cons_of_mem _ hy,e⟩
  ·obtain⟨y,hy,e⟩:=moreN_mem h;exact⟨y,List.mem_cons_of_mem _ hy,e⟩
theorem Tm.Ok.nm {x:Tm} (h:x.Ok):x.nm.size≤140737488355328:=by
 obtain⟨k,n,a,b,vs,xs,cs⟩:=x;exact h.1.1
theorem Tm.Fit.cs {k n:Int} {a b:ByteArray} {vs:List ByteArray} {xs:List Tm} {cs:List Cs} (h:(Tm.mk k n a b vs xs cs).Fit):∀c∈cs,(∀s∈c.2,s.size≤140737488355328)∧c.3.Fit:=fun c hc=>by
 obtain⟨t,ws,x⟩:=c;have h1:=Cs.Zk.1 h.ok.2.2.2 _ hc;exact⟨h1.1,(h.case hc).1⟩
structure Fn.Pt (f:Fn):Prop where
 rt:f.body.Rt 175
 fit:f.body.Fit
 par:f.params.length≤6
 pars:∀s∈f.params,s.size≤140737488355328
theorem tmrl2 (a:Tm):a.row.length=7:=by cases a;simp[Tm.row]
def OdN (N:Nat):Prop:=∀(t:Tm) (has:List ByteArray),t.Rt N→t.Fit→has.length+6 * N≤100000→(∀s∈has,s.size≤140737488355328)→
 Qv Tryd.prog 33 [Xj t,Z7 has] (fun _=>Xj (t.ow has)) none
theorem od_step (N:Nat) (ih:OdN N):OdN (N+1):=by
 intro t has hRt hF hhl hhs;obtain⟨R,hR⟩:∃R,R=t.ow has:=⟨_,rfl⟩
 rw[←hR];obtain⟨rk,rn,ra,rb,rvs,rxs,rcs⟩:=R;have hfr:=I9 t hF;have hfl:t.free.length≤1048576:=Nat.le_trans (Tm.R9 t) hF.sz;obtain⟨tk,tn,ta,tb,tvs,txs,tcs⟩:=t;obtain⟨hkk,hmany,h6,hxR,hcR⟩:=hRt;have hxF:∀x∈txs,x.Fit:=fun x hx=>hF.arg hx
 rw[Tm.ow]at hR;generalize(Tm.mk tk tn ta tb tvs txs tcs).free=fr at hfr hfl hR;have hou:=sp_pickO has fr (by omega) (by omega);have hin:=sp_pickI has fr (by omega) (by omega);have hGl:=L8 has fr;have hol:=Pz has fr;have hos:∀s∈inN has fr,s.size≤140737488355328:=fun s hs=>hhs s (List.mem_filter.1 hs).1
 generalize woN has fr=G at hou hGl hR;generalize inN has fr=own at hin hol hos hR;refine Qv.of Tryd.func33 rfl rfl rfl (Nat.le_of_ble_eq_true rfl) ?_;show AWp _ _ (Z5 _ Tryd.f33 _ _ _) (Qw 186 _);refine AWp.rg [] [] ?_ (hr:=by conv=>lhs;simp[Tm.row,Tm.Q3,Cs.Q3]);refine AWp.rg [1] [.p (fun d=>.arr d 0 fr.length) (some (.arr 9 1 (fr.map Y0)))] ?_ (hr:=by conv=>lhs;simp[Tm.row,Tm.Q3,Cs.Q3]);refine AWp.rg [] [.p (fun _=>.d (Q7 G)) none,.p (fun _=>.d (Q7 own)) none] ?_ (hr:=by conv=>lhs;simp[Tm.row,Tm.Q3,Cs.Q3]);refine AWp.rg [] [] ?_ (hr:=by conv=>lhs;simp[Tm.row,Tm.Q3,Cs.Q3]);refine AWp.rg [] [] ?_ (hr:=by conv=>lhs;simp[Tm.row,Tm.Q3,Cs.Q3]);by_cases q1:tk=3
 ·refine AWp.rg [] [] ?_ (hr:=by conv=>lhs;simp[Tm.row,Tm.Q3,Cs.Q3,q1]);refine AWp.cy ?_;refine AWp.skip ?_;refine AWp.cy ?_;subst q1;rw[if_pos (by omega)]at hR;refine AWp.rg [] [] ?_ (hr:=by conv=>lhs;simp[Tm.row,Tm.Q3,Cs.Q3]);refine AWp.rg [] [] ?_ (hr:=by conv=>lhs;simp[Tm.row,Tm.Q3,Cs.Q3]);repeat (first|refine AWp.seq ?_|refine AWp.block ?_)
  refine AWp.le (Le.low [400] [] (fr:=[(2,.ptr 2 0),(4,.ptr 4 0),(6,.d (Q7 G)),(7,.ptr 7 0),(8,.arr 400 0 ([]:List ByteArray).length),(37,.d (.sl (txs.map Tm.row))),(38,.d (.int (txs.length:Int))),(39,.d (.int (0:Int)))]) (mem:=[(2,some (.blk 32 [.d (.int 3),.d (.int tn),.d (.str ta),.d (.str tb),.d (Q7 tvs),.d (.sl (txs.map Tm.row)),.d (.sl (tcs.map Cs.row))])),(4,some (.blk 32 [.d (.int 0),.d (.int 0),.d (.str ByteArray.empty),.d (.str ByteArray.empty),.lit (.slice none 0 0),.lit (.slice none 0 0),.lit (.slice none 0 0)])),(7,some (.blk 32 [.d (.int 3),.d (.int tn),.d (.str ta),.d (.str tb),.d (Q7 tvs),.d (.sl (txs.map Tm.row)),.d (.sl (tcs.map Cs.row))])),(400,some (.arr 9 1 (([]:List ByteArray).map Y0)))]) rfl (by simp) (by simp)) ?_;refine AWp.loop (σ:=fun u:{u:Nat×List ByteArray // u.1≤txs.length∧(U4 [] txs=u.2++U4 ((txs.take u.1).map Tm.nm) (txs.drop u.1)∧u.2.length≤u.1)}=>⟨186,[(2,.ptr 2 0),(4,.ptr 4 0),(6,.d (Q7 G)),(7,.ptr 7 0),(8,.arr 400 0 u.1.2.length),(37,.d (.sl (txs.map Tm.row))),(38,.d (.int (txs.length:Int))),(39,.d (.int (u.1.1:Int)))],[(2,some (.blk 32 [.d (.int 3),.d (.int tn),.d (.str ta),.d (.str tb),.d (Q7 tvs),.d (.sl (txs.map Tm.row)),.d (.sl (tcs.map Cs.row))])),(4,some (.blk 32 [.d (.int 0),.d (.int 0),.d (.str ByteArray.empty),.d (.str ByteArray.empty),.lit (.slice none 0 0),.lit (.slice none 0 0),.lit (.slice none 0 0)])),(7,some (.blk 32 [.d (.int 3),.d (.int tn),.d (.str ta),.d (.str tb),.d (Q7 tvs),.d (.sl (txs.map Tm.row)),.d (.sl (tcs.map Cs.row))])),(400,some (.arr 9 1 (u.1.2.map Y0)))]⟩)
   (μ:=fun u=>txs.length-u.1.1) ⟨(0,[]),⟨Nat.zero_le _,⟨by simp,Nat.le_refl _⟩⟩⟩ (Le.sub (by simp) (by simp)) (fun⟨(i,us),⟨hi10,hw⟩⟩=>?_)
  dsimp only at hi10 hw⊢;refine AWp.rg [] [] ?_ (hr:=by conv=>lhs;simp[Tm.row,Tm.Q3,Cs.Q3]);repeat (first|refine AWp.seq ?_|refine AWp.block ?_)
  refine AWp.cond rfl (fun hc=>?_) (fun hc=>?_)
  ·have hi1:i<txs.length:=by have:=of_decide_eq_true hc;omega
   clear hc;have h1y:txs[i]? =some txs[i]:=List.getElem?_eq_getElem hi1;have hmy:txs[i]∈txs:=List.getElem_mem hi1;have hdy:txs.drop i=txs[i]::txs.drop (i+1):=List.drop_eq_getElem_cons hi1;generalize txs[i]=y at h1y hmy hdy;obtain⟨hap,hul⟩:=hw;rw[hdy,U4]at hap;obtain⟨yk,yn,ya,yb,yvs,yxs,ycs⟩:=y;rw[Tm.nm]at hap;obtain⟨pt,hpt⟩:∃pt,pt=txs.take i:=⟨_,rfl⟩
   have hptl:pt.length=i:=by rw[hpt,List.length_take];omega
   have hpr:List.take i (List.map Tm.row txs)=List.map Tm.row pt:=by rw[hpt,List.map_take]
   rw[←hpt]at hap;have htr:∀(i:Nat) (a:Tm),txs[i]? =some a→a.row.length=7:=fun _ a _=>tmrl2 a
   have hi1o:=hi1;refine AWp.skip ?_;refine AWp.rg [] [] ?_ (hr:=by conv=>lhs;simp[Tm.row,Tm.Q3,Cs.Q3,h1y,hpr]);refine AWp.rg [] [] ?_ (hr:=by conv=>lhs;simp[Tm.row,Tm.Q3,Cs.Q3,h1y,hpr]);repeat (first|refine AWp.seq ?_|refine AWp.block ?_)
   refine AWp.loop (σ:=fun u:{u:Nat // u≤pt.length∧∀z∈pt.take u,z.nm≠ya}=>⟨186,[(2,.ptr 2 0),(4,.ptr 4 0),(6,.d (Q7 G)),(7,.ptr 7 0),(8,.arr 400 0 us.length),(10,.ptr 10 0),(37,.d (.sl (txs.map Tm.row))),(38,.d (.int (txs.length:Int))),(39,.d (.int (i:Int))),(47,.d (.sl (pt.map Tm.row))),(48,.d (.int (pt.length:Int))),(49,.d (.int (u.1:Int)))],[(2,some (.blk 32 [.d (.int 3),.d (.int tn),.d (.str ta),.d (.str tb),.d (Q7 tvs),.d (.sl (txs.map Tm.row)),.d (.sl (tcs.map Cs.row))])),(4,some (.blk 32 [.d (.int 0),.d (.int 0),.d (.str ByteArray.empty),.d (.str ByteArray.empty),.lit (.slice none 0 0),.lit (.slice none 0 0),.lit (.slice none 0 0)])),(7,some (.blk 32 [.d (.int 3),.d (.int tn),.d (.str ta),.d (.str tb),.d (Q7 tvs),.d (.sl (txs.map Tm.row)),.d (.sl (tcs.map Cs.row))])),(10,some (.blk 32 [.d (.int yk),.d (.int yn),.d (.str ya),.d (.str yb),.d (Q7 yvs),.d (.sl (yxs.map Tm.row)),.d (.sl (ycs.map Cs.row))])),(400,some (.arr 9 1 (us.map Y0)))]⟩)
    (μ:=fun u=>pt.length-u.1) ⟨0,⟨Nat.zero_le _,by simp⟩⟩ (Le.sub (by simp) (by simp)) (fun⟨j,⟨hi13,hw2⟩⟩=>?_)
   dsimp only;refine AWp.rg [] [] ?_ (hr:=by conv=>lhs;simp[Tm.row,Tm.Q3,Cs.Q3,h1y,hpr]);repeat (first|refine AWp.seq ?_|refine AWp.block ?_)
   refine AWp.cond rfl (fun hc=>?_) (fun hc=>?_)
   ·have hi1:j<pt.length:=by have:=of_decide_eq_true hc;omega
    clear hc;have h1b:pt[j]? =some pt[j]:=List.getElem?_eq_getElem hi1;have hmb:pt[j]∈pt:=List.getElem_mem hi1;have hdb:pt.drop j=pt[j]::pt.drop (j+1):=List.drop_eq_getElem_cons hi1;generalize pt[j]=b at h1b hmb hdb;obtain⟨bk,bn,ba,bb,bvs,bxs,bcs⟩:=b;refine AWp.skip ?_;refine AWp.rg [] [] ?_ (hr:=by conv=>lhs;simp[Tm.row,Tm.Q3,Cs.Q3,h1y,hpr,h1b]);by_cases q2:ba=ya
    ·refine AWp.rg [] [] ?_ (hr:=by conv=>lhs;simp[Tm.row,Tm.Q3,Cs.Q3,h1y,hpr,h1b,q2]);refine AWp.cy ?_;have hq:hasB (pt.map Tm.nm) ya=true:=X4.2 (List.mem_map.2 ⟨_,hmb,by rw[Tm.nm];exact q2⟩);rw[hq]at hap;simp only[if_true]at hap;refine AWp.rg [] [] ?_ (hr:=by conv=>lhs;simp[Tm.row,Tm.Q3,Cs.Q3,h1y,hpr,h1b,q2]);refine AWp.exit ?_;refine AWp.rg [] [] ?_ (hr:=by conv=>lhs;simp[Tm.row,Tm.Q3,Cs.Q3,h1y,hpr,h1b,q2]);have hi1:=hi1o;refine⟨⟨(i+1,us++[ya]),hi1,⟨by rw[hap,List.take_add_one,h1y,List.map_append,←hpt];simp[Tm.nm],by dsimp only;first|omega|(simp;omega)⟩⟩,by simp;omega,?_⟩;dsimp only;exact Le.sub (by simp) (by simp)
    refine AWp.rg [] [] ?_ (hr:=by conv=>lhs;simp[Tm.row,Tm.Q3,Cs.Q3,h1y,hpr,h1b,q2]);refine AWp.cn ?_;refine AWp.skip ?_;refine AWp.rg [] [] ?_ (hr:=by conv=>lhs;simp[Tm.row,Tm.Q3,Cs.Q3,h1y,hpr,h1b,q2]);refine⟨⟨j+1,hi1,(fun z hz=>by rw[List.take_add_one,h1b]at hz;rcases List.mem_append.1 hz with hz|hz;exact hw2 z hz;rw[List.mem_singleton.1 hz,Tm.nm];exact q2)⟩,by simp;omega,?_⟩;dsimp only;exact Le.sub (by simp) (by simp)
   have hi1:j=pt.length:=by have:=of_decide_eq_false hc;omega
   subst hi1;clear hc;rw[List.take_length]at hw2;have hq:hasB (pt.map Tm.nm) ya=false:=Nv.2 fun h=>by
    obtain⟨z,hz,e⟩:=List.mem_map.1 h;exact hw2 z hz e
   rw[hq]at hap;simp only[Bool.false_eq_true,if_false]at hap;refine AWp.exit ?_;refine AWp.rg [] [] ?_ (hr:=by conv=>lhs;simp[Tm.row,Tm.Q3,Cs.Q3,h1y,hpr]);have hi1:=hi1o;refine⟨⟨(i+1,us),hi1,⟨by rw[hap,List.take_add_one,h1y,List.map_append,←hpt];simp[Tm.nm],by dsimp only;first|omega|(simp;omega)⟩⟩,by simp;omega,?_⟩;dsimp only;exact Le.sub (by simp) (by simp)
  have hi1:i=txs.length:=by have:=of_decide_eq_false hc;omega
  subst hi1;clear hc;obtain⟨hap,hul⟩:=hw;rw[List.drop_length,U4,List.append_nil]at hap;refine AWp.exit ?_;apply AWp.D9 [400]
  ·conv=>lhs;simp
  have hml:=moreN_len txs [];rw[hap]at hR hml;have hd:=V9 8 us 3 tn ta tb tvs txs tcs (by omega);generalize cnt 8 us (.mk 3 tn ta tb tvs txs tcs)=e at hd hR;obtain⟨ek,en,ea,eb,evs,exs,ecs⟩:=e;have hg:=V9 9 G ek en ea eb evs exs ecs (by omega);generalize cnt 9 G (.mk ek en ea eb evs exs ecs)=r at hg hR;subst hR;refine AWp.rg [] [.p (fun _=>.agg [.d (.int ek),.d (.int en),.d (.str ea),.d (.str eb),.d (Q7 evs),.d (.sl (exs.map Tm.row)),.d (.sl (ecs.map Cs.row))]) none] ?_ (hr:=by conv=>lhs;simp[Tm.row,Tm.Q3,Cs.Q3]);refine AWp.rg [] [.p (fun _=>.agg [.d (.int rk),.d (.int rn),.d (.str ra),.d (.str rb),.d (Q7 rvs),.d (.sl (rxs.map Tm.row)),.d (.sl (rcs.map Cs.row))]) none] ?_ (hr:=by conv=>lhs;simp[Tm.row,Tm.Q3,Cs.Q3]);refine AWp.ret ?_;try dsimp only[Qq,Q8]
  apply Z5.ret
  ·rfl
  ·conv=>lhs;simp[Qz,Tryd.results33]
  first|rfl|simp[Zz,Xj,Tm.row,Tm.Q3,Cs.Q3,AV.X7,Jq,Q7]
 refine AWp.rg [] [] ?_ (hr:=by conv=>lhs;simp[Tm.row,Tm.Q3,Cs.Q3,q1]);refine AWp.cn ?_;by_cases q3:tk=4
 ·refine AWp.rg [] [] ?_ (hr:=by conv=>lhs;simp[Tm.row,Tm.Q3,Cs.Q3,q1,q3]);refine AWp.cy ?_;refine AWp.skip ?_;refine AWp.cy ?_;subst q3;rw[if_pos (by omega)]at hR;refine AWp.rg [] [] ?_ (hr:=by conv=>lhs;simp[Tm.row,Tm.Q3,Cs.Q3,q1]);refine AWp.rg [] [] ?_ (hr:=by conv=>lhs;simp[Tm.row,Tm.Q3,Cs.Q3,q1]);repeat (first|refine AWp.seq ?_|refine AWp.block ?_)
  refine AWp.le (Le.low [400] [] (fr:=[(2,.ptr 2 0),(4,.ptr 4 0),(6,.d (Q7 G)),(7,.ptr 7 0),(8,.arr 400 0 ([]:List ByteArray).length),(37,.d (.sl (txs.map Tm.row))),(38,.d (.int (txs.length:Int))),(39,.d (.int (0:Int)))]) (mem:=[(2,some (.blk 32 [.d (.int 4),.d (.int tn),.d (.str ta),.d (.str tb),.d (Q7 tvs),.d (.sl (txs.map Tm.row)),.d (.sl (tcs.map Cs.row))])),(4,some (.blk 32 [.d (.int 0),.d (.int 0),.d (.str ByteArray.empty),.d (.str ByteArray.empty),.lit (.slice none 0 0),.lit (.slice none 0 0),.lit (.slice none 0 0)])),(7,some (.blk 32 [.d (.int 4),.d (.int tn),.d (.str ta),.d (.str tb),.d (Q7 tvs),.d (.sl (txs.map Tm.row)),.d (.sl (tcs.map Cs.row))])),(400,some (.arr 9 1 (([]:List ByteArray).map Y0)))]) rfl (by simp) (by simp)) ?_;refine AWp.loop (σ:=fun u:{u:Nat×List ByteArray // u.1≤txs.length∧(U4 [] txs=u.2++U4 ((txs.take u.1).map Tm.nm) (txs.drop u.1)∧u.2.length≤u.1)}=>⟨186,[(2,.ptr 2 0),(4,.ptr 4 0),(6,.d (Q7 G)),(7,.ptr 7 0),(8,.arr 400 0 u.1.2.length),(37,.d (.sl (txs.map Tm.row))),(38,.d (.int (txs.length:Int))),(39,.d (.int (u.1.1:Int)))],[(2,some (.blk 32 [.d (.int 4),.d (.int tn),.d (.str ta),.d (.str tb),.d (Q7 tvs),.d (.sl (txs.map Tm.row)),.d (.sl (tcs.map Cs.row))])),(4,some (.blk 32 [.d (.int 0),.d (.int 0),.d (.str ByteArray.empty),.d (.str ByteArray.empty),.lit (.slice none 0 0),.lit (.slice none 0 0),.lit (.slice none 0 0)])),(7,some (.blk 32 [.d (.int 4),.d (.int tn),.d (.str ta),.d (.str tb),.d (Q7 tvs),.d (.sl (txs.map Tm.row)),.d (.sl (tcs.map Cs.row))])),(400,some (.arr 9 1 (u.1.2.map Y0)))]⟩)
   (μ:=fun u=>txs.length-u.1.1) ⟨(0,[]),⟨Nat.zero_le _,⟨by simp,Nat.le_refl _⟩⟩⟩ (Le.sub (by simp) (by simp)) (fun⟨(i,us),⟨hi10,hw⟩⟩=>?_)
  dsimp only at hi10 hw⊢;refine AWp.rg [] [] ?_ (hr:=by conv=>lhs;simp[Tm.row,Tm.Q3,Cs.Q3,q1]);repeat (first|refine AWp.seq ?_|refine AWp.block ?_)
  refine AWp.cond rfl (fun hc=>?_) (fun hc=>?_)
  ·have hi1:i<txs.length:=by have:=of_decide_eq_true hc;omega
   clear hc;have h1y:txs[i]? =some txs[i]:=List.getElem?_eq_getElem hi1;have hmy:txs[i]∈txs:=List.getElem_mem hi1;have hdy:txs.drop i=txs[i]::txs.drop (i+1):=List.drop_eq_getElem_cons hi1;generalize txs[i]=y at h1y hmy hdy;obtain⟨hap,hul⟩:=hw;rw[hdy,U4]at hap;obtain⟨yk,yn,ya,yb,yvs,yxs,ycs⟩:=y;rw[Tm.nm]at hap;obtain⟨pt,hpt⟩:∃pt,pt=txs.take i:=⟨_,rfl⟩
   have hptl:pt.length=i:=by rw[hpt,List.length_take];omega
   have hpr:List.take i (List.map Tm.row txs)=List.map Tm.row pt:=by rw[hpt,List.map_take]
   rw[←hpt]at hap;have htr:∀(i:Nat) (a:Tm),txs[i]? =some a→a.row.length=7:=fun _ a _=>tmrl2 a
   have hi1o:=hi1;refine AWp.skip ?_;refine AWp.rg [] [] ?_ (hr:=by conv=>lhs;simp[Tm.row,Tm.Q3,Cs.Q3,h1y,hpr,q1]);refine AWp.rg [] [] ?_ (hr:=by conv=>lhs;simp[Tm.row,Tm.Q3,Cs.Q3,h1y,hpr,q1]);repeat (first|refine AWp.seq ?_|refine AWp.block ?_)
   refine AWp.loop (σ:=fun u:{u:Nat // u≤pt.length∧∀z∈pt.take u,z.nm≠ya}=>⟨186,[(2,.ptr 2 0),(4,.ptr 4 0),(6,.d (Q7 G)),(7,.ptr 7 0),(8,.arr 400 0 us.length),(10,.ptr 10 0),(37,.d (.sl (txs.map Tm.row))),(38,.d (.int (txs.length:Int))),(39,.d (.int (i:Int))),(47,.d (.sl (pt.map Tm.row))),(48,.d (.int (pt.length:Int))),(49,.d (.int (u.1:Int)))],[(2,some (.blk 32 [.d (.int 4),.d (.int tn),.d (.str ta),.d (.str tb),.d (Q7 tvs),.d (.sl (txs.map Tm.row)),.d (.sl (tcs.map Cs.row))])),(4,some (.blk 32 [.d (.int 0),.d (.int 0),.d (.str ByteArray.empty),.d (.str ByteArray.empty),.lit (.slice none 0 0),.lit (.slice none 0 0),.lit (.slice none 0 0)])),(7,some (.blk 32 [.d (.int 4),.d (.int tn),.d (.str ta),.d (.str tb),.d (Q7 tvs),.d (.sl (txs.map Tm.row)),.d (.sl (tcs.map Cs.row))])),(10,some (.blk 32 [.d (.int yk),.d (.int yn),.d (.str ya),.d (.str yb),.d (Q7 yvs),.d (.sl (yxs.map Tm.row)),.d (.sl (ycs.map Cs.row))])),(400,some (.arr 9 1 (us.map Y0)))]⟩)
    (μ:=fun u=>pt.length-u.1) ⟨0,⟨Nat.zero_le _,by simp⟩⟩ (Le.sub (by simp) (by simp)) (fun⟨j,⟨hi13,hw2⟩⟩=>?_)
   dsimp only;refine AWp.rg [] [] ?_ (hr:=by conv=>lhs;simp[Tm.row,Tm.Q3,Cs.Q3,h1y,hpr,q1]);repeat (first|refine AWp.seq ?_|refine AWp.block ?_)
   refine AWp.cond rfl (fun hc=>?_) (fun hc=>?_)
   ·have hi1:j<pt.length:=by have:=of_decide_eq_true hc;omega
    clear hc;have h1b:pt[j]? =some pt[j]:=List.getElem?_eq_getElem hi1;have hmb:pt[j]∈pt:=List.getElem_mem hi1;have hdb:pt.drop j=pt[j]::pt.drop (j+1):=List.drop_eq_getElem_cons hi1;generalize pt[j]=b at h1b hmb hdb;obtain⟨bk,bn,ba,bb,bvs,bxs,bcs⟩:=b;refine AWp.skip ?_;refine AWp.rg [] [] ?_ (hr:=by conv=>lhs;simp[Tm.row,Tm.Q3,Cs.Q3,h1y,hpr,h1b,q1]);by_cases q4:ba=ya
    ·refine AWp.rg [] [] ?_ (hr:=by conv=>lhs;simp[Tm.row,Tm.Q3,Cs.Q3,h1y,hpr,h1b,q1,q4]);refine AWp.cy ?_;have hq:hasB (pt.map Tm.nm) ya=true:=X4.2 (List.mem_map.2 ⟨_,hmb,by rw[Tm.nm];exact q4⟩);rw[hq]at hap;simp only[if_true]at hap;refine AWp.rg [] [] ?_ (hr:=by conv=>lhs;simp[Tm.row,Tm.Q3,Cs.Q3,h1y,hpr,h1b,q1,q4]);refine AWp.exit ?_;refine AWp.rg [] [] ?_ (hr:=by conv=>lhs;simp[Tm.row,Tm.Q3,Cs.Q3,h1y,hpr,h1b,q1,q4]);have hi1:=hi1o;refine⟨⟨(i+1,us++[ya]),hi1,⟨by rw[hap,List.take_add_one,h1y,List.map_append,←hpt];simp[Tm.nm],by dsimp only;first|omega|(simp;omega)⟩⟩,by simp;omega,?_⟩;dsimp only;exact Le.sub (by simp) (by simp)
    refine AWp.rg [] [] ?_ (hr:=by conv=>lhs;simp[Tm.row,Tm.Q3,Cs.Q3,h1y,hpr,h1b,q1,q4]);refine AWp.cn ?_;refine AWp.skip ?_;refine AWp.rg [] [] ?_ (hr:=by conv=>lhs;simp[Tm.row,Tm.Q3,Cs.Q3,h1y,hpr,h1b,q1,q4]);refine⟨⟨j+1,hi1,(fun z hz=>by rw[List.take_add_one,h1b]at hz;rcases List.mem_append.1 hz with hz|hz;exact hw2 z hz;rw[List.mem_singleton.1 hz,Tm.nm];exact q4)⟩,by simp;omega,?_⟩;dsimp only;exact Le.sub (by simp) (by simp)
   have hi1:j=pt.length:=by have:=of_decide_eq_false hc;omega
   subst hi1;clear hc;rw[List.take_length]at hw2;have hq:hasB (pt.map Tm.nm) ya=false:=Nv.2 fun h=>by
    obtain⟨z,hz,e⟩:=List.mem_map.1 h;exact hw2 z hz e
   rw[hq]at hap;simp only[Bool.false_eq_true,if_false]at hap;refine AWp.exit ?_;refine AWp.rg [] [] ?_ (hr:=by conv=>lhs;simp[Tm.row,Tm.Q3,Cs.Q3,h1y,hpr,q1]);have hi1:=hi1o;refine⟨⟨(i+1,us),hi1,⟨by rw[hap,List.take_add_one,h1y,List.map_append,←hpt];simp[Tm.nm],by dsimp only;first|omega|(simp;omega)⟩⟩,by simp;omega,?_⟩;dsimp only;exact Le.sub (by simp) (by simp)
  have hi1:i=txs.length:=by have:=of_decide_eq_false hc;omega
  subst hi1;clear hc;obtain⟨hap,hul⟩:=hw;rw[List.drop_length,U4,List.append_nil]at hap;refine AWp.exit ?_;apply AWp.D9 [400]
  ·conv=>lhs;simp
  have hml:=moreN_len txs [];rw[hap]at hR hml;have hd:=V9 8 us 4 tn ta tb tvs txs tcs (by omega);generalize cnt 8 us (.mk 4 tn ta tb tvs txs tcs)=e at hd hR;obtain⟨ek,en,ea,eb,evs,exs,ecs⟩:=e;have hg:=V9 9 G ek en ea eb evs exs ecs (by omega);generalize cnt 9 G (.mk ek en ea eb evs exs ecs)=r at hg hR;subst hR;refine AWp.rg [] [.p (fun _=>.agg [.d (.int ek),.d (.int en),.d (.str ea),.d (.str eb),.d (Q7 evs),.d (.sl (exs.map Tm.row)),.d (.sl (ecs.map Cs.row))]) none] ?_ (hr:=by conv=>lhs;simp[Tm.row,Tm.Q3,Cs.Q3,q1]);refine AWp.rg [] [.p (fun _=>.agg [.d (.int rk),.d (.int rn),.d (.str ra),.d (.str rb),.d (Q7 rvs),.d (.sl (rxs.map Tm.row)),.d (.sl (rcs.map Cs.row))]) none] ?_ (hr:=by conv=>lhs;simp[Tm.row,Tm.Q3,Cs.Q3,q1]);refine AWp.ret ?_;try dsimp only[Qq,Q8]
  apply Z5.ret
  ·rfl
  ·conv=>lhs;simp[Qz,Tryd.results33]
  first|rfl|simp[Zz,Xj,Tm.row,Tm.Q3,Cs.Q3,AV.X7,Jq,Q7]
 refine AWp.rg [] [] ?_ (hr:=by conv=>lhs;simp[Tm.row,Tm.Q3,Cs.Q3,q1,q3]);refine AWp.cn ?_;by_cases q5:tk=5
 ·refine AWp.rg [] [] ?_ (hr:=by conv=>lhs;simp[Tm.row,Tm.Q3,Cs.Q3,q1,q3,q5]);refine AWp.cy ?_;subst q5;rw[if_pos (by omega)]at hR;refine AWp.rg [] [] ?_ (hr:=by conv=>lhs;simp[Tm.row,Tm.Q3,Cs.Q3,q1,q3]);refine AWp.rg [] [] ?_ (hr:=by conv=>lhs;simp[Tm.row,Tm.Q3,Cs.Q3,q1,q3]);repeat (first|refine AWp.seq ?_|refine AWp.block ?_)
  refine AWp.le (Le.low [400] [] (fr:=[(2,.ptr 2 0),(4,.ptr 4 0),(6,.d (Q7 G)),(7,.ptr 7 0),(8,.arr 400 0 ([]:List ByteArray).length),(37,.d (.sl (txs.map Tm.row))),(38,.d (.int (txs.length:Int))),(39,.d (.int (0:Int)))]) (mem:=[(2,some (.blk 32 [.d (.int 5),.d (.int tn),.d (.str ta),.d (.str tb),.d (Q7 tvs),.d (.sl (txs.map Tm.row)),.d (.sl (tcs.map Cs.row))])),(4,some (.blk 32 [.d (.int 0),.d (.int 0),.d (.str ByteArray.empty),.d (.str ByteArray.empty),.lit (.slice none 0 0),.lit (.slice none 0 0),.lit (.slice none 0 0)])),(7,some (.blk 32 [.d (.int 5),.d (.int tn),.d (.str ta),.d (.str tb),.d (Q7 tvs),.d (.sl (txs.map Tm.row)),.d (.sl (tcs.map Cs.row))])),(400,some (.arr 9 1 (([]:List ByteArray).map Y0)))]) rfl (by simp) (by simp)) ?_;refine AWp.loop (σ:=fun u:{u:Nat×List ByteArray // u.1≤txs.length∧(U4 [] txs=u.2++U4 ((txs.take u.1).map Tm.nm) (txs.drop u.1)∧u.2.length≤u.1)}=>⟨186,[(2,.ptr 2 0),(4,.ptr 4 0),(6,.d (Q7 G)),(7,.ptr 7 0),(8,.arr 400 0 u.1.2.length),(37,.d (.sl (txs.map Tm.row))),(38,.d (.int (txs.length:Int))),(39,.d (.int (u.1.1:Int)))],[(2,some (.blk 32 [.d (.int 5),.d (.int tn),.d (.str ta),.d (.str tb),.d (Q7 tvs),.d (.sl (txs.map Tm.row)),.d (.sl (tcs.map Cs.row))])),(4,some (.blk 32 [.d (.int 0),.d (.int 0),.d (.str ByteArray.empty),.d (.str ByteArray.empty),.lit (.slice none 0 0),.lit (.slice none 0 0),.lit (.slice none 0 0)])),(7,some (.blk 32 [.d (.int 5),.d (.int tn),.d (.str ta),.d (.str tb),.d (Q7 tvs),.d (.sl (txs.map Tm.row)),.d (.sl (tcs.map Cs.row))])),(400,some (.arr 9 1 (u.1.2.map Y0)))]⟩)
   (μ:=fun u=>txs.length-u.1.1) ⟨(0,[]),⟨Nat.zero_le _,⟨by simp,Nat.le_refl _⟩⟩⟩ (Le.sub (by simp) (by simp)) (fun⟨(i,us),⟨hi10,hw⟩⟩=>?_)
  dsimp only at hi10 hw⊢;refine AWp.rg [] [] ?_ (hr:=by conv=>lhs;simp[Tm.row,Tm.Q3,Cs.Q3,q1,q3]);repeat (first|refine AWp.seq ?_|refine AWp.block ?_)
  refine AWp.cond rfl (fun hc=>?_) (fun hc=>?_)
  ·have hi1:i<txs.length:=by have:=of_decide_eq_true hc;omega
   clear hc;have h1y:txs[i]? =some txs[i]:=List.getElem?_eq_getElem hi1;have hmy:txs[i]∈txs:=List.getElem_mem hi1;have hdy:txs.drop i=txs[i]::txs.drop (i+1):=List.drop_eq_getElem_cons hi1;generalize txs[i]=y at h1y hmy hdy;obtain⟨hap,hul⟩:=hw;rw[hdy,U4]at hap;obtain⟨yk,yn,ya,yb,yvs,yxs,ycs⟩:=y;rw[Tm.nm]at hap;obtain⟨pt,hpt⟩:∃pt,pt=txs.take i:=⟨_,rfl⟩
   have hptl:pt.length=i:=by rw[hpt,List.length_take];omega
   have hpr:List.take i (List.map Tm.row txs)=List.map Tm.row pt:=by rw[hpt,List.map_take]
   rw[←hpt]at hap;have htr:∀(i:Nat) (a:Tm),txs[i]? =some a→a.row.length=7:=fun _ a _=>tmrl2 a
   have hi1o:=hi1;refine AWp.skip ?_;refine AWp.rg [] [] ?_ (hr:=by conv=>lhs;simp[Tm.row,Tm.Q3,Cs.Q3,h1y,hpr,q1,q3]);refine AWp.rg [] [] ?_ (hr:=by conv=>lhs;simp[Tm.row,Tm.Q3,Cs.Q3,h1y,hpr,q1,q3]);repeat (first|refine AWp.seq ?_|refine AWp.block ?_)
   refine AWp.loop (σ:=fun u:{u:Nat // u≤pt.length∧∀z∈pt.take u,z.nm≠ya}=>⟨186,[(2,.ptr 2 0),(4,.ptr 4 0),(6,.d (Q7 G)),(7,.ptr 7 0),(8,.arr 400 0 us.length),(10,.ptr 10 0),(37,.d (.sl (txs.map Tm.row))),(38,.d (.int (txs.length:Int))),(39,.d (.int (i:Int))),(47,.d (.sl (pt.map Tm.row))),(48,.d (.int (pt.length:Int))),(49,.d (.int (u.1:Int)))],[(2,some (.blk 32 [.d (.int 5),.d (.int tn),.d (.str ta),.d (.str tb),.d (Q7 tvs),.d (.sl (txs.map Tm.row)),.d (.sl (tcs.map Cs.row))])),(4,some (.blk 32 [.d (.int 0),.d (.int 0),.d (.str ByteArray.empty),.d (.str ByteArray.empty),.lit (.slice none 0 0),.lit (.slice none 0 0),.lit (.slice none 0 0)])),(7,some (.blk 32 [.d (.int 5),.d (.int tn),.d (.str ta),.d (.str tb),.d (Q7 tvs),.d (.sl (txs.map Tm.row)),.d (.sl (tcs.map Cs.row))])),(10,some (.blk 32 [.d (.int yk),.d (.int yn),.d (.str ya),.d (.str yb),.d (Q7 yvs),.d (.sl (yxs.map Tm.row)),.d (.sl (ycs.map Cs.row))])),(400,some (.arr 9 1 (us.map Y0)))]⟩)
    (μ:=fun u=>pt.length-u.1) ⟨0,⟨Nat.zero_le _,by simp⟩⟩ (Le.sub (by simp) (by simp)) (fun⟨j,⟨hi13,hw2⟩⟩=>?_)
   dsimp only;refine AWp.rg [] [] ?_ (hr:=by conv=>lhs;simp[Tm.row,Tm.Q3,Cs.Q3,h1y,hpr,q1,q3]);repeat (first|refine AWp.seq ?_|refine AWp.block ?_)
   refine AWp.cond rfl (fun hc=>?_) (fun hc=>?_)
   ·have hi1:j<pt.length:=by have:=of_decide_eq_true hc;omega
    clear hc;have h1b:pt[j]? =some pt[j]:=List.getElem?_eq_getElem hi1;have hmb:pt[j]∈pt:=List.getElem_mem hi1;have hdb:pt.drop j=pt[j]::pt.drop (j+1):=List.drop_eq_getElem_cons hi1;generalize pt[j]=b at h1b hmb hdb;obtain⟨bk,bn,ba,bb,bvs,bxs,bcs⟩:=b;refine AWp.skip ?_;refine AWp.rg [] [] ?_ (hr:=by conv=>lhs;simp[Tm.row,Tm.Q3,Cs.Q3,h1y,hpr,h1b,q1,q3]);by_cases q6:ba=ya
    ·refine AWp.rg [] [] ?_ (hr:=by conv=>lhs;simp[Tm.row,Tm.Q3,Cs.Q3,h1y,hpr,h1b,q1,q3,q6]);refine AWp.cy ?_;have hq:hasB (pt.map Tm.nm) ya=true:=X4.2 (List.mem_map.2 ⟨_,hmb,by rw[Tm.nm];exact q6⟩);rw[hq]at hap;simp only[if_true]at hap;refine AWp.rg [] [] ?_ (hr:=by conv=>lhs;simp[Tm.row,Tm.Q3,Cs.Q3,h1y,hpr,h1b,q1,q3,q6]);refine AWp.exit ?_;refine AWp.rg [] [] ?_ (hr:=by conv=>lhs;simp[Tm.row,Tm.Q3,Cs.Q3,h1y,hpr,h1b,q1,q3,q6]);have hi1:=hi1o;refine⟨⟨(i+1,us++[ya]),hi1,⟨by rw[hap,List.take_add_one,h1y,List.map_append,←hpt];simp[Tm.nm],by dsimp only;first|omega|(simp;omega)⟩⟩,by simp;omega,?_⟩;dsimp only;exact Le.sub (by simp) (by simp)
    refine AWp.rg [] [] ?_ (hr:=by conv=>lhs;simp[Tm.row,Tm.Q3,Cs.Q3,h1y,hpr,h1b,q1,q3,q6]);refine AWp.cn ?_;refine AWp.skip ?_;refine AWp.rg [] [] ?_ (hr:=by conv=>lhs;simp[Tm.row,Tm.Q3,Cs.Q3,h1y,hpr,h1b,q1,q3,q6]);refine⟨⟨j+1,hi1,(fun z hz=>by rw[List.take_add_one,h1b]at hz;rcases List.mem_append.1 hz with hz|hz;exact hw2 z hz;rw[List.mem_singleton.1 hz,Tm.nm];exact q6)⟩,by simp;omega,?_⟩;dsimp only;exact Le.sub (by simp) (by simp)
   have hi1:j=pt.length:=by have:=of_decide_eq_false hc;omega
   subst hi1;clear hc;rw[List.take_length]at hw2;have hq:hasB (pt.map Tm.nm) ya=false:=Nv.2 fun h=>by
    obtain⟨z,hz,e⟩:=List.mem_map.1 h;exact hw2 z hz e
   rw[hq]at hap;simp only[Bool.false_eq_true,if_false]at hap;refine AWp.exit ?_;refine AWp.rg [] [] ?_ (hr:=by conv=>lhs;simp[Tm.row,Tm.Q3,Cs.Q3,h1y,hpr,q1,q3]);have hi1:=hi1o;refine⟨⟨(i+1,us),hi1,⟨by rw[hap,List.take_add_one,h1y,List.map_append,←hpt];simp[Tm.nm],by dsimp only;first|omega|(simp;omega)⟩⟩,by simp;omega,?_⟩;dsimp only;exact Le.sub (by simp) (by simp)
  have hi1:i=txs.length:=by have:=of_decide_eq_false hc;omega
  subst hi1;clear hc;obtain⟨hap,hul⟩:=hw;rw[List.drop_length,U4,List.append_nil]at hap;refine AWp.exit ?_;apply AWp.D9 [400]
  ·conv=>lhs;simp
  have hml:=moreN_len txs [];rw[hap]at hR hml;have hd:=V9 8 us 5 tn ta tb tvs txs tcs (by omega);generalize cnt 8 us (.mk 5 tn ta tb tvs txs tcs)=e at hd hR;obtain⟨ek,en,ea,eb,evs,exs,ecs⟩:=e;have hg:=V9 9 G ek en ea eb evs exs ecs (by omega);generalize cnt 9 G (.mk ek en ea eb evs exs ecs)=r at hg hR;subst hR;refine AWp.rg [] [.p (fun _=>.agg [.d (.int ek),.d (.int en),.d (.str ea),.d (.str eb),.d (Q7 evs),.d (.sl (exs.map Tm.row)),.d (.sl (ecs.map Cs.row))]) none] ?_ (hr:=by conv=>lhs;simp[Tm.row,Tm.Q3,Cs.Q3,q1,q3]);refine AWp.rg [] [.p (fun _=>.agg [.d (.int rk),.d (.int rn),.d (.str ra),.d (.str rb),.d (Q7 rvs),.d (.sl (rxs.map Tm.row)),.d (.sl (rcs.map Cs.row))]) none] ?_ (hr:=by conv=>lhs;simp[Tm.row,Tm.Q3,Cs.Q3,q1,q3]);refine AWp.ret ?_;try dsimp only[Qq,Q8]
  apply Z5.ret
  ·rfl
  ·conv=>lhs;simp[Qz,Tryd.results33]
  first|rfl|simp[Zz,Xj,Tm.row,Tm.Q3,Cs.Q3,AV.X7,Jq,Q7]
 refine AWp.rg [] [] ?_ (hr:=by conv=>lhs;simp[Tm.row,Tm.Q3,Cs.Q3,q1,q3,q5]);refine AWp.cn ?_;by_cases q7:tk=6
 ·refine AWp.rg [] [] ?_ (hr:=by conv=>lhs;simp[Tm.row,Tm.Q3,Cs.Q3,q1,q3,q5,q7]);refine AWp.cy ?_;subst q7;have hx2:txs.length=2∧tcs=[]:=by
   unfold Zv at hmany;simp at hmany;exact hmany
  obtain⟨hx2,rfl⟩:=hx2;obtain⟨x,y,rfl⟩:∃x y,txs=[x,y]:=by
   rcases txs with _|⟨x,_|⟨y,_|⟨z,l⟩⟩⟩
   ·cases hx2
   ·cases hx2
   ·exact⟨x,y,rfl⟩
   ·simp at hx2
  rw[if_neg (by omega),if_pos rfl,letD,letH,Tm.owZ,List.headD_cons,List.tail_cons,Tm.owZ,List.headD_cons,List.tail_cons,Tm.owZ]at hR;have hxFt:=hxF x (by simp);have hyFt:=hxF y (by simp);have hfx:=I9 x hxFt;have hfy:=I9 y hyFt;have hxl:x.free.length≤1048576:=Nat.le_trans (Tm.R9 x) hxFt.sz;have hyl:y.free.length≤1048576:=Nat.le_trans (Tm.R9 y) hyFt.sz;have hzx:=ih x (inN own x.free) (hxR x (by simp)) hxFt (by have:=Pz own x.free;omega) (fun s hs=>hos s (List.mem_filter.1 hs).1);have hzy:=ih y (inN own (woN y.free [ta])++[ta]) (hxR y (by simp)) hyFt (by have:=Pz own (woN y.free [ta]);simp;omega) (fun s hs=>(List.mem_append.1 hs).elim (fun h=>hos s (List.mem_filter.1 h).1) fun h=>by rw[List.mem_singleton.1 h];exact hF.ok.1.1);generalize x.free=xf at hfx hxl hzx hR;generalize y.free=yf at hfy hyl hzy hR;have hp1:=sp_pickI own xf (by omega) (by omega);have hp2:=sp_pickI own yf (by omega) (by omega);have hP2:=Pz own yf;have hp3:Qv Tryd.prog 50 [Z7 (inN own yf),.d (.sl [[.str ta]]),.d (.bool false)] (fun _=>Z7 (inN own (woN yf [ta]))) none:=by
   rw[←inN_woN];exact sp_pickO (inN own yf) [ta] (by omega) (by simp)
  have hI1:=Pz own xf;have hI2:=Pz own (woN yf [ta]);have hp4:Qv Tryd.prog 50 [Z7 (inN own xf),Z7 (inN own (woN yf [ta])),.d (.bool true)] (fun _=>Z7 (inN (inN own xf) (woN yf [ta]))) none:=by
   have h:=sp_pickI (inN own xf) (inN own (woN yf [ta])) (by omega) (by omega)
   rwa [inN_inN]at h
  have hI3:=Pz (inN own xf) (woN yf [ta]);generalize inN (inN own xf) (woN yf [ta])=I3 at hp4 hI3 hR;generalize inN own xf=I1 at hp1 hp4 hI1 hI3 hzx hR;generalize inN own yf=P2 at hp2 hp3 hP2;generalize inN own (woN yf [ta])=I2 at hp3 hp4 hI2 hzy hR;obtain⟨A2,hA⟩:∃A,A=I2++[ta]:=⟨_,rfl⟩
  rw[←hA]at hzy hR;have hA2:List.take (I2.length+1) (List.map Y0 I2++[[D.str ta]])=List.map Y0 A2:=by rw[hA,List.map_append,List.take_of_length_le (by simp)];rfl
  have hA2l:A2.length=I2.length+1:=by rw[hA];simp
  generalize x.ow I1=z at hzx hR;generalize y.ow A2=u at hzy hR;obtain⟨xk,xn,xa,xb,xvs,xxs,xcs⟩:=x;obtain⟨yk,yn,ya,yb,yvs,yxs,ycs⟩:=y;obtain⟨zk,zn,za,zb,zvs,zxs,zcs⟩:=z;obtain⟨uk,un,ua,ub,uvs,uxs,ucs⟩:=u;have hdu:=V9 8 I3 6 0 ta .empty [] [.mk zk zn za zb zvs zxs zcs,.mk uk un ua ub uvs uxs ucs] [] (by omega);generalize cnt 8 I3 (.mk 6 0 ta .empty [] [.mk zk zn za zb zvs zxs zcs,.mk uk un ua ub uvs uxs ucs] [])=e at hdu hR;obtain⟨ek,en,ea,eb,evs,exs,ecs⟩:=e;replace hdu:Qv Tryd.prog 51 [.d (.int 8),Z7 I3,.agg [.d (.int 6),.d (.int 0),.d (.str ta),.d (.str .empty),.d (.sl []),.d (.sl [[.int zk,.int zn,.str za,.str zb,Q7 zvs,.sl (zxs.map Tm.row),.sl (zcs.map Cs.row)],[.int uk,.int un,.str ua,.str ub,Q7 uvs,.sl (uxs.map Tm.row),.sl (ucs.map Cs.row)]]),.d (.sl [])]] (fun _=>Xj (.mk ek en ea eb evs exs ecs)) none:=by
   simpa only[Xj,Q7,List.map_cons,List.map_nil,Tm.row,Tm.Q3,Cs.Q3]using hdu
  have hg:=V9 9 G ek en ea eb evs exs ecs (by omega);generalize cnt 9 G (.mk ek en ea eb evs exs ecs)=r at hg hR;subst hR;refine AWp.dw [5,12,16] [.p (fun d=>.arr d 0 xf.length) (some (.arr 9 1 (xf.map Y0))),.p (fun _=>.d (Q7 I1)) none,.p (fun d=>.arr d 0 yf.length) (some (.arr 9 1 (yf.map Y0))),.p (fun _=>.d (Q7 P2)) none,.p (fun _=>.d (Q7 I2)) none] mixed ?_ (hr:=by conv=>lhs;simp[Tm.row,Tm.Q3,Cs.Q3,q1,q3,q5]);refine AWp.dw [18,20] [.p (fun _=>.agg [.d (.int zk),.d (.int zn),.d (.str za),.d (.str zb),.d (Q7 zvs),.d (.sl (zxs.map Tm.row)),.d (.sl (zcs.map Cs.row))]) none,.p (fun _=>.agg [.d (.int uk),.d (.int un),.d (.str ua),.d (.str ub),.d (Q7 uvs),.d (.sl (uxs.map Tm.row)),.d (.sl (ucs.map Cs.row))]) none] mixed ?_ (hr:=by conv=>lhs;simp[Tm.row,Tm.Q3,Cs.Q3,hA2,q1,q3,q5]);repeat (first|refine AWp.seq ?_|refine AWp.block ?_)
  refine AWp.le (Le.low [] [] (fr:=[(4,.ptr 4 0),(6,.d (Q7 G)),(7,.ptr 7 0),(13,.d (Q7 I1)),(14,.d (Q7 I2))]) (mem:=[(4,some (.blk 32 [.d (.int 0),.d (.int 0),.d (.str ByteArray.empty),.d (.str ByteArray.empty),.lit (.slice none 0 0),.lit (.slice none 0 0),.lit (.slice none 0 0)])),(7,some (.blk 32 [.d (.int 6),.d (.int 0),.d (.str ta),.d (.str ByteArray.empty),.d (.sl []),.d (.sl [[.int zk,.int zn,.str za,.str zb,Q7 zvs,.sl (zxs.map Tm.row),.sl (zcs.map Cs.row)],[.int uk,.int un,.str ua,.str ub,Q7 uvs,.sl (uxs.map Tm.row),.sl (ucs.map Cs.row)]]),.d (.sl [])]))]) rfl (by simp) (by simp)) ?_;refine AWp.dw [] [.p (fun _=>.d (Q7 I3)) none,.p (fun _=>.agg [.d (.int ek),.d (.int en),.d (.str ea),.d (.str eb),.d (Q7 evs),.d (.sl (exs.map Tm.row)),.d (.sl (ecs.map Cs.row))]) none] mixed ?_ (hr:=by conv=>lhs;simp[Tm.row,Tm.Q3,Cs.Q3,q1,q3,q5]);refine AWp.rg [] [.p (fun _=>.agg [.d (.int rk),.d (.int rn),.d (.str ra),.d (.str rb),.d (Q7 rvs),.d (.sl (rxs.map Tm.row)),.d (.sl (rcs.map Cs.row))]) none] ?_ (hr:=by conv=>lhs;simp[Tm.row,Tm.Q3,Cs.Q3,q1,q3,q5]);refine AWp.ret ?_;try dsimp only[Qq,Q8]
  apply Z5.ret
  ·rfl
  ·conv=>lhs;simp[Qz,Tryd.results33]
  first|rfl|simp[Zz,Xj,Tm.row,Tm.Q3,Cs.Q3,AV.X7,Jq,Q7]
 refine AWp.rg [] [] ?_ (hr:=by conv=>lhs;simp[Tm.row,Tm.Q3,Cs.Q3,q1,q3,q5,q7]);refine AWp.cn ?_;by_cases q8:tk=7
 ·refine AWp.rg [] [] ?_ (hr:=by conv=>lhs;simp[Tm.row,Tm.Q3,Cs.Q3,q1,q3,q5,q7,q8]);refine AWp.cy ?_;subst q8;have hx1:txs.length=1:=by
   unfold Zv at hmany;simp at hmany;exact hmany
  obtain⟨x,rfl⟩:∃x,txs=[x]:=by
   rcases txs with _|⟨x,_|⟨y,l⟩⟩
   ·cases hx1
   ·exact⟨x,rfl⟩
   ·simp at hx1
  rw[if_neg (by omega),if_neg (by omega),if_pos rfl]at hR;have hxa:=(hxF x (by simp)).ok.nm;obtain⟨xk,xn,xa,xb,xvs,xxs,xcs⟩:=x;rw[show nmH [.mk xk xn xa xb xvs xxs xcs]=xa from rfl]at hR;have hcF:=hF.cs;refine AWp.rg [] [] ?_ (hr:=by conv=>lhs;simp[Tm.row,Tm.Q3,Cs.Q3,q1,q3,q5,q7]);refine AWp.rg [] [] ?_ (hr:=by conv=>lhs;simp[Tm.row,Tm.Q3,Cs.Q3,q1,q3,q5,q7]);repeat (first|refine AWp.seq ?_|refine AWp.block ?_)
  refine AWp.le (Le.low [400] [] (fr:=[(1,.d (Q7 own)),(2,.ptr 2 0),(4,.ptr 4 0),(6,.d (Q7 G)),(7,.ptr 7 0),(121,.d (.sl (tcs.map Cs.row))),(122,.d (.int (tcs.length:Int))),(123,.d (.int (0:Int)))]) (mem:=[(2,some (.blk 32 [.d (.int 7),.d (.int tn),.d (.str ta),.d (.str tb),.d (Q7 tvs),.d (.sl (([.mk xk xn xa xb xvs xxs xcs]).map Tm.row)),.d (.sl (tcs.map Cs.row))])),(4,some (.blk 32 [.d (.int 0),.d (.int 0),.d (.str ByteArray.empty),.d (.str ByteArray.empty),.lit (.slice none 0 0),.lit (.slice none 0 0),.lit (.slice none 0 0)])),(7,some (.blk 32 [.d (.int 7),.d (.int 0),.d (.str ByteArray.empty),.d (.str ByteArray.empty),.lit (.slice none 0 0),.d (.sl (([.mk xk xn xa xb xvs xxs xcs]).map Tm.row)),.arr 400 0 ([]:List Cs).length])),(400,some (.arr 42 9 (([]:List Cs).map Cs.row)))]) rfl (by simp[Tm.row,Tm.Q3,Cs.Q3]) (by simp[Tm.row,Tm.Q3,Cs.Q3])) ?_;refine AWp.loop (σ:=fun u:{u:Nat×List Cs // u.1≤tcs.length∧u.2=Cs.owL (tcs.take u.1) own xa}=>⟨186,[(1,.d (Q7 own)),(2,.ptr 2 0),(4,.ptr 4 0),(6,.d (Q7 G)),(7,.ptr 7 0),(121,.d (.sl (tcs.map Cs.row))),(122,.d (.int (tcs.length:Int))),(123,.d (.int (u.1.1:Int)))],[(2,some (.blk 32 [.d (.int 7),.d (.int tn),.d (.str ta),.d (.str tb),.d (Q7 tvs),.d (.sl (([.mk xk xn xa xb xvs xxs xcs]).map Tm.row)),.d (.sl (tcs.map Cs.row))])),(4,some (.blk 32 [.d (.int 0),.d (.int 0),.d (.str ByteArray.empty),.d (.str ByteArray.empty),.lit (.slice none 0 0),.lit (.slice none 0 0),.lit (.slice none 0 0)])),(7,some (.blk 32 [.d (.int 7),.d (.int 0),.d (.str ByteArray.empty),.d (.str ByteArray.empty),.lit (.slice none 0 0),.d (.sl (([.mk xk xn xa xb xvs xxs xcs]).map Tm.row)),.arr 400 0 u.1.2.length])),(400,some (.arr 42 9 (u.1.2.map Cs.row)))]⟩)
   (μ:=fun u=>tcs.length-u.1.1) ⟨(0,[]),⟨Nat.zero_le _,by simp[Cs.owL]⟩⟩ (Le.sub (by simp[Tm.row,Tm.Q3,Cs.Q3]) (by simp[Tm.row,Tm.Q3,Cs.Q3])) (fun⟨(i,ds),⟨hi27,hw⟩⟩=>?_)
  dsimp only at hi27 hw⊢;refine AWp.rg [] [] ?_ (hr:=by conv=>lhs;simp[Tm.row,Tm.Q3,Cs.Q3,q1,q3,q5,q7]);repeat (first|refine AWp.seq ?_|refine AWp.block ?_)
  refine AWp.cond rfl (fun hc=>?_) (fun hc=>?_)
  ·have hi1:i<tcs.length:=by have:=of_decide_eq_true hc;omega
   clear hc;have h1d:tcs[i]? =some tcs[i]:=List.getElem?_eq_getElem hi1;have hmd:tcs[i]∈tcs:=List.getElem_mem hi1;have hdd:tcs.drop i=tcs[i]::tcs.drop (i+1):=List.drop_eq_getElem_cons hi1;generalize tcs[i]=d at h1d hmd hdd;have hdl:ds.length=i:=by rw[hw,Cs.owL_len,List.length_take];omega
   have hsn:=Cs.owL_snoc h1d own xa;rw[←hw]at hsn;obtain⟨hws,hyR⟩:=hcR d hmd;obtain⟨hwz,hyF⟩:=hcF d hmd;obtain⟨dt,dws,y⟩:=d;try dsimp only at hws hyR hwz hyF
   rw[Cs.ow]at hsn;have hfy:=I9 y hyF;have hyl:y.free.length≤1048576:=Nat.le_trans (Tm.R9 y) hyF.sz;generalize y.free=yf at hsn hfy hyl;have hin:=sp_pickI dws yf (by omega) (by omega);have hUl:=Pz dws yf;have hUz:∀s∈inN dws yf,s.size≤140737488355328:=fun s hs=>hwz s (List.mem_filter.1 hs).1
   generalize inN dws yf=U at hin hUl hUz hsn;obtain⟨H,hH⟩:∃H,H=own++U:=⟨_,rfl⟩
   rw[←hH]at hsn;have hHt:List.take (own.length+U.length) (List.map Y0 own++List.map Y0 U)=List.map Y0 H:=by rw[hH,List.map_append,List.take_of_length_le (by simp)]
   have hHl:H.length=own.length+U.length:=by rw[hH];simp
   have hHz:∀s∈H,s.size≤140737488355328:=fun s hs=>by
    rw[hH]at hs;exact(List.mem_append.1 hs).elim (hos s) (hUz s)
   have hct:=sp_Has yf xa (by omega);generalize hasB yf xa=q at hsn hct;obtain⟨yk,yn,ya,yb,yvs,yxs,ycs⟩:=y;refine AWp.skip ?_;refine AWp.rg [] [] ?_ (hr:=by conv=>lhs;simp[Tm.row,Tm.Q3,Cs.Q3,h1d,Cs.row,q1,q3,q5,q7]);cases q with
   |true=>
    simp only[if_true,cnt]at hsn;have hz:=ih (.mk yk yn ya yb yvs yxs ycs) H hyR hyF (by omega) hHz;generalize(Tm.mk yk yn ya yb yvs yxs ycs).ow H=z at hz hsn;obtain⟨ek,en,ea,eb,evs,exs,ecs⟩:=z;have hu:=V9 8 U ek en ea eb evs exs ecs (by omega);generalize cnt 8 U (.mk ek en ea eb evs exs ecs)=u at hu hsn;obtain⟨uk,un,ua,ub,uvs,uxs,ucs⟩:=u;refine AWp.rg [2] [.p (fun d=>.arr d 0 yf.length) (some (.arr 9 1 (yf.map Y0)))] ?_ (hr:=by conv=>lhs;simp[Tm.row,Tm.Q3,Cs.Q3,h1d,Cs.row,q1,q3,q5,q7]);refine AWp.rg [] [.p (fun _=>.d (Q7 U)) none] ?_ (hr:=by conv=>lhs;simp[Tm.row,Tm.Q3,Cs.Q3,h1d,Cs.row,q1,q3,q5,q7]);refine AWp.rg [4] [] ?_ (hr:=by conv=>lhs;simp[Tm.row,Tm.Q3,Cs.Q3,h1d,Cs.row,hHt,q1,q3,q5,q7]);refine AWp.rg [] [] ?_ (hr:=by conv=>lhs;simp[Tm.row,Tm.Q3,Cs.Q3,h1d,Cs.row,q1,q3,q5,q7]);refine AWp.rg [] [.p (fun _=>.d (.bool true)) none] ?_ (hr:=by conv=>lhs;simp[Tm.row,Tm.Q3,Cs.Q3,h1d,Cs.row,q1,q3,q5,q7]);refine AWp.cy ?_;refine AWp.rg [] [.p (fun _=>.agg [.d (.int ek),.d (.int en),.d (.str ea),.d (.str eb),.d (Q7 evs),.d (.sl (exs.map Tm.row)),.d (.sl (ecs.map Cs.row))]) none] ?_ (hr:=by conv=>lhs;simp[Tm.row,Tm.Q3,Cs.Q3,h1d,Cs.row,q1,q3,q5,q7]);refine AWp.dw [] [.p (fun _=>.agg [.d (.int uk),.d (.int un),.d (.str ua),.d (.str ub),.d (Q7 uvs),.d (.sl (uxs.map Tm.row)),.d (.sl (ucs.map Cs.row))]) none] mixed ?_ (hr:=by conv=>lhs;simp[Tm.row,Tm.Q3,Cs.Q3,h1d,Cs.row,q1,q3,q5,q7]);refine AWp.rg [] [] ?_ (hr:=by conv=>lhs;simp[Tm.row,Tm.Q3,Cs.Q3,h1d,Cs.row,q1,q3,q5,q7]);refine⟨⟨(i+1,ds++[.mk dt dws (.mk uk un ua ub uvs uxs ucs)]),hi1,by rw[hsn]⟩,by simp;omega,?_⟩;dsimp only;exact Le.sub (by simp[Cs.row,Tm.row,Tm.Q3,Cs.Q3,hdl]) (by simp[Cs.row,Tm.row,Tm.Q3,Cs.Q3,hdl])
   |false=>
    simp only[Bool.false_eq_true,if_false]at hsn;have hou:Qv Tryd.prog 50 [Z7 H,.d (.sl [[.str xa]]),.d (.bool false)] (fun _=>Z7 (woN H [xa])) none:=sp_pickO H [xa] (by omega) (by simp);have hWl:=L8 H [xa];have hWz:∀s∈woN H [xa],s.size≤140737488355328:=fun s hs=>hHz s (List.mem_filter.1 hs).1
    generalize woN H [xa]=W at hou hWl hWz hsn;have hz:=ih (.mk yk yn ya yb yvs yxs ycs) W hyR hyF (by omega) hWz;generalize(Tm.mk yk yn ya yb yvs yxs ycs).ow W=z at hz hsn;obtain⟨zk,zn,za,zb,zvs,zxs,zcs⟩:=z;have hd:Qv Tryd.prog 51 [.d (.int 9),.d (.sl [[.str xa]]),Xj (.mk zk zn za zb zvs zxs zcs)] (fun _=>Xj (cnt 9 [xa] (.mk zk zn za zb zvs zxs zcs))) none:=V9 9 [xa] zk zn za zb zvs zxs zcs (by simp);generalize cnt 9 [xa] (.mk zk zn za zb zvs zxs zcs)=e at hd hsn;obtain⟨ek,en,ea,eb,evs,exs,ecs⟩:=e;have hu:=V9 8 U ek en ea eb evs exs ecs (by omega);generalize cnt 8 U (.mk ek en ea eb evs exs ecs)=u at hu hsn;obtain⟨uk,un,ua,ub,uvs,uxs,ucs⟩:=u;refine AWp.rg [2] [.p (fun d=>.arr d 0 yf.length) (some (.arr 9 1 (yf.map Y0)))] ?_ (hr:=by conv=>lhs;simp[Tm.row,Tm.Q3,Cs.Q3,h1d,Cs.row,q1,q3,q5,q7]);refine AWp.rg [] [.p (fun _=>.d (Q7 U)) none] ?_ (hr:=by conv=>lhs;simp[Tm.row,Tm.Q3,Cs.Q3,h1d,Cs.row,q1,q3,q5,q7]);refine AWp.rg [4] [] ?_ (hr:=by conv=>lhs;simp[Tm.row,Tm.Q3,Cs.Q3,h1d,Cs.row,hHt,q1,q3,q5,q7]);refine AWp.rg [] [] ?_ (hr:=by conv=>lhs;simp[Tm.row,Tm.Q3,Cs.Q3,h1d,Cs.row,q1,q3,q5,q7]);refine AWp.rg [] [.p (fun _=>.d (.bool false)) none] ?_ (hr:=by conv=>lhs;simp[Tm.row,Tm.Q3,Cs.Q3,h1d,Cs.row,q1,q3,q5,q7]);refine AWp.cn ?_;refine AWp.dw [5,14] [.p (fun _=>.d (Q7 W)) none,.p (fun _=>.agg [.d (.int zk),.d (.int zn),.d (.str za),.d (.str zb),.d (Q7 zvs),.d (.sl (zxs.map Tm.row)),.d (.sl (zcs.map Cs.row))]) none,.p (fun _=>.agg [.d (.int ek),.d (.int en),.d (.str ea),.d (.str eb),.d (Q7 evs),.d (.sl (exs.map Tm.row)),.d (.sl (ecs.map Cs.row))]) none] mixed ?_ (hr:=by conv=>lhs;simp[Tm.row,Tm.Q3,Cs.Q3,h1d,Cs.row,q1,q3,q5,q7]);refine AWp.dw [] [.p (fun _=>.agg [.d (.int uk),.d (.int un),.d (.str ua),.d (.str ub),.d (Q7 uvs),.d (.sl (uxs.map Tm.row)),.d (.sl (ucs.map Cs.row))]) none] mixed ?_ (hr:=by conv=>lhs;simp[Tm.row,Tm.Q3,Cs.Q3,h1d,Cs.row,q1,q3,q5,q7]);refine AWp.rg [] [] ?_ (hr:=by conv=>lhs;simp[Tm.row,Tm.Q3,Cs.Q3,h1d,Cs.row,q1,q3,q5,q7])
    refine⟨⟨(i+1,ds++[.mk dt dws (.mk uk un ua ub uvs uxs ucs)]),hi1,by rw[hsn]⟩,by simp;omega,?_⟩;dsimp only;exact Le.sub (by simp[Cs.row,Tm.row,Tm.Q3,Cs.Q3,hdl]) (by simp[Cs.row,Tm.row,Tm.Q3,Cs.Q3,hdl])
  have hi1:i=tcs.length:=by have:=of_decide_eq_false hc;omega
  subst hi1;clear hc;rw[List.take_length]at hw;subst hw;have hdl:=Cs.owL_len own xa tcs;generalize Cs.owL tcs own xa=ds at hdl hR⊢;refine AWp.exit ?_;apply AWp.D9 [400]
  ·conv=>lhs;simp
  repeat (first|refine AWp.seq ?_|refine AWp.block ?_)
  refine AWp.le (Le.low [] [] (fr:=[(4,.ptr 4 0),(6,.d (Q7 G)),(7,.ptr 7 0)]) (mem:=[(4,some (.blk 32 [.d (.int 0),.d (.int 0),.d (.str ByteArray.empty),.d (.str ByteArray.empty),.lit (.slice none 0 0),.lit (.slice none 0 0),.lit (.slice none 0 0)])),(7,some (.blk 32 [.d (.int 7),.d (.int 0),.d (.str ByteArray.empty),.d (.str ByteArray.empty),.d (.sl []),.d (.sl [[.int xk,.int xn,.str xa,.str xb,Q7 xvs,.sl (xxs.map Tm.row),.sl (xcs.map Cs.row)]]),.d (.sl (ds.map Cs.row))]))]) rfl (by simp[Tm.row,Tm.Q3,Cs.Q3]) (by simp[Tm.row,Tm.Q3,Cs.Q3])) ?_;have hg:Qv Tryd.prog 51 [.d (.int 9),Z7 G,.agg [.d (.int 7),.d (.int 0),.d (.str .empty),.d (.str .empty),.d (.sl []),.d (.sl [[.int xk,.int xn,.str xa,.str xb,Q7 xvs,.sl (xxs.map Tm.row),.sl (xcs.map Cs.row)]]),.d (.sl (ds.map Cs.row))]] (fun _=>Xj (cnt 9 G (.mk 7 0 .empty .empty [] [.mk xk xn xa xb xvs xxs xcs] ds))) none:=by
   simpa only[Xj,Q7,List.map_cons,List.map_nil,Tm.row,Tm.Q3,Cs.Q3]using V9 9 G 7 0 .empty .empty [] [.mk xk xn xa xb xvs xxs xcs] ds (by omega)
  generalize cnt 9 G (.mk 7 0 .empty .empty [] [.mk xk xn xa xb xvs xxs xcs] ds)=r at hg hR;subst hR;refine AWp.rg [] [.p (fun _=>.agg [.d (.int rk),.d (.int rn),.d (.str ra),.d (.str rb),.d (Q7 rvs),.d (.sl (rxs.map Tm.row)),.d (.sl (rcs.map Cs.row))]) none] ?_ (hr:=by conv=>lhs;simp[Tm.row,Tm.Q3,Cs.Q3,q1,q3,q5,q7]);refine AWp.ret ?_;try dsimp only[Qq,Q8]
  apply Z5.ret
  ·rfl
  ·conv=>lhs;simp[Qz,Tryd.results33]
  first|rfl|simp[Zz,Xj,Tm.row,Tm.Q3,Cs.Q3,AV.X7,Jq,Q7]
 refine AWp.rg [] [] ?_ (hr:=by conv=>lhs;simp[Tm.row,Tm.Q3,Cs.Q3,q1,q3,q5,q7,q8]);refine AWp.cn ?_;refine AWp.skip ?_;rw[if_neg (by omega),if_neg (by omega),if_neg (by omega)]at hR;have hg:=V9 9 G tk tn ta tb tvs txs tcs (by omega);generalize cnt 9 G (.mk tk tn ta tb tvs txs tcs)=r at hg hR;subst hR;refine AWp.rg [] [.p (fun _=>.agg [.d (.int rk),.d (.int rn),.d (.str ra),.d (.str rb),.d (Q7 rvs),.d (.sl (rxs.map Tm.row)),.d (.sl (rcs.map Cs.row))]) none] ?_ (hr:=by conv=>lhs;simp[Tm.row,Tm.Q3,Cs.Q3,q1,q3,q5,q7,q8]);refine AWp.ret ?_;try dsimp only[Qq,Q8]
 apply Z5.ret
 ·rfl
 ·conv=>lhs;simp[Qz,Tryd.results33]
 first|rfl|simp[Zz,Xj,Tm.row,Tm.Q3,Cs.Q3,AV.X7,Jq,Q7]
theorem od_all:∀N,OdN N
 |0=>fun _ _ h=>h.elim
 |N+1=>od_step N (od_all N)
theorem sp_OdFn (f:Fn) (h:f.Pt):Qv Tryd.prog 20 [Wz f] (fun _=>Wz f.ow) none:=by
 have hx:=od_all 175 f.body f.params h.rt h.fit (by have:=h.par;omega) h.pars;unfold Fn.ow;generalize f.body.ow f.params=z at hx⊢;obtain⟨fg,fps,⟨fk,fn,fa,fb,fvs,fxs,fcs⟩⟩:=f;obtain⟨zk,zn,za,zb,zvs,zxs,zcs⟩:=z;dsimp only at hx;refine Qv.of Tryd.func20 rfl rfl rfl (Nat.le_of_ble_eq_true rfl) ?_;show AWp _ _ (Z5 _ Tryd.f20 _ _ _) (Qw 13 _);refine AWp.rg [] [] ?_ (hr:=by conv=>lhs;simp[Wz,Fn.row,Tm.row,Tm.Q3,Cs.Q3]);refine AWp.dw [] [.p (fun _=>.agg [.d (.int zk),.d (.int zn),.d (.str za),.d (.str zb),.d (Q7 zvs),.d (.sl (zxs.map Tm.row)),.d (.sl (zcs.map Cs.row))]) none] mixed ?_ (hr:=by conv=>lhs;simp[Wz,Fn.row,Tm.row,Tm.Q3,Cs.Q3]);refine AWp.ret ?_;try dsimp only[Qq,Q8]
 apply Z5.ret
 ·rfl
 ·conv=>lhs;simp[Qz,Tryd.results20]
 rfl
theorem sp_EachOwned (l:List Fn) (hl:l.length≤879609302220) (hall:∀f∈l,f.Pt):Qv Tryd.prog 18 [W9 l,.d (.fn 20)] (fun _=>W9 (l.map Fn.ow)) none:=by
 obtain⟨G,hG⟩:∃G,G=l.map Fn.ow:=⟨_,rfl⟩
 rw[←hG];refine Qv.of Tryd.func18 rfl rfl rfl (Nat.le_of_ble_eq_true rfl) ?_;show AWp _ _ (Z5 _ Tryd.f18 _ _ _) (Qw 22 _);refine AWp.rg [] [] ?_ (hr:=by conv=>lhs;simp[Fn.row,Tm.row,Tm.Q3,Cs.Q3]);refine AWp.rg [] [] ?_ (hr:=by conv=>lhs;simp[Fn.row,Tm.row,Tm.Q3,Cs.Q3]);refine AWp.rg [] [] ?_ (hr:=by conv=>lhs;simp[Fn.row,Tm.row,Tm.Q3,Cs.Q3]);repeat (first|refine AWp.seq ?_|refine AWp.block ?_)
 refine AWp.le (Le.low [400] [] (fr:=[(1,.d (.fn 20)),(5,.arr 400 0 ([]:List Fn).length),(8,.d (.sl (l.map Fn.row))),(9,.d (.int (l.length:Int))),(10,.d (.int (0:Int)))]) (mem:=[(400,some (.arr 34 9 (([]:List Fn).map Fn.row)))]) rfl (by simp) (by simp)) ?_;refine AWp.loop (σ:=fun u:{u:Nat×List Fn // u.1≤l.length∧u.2=(l.take u.1).map Fn.ow}=>⟨22,[(1,.d (.fn 20)),(5,.arr 400 0 u.1.2.length),(8,.d (.sl (l.map Fn.row))),(9,.d (.int (l.length:Int))),(10,.d (.int (u.1.1:Int)))],[(400,some (.arr 34 9 (u.1.2.map Fn.row)))]⟩)
  (μ:=fun u=>l.length-u.1.1) ⟨(0,[]),⟨Nat.zero_le _,by simp⟩⟩ (Le.sub (by simp) (by simp)) (fun⟨(i,gs),⟨hi3,hw⟩⟩=>?_)
 dsimp only at hi3 hw⊢;refine AWp.rg [] [] ?_ (hr:=by conv=>lhs;simp[Fn.row,Tm.row,Tm.Q3,Cs.Q3]);repeat (first|refine AWp.seq ?_|refine AWp.block ?_)
 refine AWp.cond rfl (fun hc=>?_) (fun hc=>?_)
 ·have hi1:i<l.length:=by have:=of_decide_eq_true hc;omega
  clear hc;have h1f:l[i]? =some l[i]:=List.getElem?_eq_getElem hi1;have hmf:l[i]∈l:=List.getElem_mem hi1;have hdf:l.drop i=l[i]::l.drop (i+1):=List.drop_eq_getElem_cons hi1;generalize l[i]=f at h1f hmf hdf;have hgl:gs.length=i:=by rw[hw,List.length_map,List.length_take];omega
  have hx:=sp_OdFn f (hall f hmf);generalize hz:f.ow=z at hx;obtain⟨fg,fps,⟨fk,fn,fa,fb,fvs,fxs,fcs⟩⟩:=f;obtain⟨zg,zps,⟨zk,zn,za,zb,zvs,zxs,zcs⟩⟩:=z;dsimp only[Wz]at hx;refine AWp.skip ?_;refine AWp.rg [] [] ?_ (hr:=by conv=>lhs;simp[Fn.row,Tm.row,Tm.Q3,Cs.Q3,h1f]);refine AWp.rg [] [.p (fun _=>.agg [.d (.str zg),.d (Q7 zps),.d (.int zk),.d (.int zn),.d (.str za),.d (.str zb),.d (Q7 zvs),.d (.sl (zxs.map Tm.row)),.d (.sl (zcs.map Cs.row))]) none] ?_ (hr:=by conv=>lhs;simp[Fn.row,Tm.row,Tm.Q3,Cs.Q3,h1f]);refine AWp.rg [] [] ?_ (hr:=by conv=>lhs;simp[Fn.row,Tm.row,Tm.Q3,Cs.Q3,h1f]);refine⟨⟨(i+1,gs++[⟨zg,zps,.mk zk zn za zb zvs zxs zcs⟩]),hi1,by rw[hw,List.take_add_one,h1f,List.map_append,←hz];rfl⟩,by simp;omega,?_⟩;dsimp only;exact Le.sub (by simp[Fn.row,Tm.row,Tm.Q3,Cs.Q3,hgl]) (by simp[Fn.row,Tm.row,Tm.Q3,Cs.Q3,hgl])
 have hi1:i=l.length:=by have:=of_decide_eq_false hc;omega
 subst hi1;clear hc;rw[List.take_length]at hw;obtain rfl:gs=G:=by rw[hw,hG]
 refine AWp.exit ?_;refine AWp.rg [] [] ?_ (hr:=by conv=>lhs;simp[Fn.row,Tm.row,Tm.Q3,Cs.Q3]);refine AWp.ret ?_;try dsimp only[Qq,Q8]
 apply Z5.retF [400]
 ·rfl
 ·conv=>lhs;simp
 ·conv=>lhs;simp[Qz,Tryd.results18]
 rfl
abbrev Env:=List (ByteArray×Vl)
def envGet:Env→ByteArray→Option Vl
 |[],_=>none
 |(x,v)::r,s=>if x=s then some v else envGet r s
abbrev zeroV:Vl:=.mk false 0 []
def envVal (e:Env) (s:ByteArray):Vl:=(envGet e s).getD zeroV
def bi (b:Bool):Int:=if b then 1 else 0
end Go.Proofs.YtlbcipohiepjmaaDoor
