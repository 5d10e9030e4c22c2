import Derived.Test.YtnddiddkmhiclaaGreatDoorHeapX
set_option maxRecDepth 20000
set_option linter.unusedVariables false
set_option linter.unusedSimpArgs false
namespace Go.Proofs.YtnddiddkmhiclaaGreatDoor
open Go.RowKit
structure Hp.Fits (h:Hp):Prop where
 made:P7 h.made
 used:P7 h.used
 live:P7 h.live
 peak:P7 h.peak
theorem Hp.Ok.fits{h:Hp}{M:Int}(f:h.Ok M)(g:M<=1000000000000):h.Fits:=by
 have i:=f.made;have j:=f.used;have l:=f.live;have o:=f.peak;exact⟨⟨oM,oM⟩,⟨oM,oM⟩,⟨oM,oM⟩,⟨oM,oM⟩⟩
theorem Hp.Iz:Hp.zero.Fits:=⟨⟨by decide,by decide⟩,⟨by decide,by decide⟩,⟨by decide,by decide⟩,⟨by decide,by decide⟩⟩
theorem V4{n:Int}(h:n=0\/n=13\/n=14):P7 n:=by rcases h with rfl|rfl|rfl<;> exact⟨by decide,by decide⟩
theorem Hp.Jk3(h:Hp)(s:Qx):P7 (h.dup s).2:=by
 apply V4;unfold Hp.dup;split
 ·split
  ·split<;> simp
  ·simp
 ·simp
theorem Hp.Xg9(h:Hp)(s:Qx):P7 (h.free s).2:=by
 apply V4;unfold Hp.free;split
 ·split<;> simp
 ·simp
theorem Hp.Qk4(h:Hp)(s:Qx)(b:Bool):P7 (h.open s b).2.2:=by
 apply V4;unfold Hp.open;split
 ·split
  ·split
   ·simp
   ·split<;> simp
  ·simp
 ·simp
theorem Hp.Qv9(h:Hp)(t:Int)(l:List Qx):P7 (h.make t l).2.2:=by
 apply V4;unfold Hp.make;split<;> simp
theorem Hp.Jq2(h:Hp)(s:Qx)(t:Int)(l:List Qx):P7 (h.use s t l).2.2:=by
 unfold Hp.use;split
 ·split<;> exact V4 (by simp)
 ·exact Hp.Qv9 h t l
theorem Hp.Xh5(h:Hp)(s:Qx):P7 (h.drop s).2:=by
 rcases Hp.Md h _ [s] (Nat.le_refl _)with f|f
 ·exact V4 (.inl f)
 ·rw[Hp.drop,f];exact V4 (by simp)
theorem Hp.Mc:∀(l:List Qx) (h:Hp),(h.L9 l).2=0->(h.L9 l).1.made=h.made/\(h.L9 l).1.used=h.used/\(h.L9 l).1.live=h.live/\(h.L9 l).1.peak=h.peak
 |[],h,_=>⟨rfl,rfl,rfl,rfl⟩
 |s::r,h,f=>by
  simp only[Hp.L9]at f⊢;by_cases g:(h.dup s).2=0
  ·rw[if_pos g]at f⊢;obtain⟨i,j,o,t⟩:=Hp.Mc r _ f;obtain⟨C,I,J,P⟩:=Hp.Yr g;exact⟨i.trans C,j.trans I,o.trans J,t.trans P⟩
  ·rw[if_neg g]at f;simp at f
theorem Hp.Ny{h:Hp}{M:Int}(g:h.Ok M)(t:M<=1000000)(s:Qx)(b:Bool):(h.open s b).1.Fits:=by
 have f:=g.fits oM;have C:=g.live;unfold Hp.open;split
 ·split
  ·rename_i x I;split
   ·cases b
    ·exact⟨f.made,f.used,⟨by simp;omega,by simp;omega⟩,f.peak⟩
    ·exact⟨f.made,f.used,f.live,f.peak⟩
   ·split
    ·rename_i i;obtain⟨j,l,o,r⟩:=Hp.Mc _ _ i;refine⟨?_,?_,?_,?_⟩<;> dsimp only
     ·rw[j];exact f.made
     ·rw[l];exact f.used
     ·rw[o];exact f.live
     ·rw[r];exact f.peak
    ·exact Hp.Iz
  ·exact Hp.Iz
 ·exact Hp.Iz
theorem Hp.IR{h:Hp}{M:Int}(g:h.Ok M)(i:M<=1000000)(s:Qx):(h.free s).1.Fits:=by
 have f:=g.fits oM;have j:=g.live;unfold Hp.free;split
 ·split
  ·exact⟨f.made,f.used,⟨by simp;omega,by simp;omega⟩,f.peak⟩
  ·exact Hp.Iz
 ·exact f
theorem Hp.NG{h:Hp}{M:Int}(f:h.Ok M)(g:M<=1000000)(t:Int)(l:List Qx):(h.make t l).1.Fits:=by
 have i:=f.made;have j:=f.used;have o:=f.live;have r:=f.peak;unfold Hp.make;split
 ·exact Hp.Iz
 ·exact⟨⟨by dsimp only;omega,by dsimp only;omega⟩,⟨by dsimp only;omega,by dsimp only;omega⟩,⟨by dsimp only;omega,by dsimp only;omega⟩,⟨by dsimp only;omega,by dsimp only;omega⟩⟩
theorem Hp.OO{h:Hp}{M:Int}(f:h.Ok M)(i:M<=1000000)(s:Qx)(t:Int)(l:List Qx):(h.use s t l).1.Fits:=by
 have g:=f.fits oM;have j:=f.used;unfold Hp.use;split
 ·split
  ·exact⟨g.made,⟨by dsimp only;omega,by dsimp only;omega⟩,g.live,g.peak⟩
  ·exact Hp.Iz
 ·exact Hp.NG f i t l
theorem Hp.AJ{h:Hp}{x:Qx}{st:List Qx}(f:(h.step x st).2.2=0):(h.step x st).1.made=h.made/\(h.step x st).1.used=h.used/\(h.step x st).1.peak=h.peak:=by
 unfold Hp.step at f⊢;split
 ·rename_i g;rw[if_pos g]at f;split
  ·rename_i c i;rw[i]at f;dsimp only at f;split
   ·rename_i j;split<;> exact⟨rfl,rfl,rfl⟩
   ·exact⟨rfl,rfl,rfl⟩
  ·exact⟨rfl,rfl,rfl⟩
 ·exact⟨rfl,rfl,rfl⟩
theorem Hp.CO:∀(n:Nat) (h:Hp) (st:List Qx),st.length+tot h.cells<=n->(h.drops st).2=0->(h.drops st).1.made=h.made/\(h.drops st).1.used=h.used/\(h.drops st).1.peak=h.peak:=by
 intro n;induction n with
 |zero=>
  intro h st i _;have:st=[]:=List.eq_nil_of_length_eq_zero oM;subst this;rw[Hp.Pj];exact⟨rfl,rfl,rfl⟩
 |succ n j=>
  intro h st i f;rcases st with _|⟨x,st⟩
  ·rw[Hp.Pj];exact⟨rfl,rfl,rfl⟩
  ·rw[Hp.N9]at f⊢;by_cases g:(h.step x st).2.2=0
   ·rw[if_pos g]at f⊢;have J:=Hp.Zf g;obtain⟨l,o,r⟩:=j _ _ oM f;obtain⟨t,C,I⟩:=Hp.AJ g;exact⟨l.trans t,o.trans C,r.trans I⟩
   ·rw[if_neg g]at f;simp at f
theorem Hp.CP{h:Hp}{st:List Qx}{k:Nat}(g:h.Fits)(j:h.Dk (st.length+k)):(h.drops st).1.Fits:=by
 rcases Hp.Md h _ st (Nat.le_refl _)with f|f
 ·obtain⟨l,o,r⟩:=Hp.CO _ h st (Nat.le_refl _) f;obtain⟨i,_⟩:=Hp.Dk.drops _ h st k (Nat.le_refl _) j f;have t:=i.lo;have C:=i.hi;exact⟨by rw[l];exact g.made,by rw[o];exact g.used,⟨oM,oM⟩,by rw[r];exact g.peak⟩
 ·rw[f];exact Hp.Iz
theorem M7.vr{w w':World}{ok:Nat->Prop}{v:Value}{h:Hp}(hr:M7 w w' ok v h)(f:h.Fits):VR w' (Zn ok w.heap.size w') Ug FQ (Aq h) v:=by
 obtain⟨a,n,c,rfl,g⟩:=hr;exact VR.Xj8 (.d _ _ g) (VR.ofInt f.made) (VR.ofInt f.used) (VR.ofInt f.live) (VR.ofInt f.peak) rfl
theorem VR.slot{w:World}{ok:Nat->Prop}{g:Gh}{m:Me}{s:Qx}{v:Value}(h:VR w ok g m (Dq s) v):v= .agg #[.int .i64 s.kind,.int .i64 s.n]/\P7 s.kind/\P7 s.n:=by
 have hp:=h.pair;subst hp;obtain⟨vs,l,o,f,_⟩:=h.Ju;cases l;have i:=(f 0 _ _ rfl rfl).Zj.X5;have j:=(f 1 _ _ rfl rfl).Zj.X5;exact⟨rfl,⟨i.2.1,i.2.2⟩,⟨j.2.1,j.2.2⟩⟩
theorem VR.LY{w:World}{ok:Nat->Prop}{g:Gh}{m:Me}{s:Qx}(l:P7 s.kind)(o:P7 s.n):VR w ok g m (Dq s) (.agg #[.int .i64 s.kind,.int .i64 s.n]):=
 VR.Xq6 [Iv s.kind,Iv s.n] [.int .i64 s.kind,.int .i64 s.n] rfl λi c v f j=>by
  match i,f,j with
  |0,f,j=>cases f;cases j;exact⟨VR.ofInt l,rfl⟩
  |1,f,j=>cases f;cases j;exact⟨VR.ofInt o,rfl⟩
  |i+2,f,j=>simp at f
theorem Bo(k:Nat)(hent:∃fn,Tryz.prog.funcs[k]? =some fn∧(fn.name== "runtime.NumGoroutine")=false∧fn.body.isNone=false)(h:Hp)(s:Qx)(r:Hp×Int)(hf:r.1.Fits)(he:P7 r.2)
  (hrun : ∀ (w : World) (ok : Nat→Prop) (a : Option Addr) (n c : Nat),(∀ b,ok b→b < w.heap.size)→P7 s.kind→P7 s.n→Xk w ok (.sl (h.cells.map Qk.row)) (.slice a n c) →
   Calls Tryz.prog k #[.agg #[.slice a n c,.int .i64 h.made,.int .i64 h.used,.int .i64 h.live,.int .i64 h.peak],.agg #[.int .i64 s.kind,.int .i64 s.n]] w fun e w'=>∃v,e= .returned (.tuple #[v,.int .i64 r.2])∧M7 w w' ok v r.1∧Below w.heap.size w w'):
  Qv Tryz.prog k [Aq h,Dq s] (fun _=>.tuple [Aq r.1,Iv r.2]) none:=by
 refine Qv.elder hent (fun _=>rfl) fun w ok vals hok hl hv=>?_
 obtain⟨v,v',rfl,h1,h2⟩:=Zq9 hl hv;obtain⟨a,n,c,rfl,hR,_⟩:=h1.hp;obtain⟨rfl,s1,s2⟩:=h2.slot;refine(hrun w ok a n c hok s1 s2 hR).mono ?_;rintro e w' ⟨v,rfl,hr,hb⟩;exact⟨_,rfl,hb,VR.Qk8 (hr.vr hf) (VR.ofInt he)⟩
section
variable {h:Hp} {M:Int}
theorem LB(g:h.Ok M)(i:M<=1000000)(j:0<=M)(s:Qx):Qv Tryz.prog 82 [Aq h,Dq s] (λ_=>.tuple [Aq (h.dup s).1,Iv ((h.dup s).2)]) none:=
 Bo _ ⟨_,Tryz.func82,rfl,rfl⟩ h s (h.dup s) ((g.dup j s).fits oM) (Hp.Jk3 h s) λw ok a n c f _ _ l=>Qg2 h s M ok a n c w i g f l
theorem TV(g:h.Ok M)(i:M<=1000000)(s:Qx):Qv Tryz.prog 85 [Aq h,Dq s] (λ_=>.tuple [Aq (h.free s).1,Iv ((h.free s).2)]) none:=
 Bo _ ⟨_,Tryz.func85,rfl,rfl⟩ h s (h.free s) (Hp.IR g i s) (Hp.Xg9 h s) λw ok a n c f _ _ j=>IL h s M ok a n c w i g f j
theorem TS(g:h.Ok M)(i:3 * M<=1000000)(l:0<=M)(s:Qx):Qv Tryz.prog 83 [Aq h,Dq s] (λ_=>.tuple [Aq (h.open s false).1,Iv ((h.open s false).2.2)]) none:=
 Bo _ ⟨_,Tryz.func83,rfl,rfl⟩ h s ((h.open s false).1,(h.open s false).2.2) (Hp.Ny g oM s false) (Hp.Qk4 h s false) λw ok a n c f _ _ j=>IJ h s M ok a n c w oM g i f j
theorem Rl(f:h.Ok M)(i:M<=1000000)(s:Qx):Qv Tryz.prog 19 [Aq h,Dq s] (λ_=>.tuple [Aq (h.drop s).1,Iv ((h.drop s).2)]) none:=
 Bo _ ⟨_,Tryz.func19,rfl,rfl⟩ h s (h.drop s) (Hp.CP (k:=0) (f.fits oM) (f.dk i)) (Hp.Xh5 h s) λw ok a n c g j l o=>IM h s M ok a n c w i f ⟨j,l⟩ g o
theorem Zj3(k:Nat)(hent:∃fn,Tryz.prog.funcs[k]? =some fn∧(fn.name== "runtime.NumGoroutine")=false∧fn.body.isNone=false)(hO:h.Ok M)(hM:M≤1000000)(s:Qx)
  (hrun : ∀ (w : World) (ok : Nat→Prop) (a : Option Addr) (n c : Nat),(∀ b,ok b→b < w.heap.size)→Xk w ok (.sl (h.cells.map Qk.row)) (.slice a n c) →
   Calls Tryz.prog k #[.agg #[.slice a n c,.int .i64 h.made,.int .i64 h.used,.int .i64 h.live,.int .i64 h.peak],.agg #[.int .i64 s.kind,.int .i64 s.n]] w (Lb h s ok w)):
  Qv Tryz.prog k [Aq h,Dq s] (fun _=>.tuple [Aq (h.hold s).1,Dq (h.hold s).2.1,Iv ((h.hold s).2.2)]) none:=by
 refine Qv.elder hent (fun _=>rfl) fun w ok vals hok hl hv=>?_
 obtain⟨v,v',rfl,h1,h2⟩:=Zq9 hl hv;obtain⟨a,n,c,rfl,hR,_⟩:=h1.hp;obtain⟨rfl,s1,s2⟩:=h2.slot;refine(hrun w ok a n c hok hR).mono ?_;rintro e w' ⟨v,rfl,hr,hb⟩;have hs:P7 (h.hold s).2.1.kind∧P7 (h.hold s).2.1.n:=by
  unfold Hp.hold;dsimp only;split
  ·exact⟨s1,s2⟩
  ·exact⟨⟨by decide,by decide⟩,⟨by decide,by decide⟩⟩
 exact⟨_,rfl,hb,VR.Uf (hr.vr (Hp.Ny hO hM s true)) (VR.LY hs.1 hs.2) (VR.ofInt (Hp.Qk4 h s true))⟩
theorem TU(g:h.Ok M)(i:3 * M<=1000000)(l:0<=M)(s:Qx):Qv Tryz.prog 84 [Aq h,Dq s] (λ_=>.tuple [Aq (h.hold s).1,Dq (h.hold s).2.1,Iv ((h.hold s).2.2)]) none:=
 Zj3 _ ⟨_,Tryz.func84,rfl,rfl⟩ g oM s λw ok a n c f j=>IK h s M ok a n c w oM g i f j
theorem Xz7(k:Nat)(hent:∃fn,Tryz.prog.funcs[k]? =some fn∧(fn.name== "runtime.NumGoroutine")=false∧fn.body.isNone=false)(s:Qx)(ht:∀x∈h.cells,P7 x.tag)
  (hrun : ∀ (w : World) (ok : Nat→Prop) (a : Option Addr) (n c : Nat),(∀ b,ok b→b < w.heap.size)→Xk w ok (.sl (h.cells.map Qk.row)) (.slice a n c) →
   Calls Tryz.prog k #[.agg #[.slice a n c,.int .i64 h.made,.int .i64 h.used,.int .i64 h.live,.int .i64 h.peak],.agg #[.int .i64 s.kind,.int .i64 s.n]] w (Jy h s ok w)):
  Qv Tryz.prog k [Aq h,Dq s] (fun _=>.tuple [Iv ((h.get s).1),Rn (h.get s).2.1,Iv ((h.get s).2.2)]) none:=by
 refine Qv.elder hent (fun _=>rfl) fun w ok vals hok hl hv=>?_
 obtain⟨v,v',rfl,h1,h2⟩:=Zq9 hl hv;obtain⟨a,n,c,rfl,hR,_⟩:=h1.hp;obtain⟨rfl,s1,s2⟩:=h2.slot;refine(hrun w ok a n c hok hR).mono ?_;rintro e w' ⟨a,n,c,rfl,hr,hb⟩;have hs:P7 (h.get s).1∧P7 (h.get s).2.2:=by
  unfold Hp.get;split
  ·split
   ·rename_i x hx;obtain⟨_,_,ys,zs,hl,_⟩:=Hp.Gv hx;exact⟨ht x (by rw[hl];simp),V4 (by simp)⟩
   ·exact⟨V4 (by simp),V4 (by simp)⟩
  ·exact⟨V4 (by simp),V4 (by simp)⟩
 exact⟨_,rfl,hb,VR.Uf (VR.ofInt hs.1) (.d _ _ hr) (VR.ofInt hs.2)⟩
theorem Jv1{w:World}{ok:Nat->Prop}{c f g:AV}{vals:Array Value}(t:[c,f,g].length=vals.size)(j:∀(i:Nat) (d:AV) (v:Value),[c,f,g][i]? =some d->vals[i]? =some v->VR w ok Ug FQ d v):∃v l o,vals= #[v,l,o]/\VR w ok Ug FQ c v/\VR w ok Ug FQ f l/\VR w ok Ug FQ g o:=by
 simp at t;refine⟨vals[0],vals[1],vals[2],?_,j 0 c _ rfl (Array.getElem?_eq_getElem _),j 1 f _ rfl (Array.getElem?_eq_getElem _),j 2 g _ rfl (Array.getElem?_eq_getElem _)⟩;apply Array.ext
 ·simp;omega
 ·intro i r _;match i,r with
  |0,_=>rfl
  |1,_=>rfl
  |2,_=>rfl
  |i+3,r=>omega
theorem Jv0{w:World}{ok:Nat->Prop}{c f g j:AV}{vals:Array Value}(I:[c,f,g,j].length=vals.size)(l:∀(i:Nat) (d:AV) (v:Value),[c,f,g,j][i]? =some d->vals[i]? =some v->VR w ok Ug FQ d v):∃v o r t,vals= #[v,o,r,t]/\VR w ok Ug FQ c v/\VR w ok Ug FQ f o/\VR w ok Ug FQ g r/\VR w ok Ug FQ j t:=by
 simp at I;refine⟨vals[0],vals[1],vals[2],vals[3],?_,l 0 c _ rfl (Array.getElem?_eq_getElem _),l 1 f _ rfl (Array.getElem?_eq_getElem _),l 2 g _ rfl (Array.getElem?_eq_getElem _),l 3 j _ rfl (Array.getElem?_eq_getElem _)⟩;apply Array.ext
 ·simp;omega
 ·intro i C _;match i,C with
  |0,_=>rfl
  |1,_=>rfl
  |2,_=>rfl
  |3,_=>rfl
  |i+4,C=>omega
theorem NF{hp:Hp}(f:hp.Ok M)(g:M<=1000000)(t:Int)(l:List Qx):P7 (hp.make t l).2.1.kind/\P7 (hp.make t l).2.1.n:=by
 unfold Hp.make;split
 ·exact⟨V4 (by simp),V4 (by simp)⟩
 ·have i:=f.len;have j:=room_le hp.cells;exact⟨⟨by dsimp only;omega,by dsimp only;omega⟩,⟨by dsimp only;omega,by dsimp only;omega⟩⟩
theorem Zj2(k:Nat)(hent:∃fn,Tryz.prog.funcs[k]? =some fn∧(fn.name== "runtime.NumGoroutine")=false∧fn.body.isNone=false)(hO:h.Ok M)(hM:M≤1000000)(tag:Int)(l:List Qx)(hlb:l.length≤8796093022208)
  (hrun : ∀ (w : World) (ok : Nat→Prop) (a : Option Addr) (n c : Nat) (la : Option Addr) (ln lc : Nat),P7 tag→ln = l.length→(∀ b,ok b→b < w.heap.size)→Xk w ok (.sl (h.cells.map Qk.row)) (.slice a n c)→Xk w ok (.sl (l.map Qx.row)) (.slice la ln lc) →
   Calls Tryz.prog k #[.agg #[.slice a n c,.int .i64 h.made,.int .i64 h.used,.int .i64 h.live,.int .i64 h.peak],.int .i64 tag,.slice la ln lc] w (EZ h tag l ok w)):
  Qv Tryz.prog k [Aq h,Iv tag,Rn l] (fun _=>.tuple [Aq (h.make tag l).1,Dq (h.make tag l).2.1,Iv ((h.make tag l).2.2)]) none:=by
 refine Qv.elder hent (fun _=>rfl) fun w ok vals hok hl hv=>?_
 obtain⟨v,v',v2,rfl,h1,h2,h3⟩:=Jv1 hl hv;obtain⟨a,n,c,rfl,hR,_⟩:=h1.hp;obtain⟨rfl,t1,t2⟩:=h2.Zj.X5;obtain⟨la,lc,rfl,_⟩:=h3.Zj.Ik;refine(hrun w ok a n c la _ lc ⟨t1,t2⟩ (by simp) hok hR h3.Zj).mono ?_;rintro e w' ⟨v,rfl,hr,hb⟩;obtain⟨s1,s2⟩:=NF hO hM tag l;exact⟨_,rfl,hb,VR.Uf (hr.vr (Hp.NG hO hM tag l)) (VR.LY s1 s2) (VR.ofInt (Hp.Qv9 h tag l))⟩
theorem TT(j:h.Ok M)(o:M<=1000000)(tag:Int)(l:List Qx)(f:l.length<=8796093022208):Qv Tryz.prog 79 [Aq h,Iv tag,Rn l] (λ_=>.tuple [Aq (h.make tag l).1,Dq (h.make tag l).2.1,Iv ((h.make tag l).2.2)]) none:=
 Zj2 _ ⟨_,Tryz.func79,rfl,rfl⟩ j o tag l f λw ok a n c r t C I g i J P=>NN h tag l M ok a n c r t C w o j I g oM i J P
theorem Xz6(k:Nat)(hent:∃fn,Tryz.prog.funcs[k]? =some fn∧(fn.name== "runtime.NumGoroutine")=false∧fn.body.isNone=false)(hO:h.Ok M)(hM:M≤1000000)(s:Qx)(tag:Int)(l:List Qx)(hlb:l.length≤8796093022208)
  (hrun : ∀ (w : World) (ok : Nat→Prop) (a : Option Addr) (n c : Nat) (la : Option Addr) (ln lc : Nat),P7 tag→ln = l.length→(∀ b,ok b→b < w.heap.size)→Xk w ok (.sl (h.cells.map Qk.row)) (.slice a n c)→Xk w ok (.sl (l.map Qx.row)) (.slice la ln lc) →
   Calls Tryz.prog k #[.agg #[.slice a n c,.int .i64 h.made,.int .i64 h.used,.int .i64 h.live,.int .i64 h.peak],.agg #[.int .i64 s.kind,.int .i64 s.n],.int .i64 tag,.slice la ln lc] w (Ap h s tag l ok w)):
  Qv Tryz.prog k [Aq h,Dq s,Iv tag,Rn l] (fun _=>.tuple [Aq (h.use s tag l).1,Dq (h.use s tag l).2.1,Iv ((h.use s tag l).2.2)]) none:=by
 refine Qv.elder hent (fun _=>rfl) fun w ok vals hok hl hv=>?_
 obtain⟨v,v',v2,v3,rfl,h1,h2,h3,h4⟩:=Jv0 hl hv;obtain⟨a,n,c,rfl,hR,_⟩:=h1.hp;obtain⟨rfl,q1,q2⟩:=h2.slot;obtain⟨rfl,t1,t2⟩:=h3.Zj.X5;obtain⟨la,lc,rfl,_⟩:=h4.Zj.Ik;refine(hrun w ok a n c la _ lc ⟨t1,t2⟩ (by simp) hok hR h4.Zj).mono ?_;rintro e w' ⟨v,rfl,hr,hb⟩;have hs:P7 (h.use s tag l).2.1.kind∧P7 (h.use s tag l).2.1.n:=by
  unfold Hp.use;split
  ·split
   ·exact⟨q1,q2⟩
   ·exact⟨V4 (by simp),V4 (by simp)⟩
  ·exact NF hO hM tag l
 exact⟨_,rfl,hb,VR.Uf (hr.vr (Hp.OO hO hM s tag l)) (VR.LY hs.1 hs.2) (VR.ofInt (Hp.Jq2 h s tag l))⟩
theorem LA(j:h.Ok M)(o:M<=1000000)(s:Qx)(tag:Int)(l:List Qx)(f:l.length<=8796093022208):Qv Tryz.prog 78 [Aq h,Dq s,Iv tag,Rn l] (λ_=>.tuple [Aq (h.use s tag l).1,Dq (h.use s tag l).2.1,Iv ((h.use s tag l).2.2)]) none:=
 Xz6 _ ⟨_,Tryz.func78,rfl,rfl⟩ j o s tag l f λw ok a n c r t C I g i J P=>Qw9 h s tag l M ok a n c r t C w o j I g oM i J P
end
end Go.Proofs.YtnddiddkmhiclaaGreatDoor
