import Derived.Test.YtnddiddkmhiclaaGreatDoorFuseQ
set_option linter.unusedVariables false
set_option linter.unusedSimpArgs false
namespace Go.Proofs.YtnddiddkmhiclaaGreatDoor
section
open Go.RowKit
theorem CS(u:Nat):∀b∈Lib.decDigits u,48<=b.toNat/\b.toNat<=57:=by
 induction u using Nat.strongRecOn with
 |_ u g=>
  by_cases h:u<10
  ·rw[Lib.decDigits,dif_pos h];intro b f;rw[List.mem_singleton.1 f,UInt8.toNat_ofNat'];omega
  ·rw[Lib.decDigits,dif_neg h];intro b f;rcases List.mem_append.1 f with f|f
   ·exact g (u / 10) oM b f
   ·rw[List.mem_singleton.1 f,UInt8.toNat_ofNat'];omega
theorem DY:∀(n u:Nat),u<10 ^ (n+1)->(Lib.decDigits u).length<=n+1
 |0,u,h=>by
  rw[Lib.decDigits,dif_pos oM];simp
 |n+1,u,h=>by
  by_cases f:u<10
  ·rw[Lib.decDigits,dif_pos f];simp
  ·have:=DY n (u / 10) (by rw[Nat.pow_succ]at h;omega);rw[Lib.decDigits,dif_neg f,List.length_append,List.length_singleton];omega
theorem SX{c:UInt8}{l:List UInt8}(r:97<=c.toNat/\c.toNat<=122)(i:∀b∈l,48<=b.toNat/\b.toNat<=57)(t:l.length<=7):F9 ⟨(c::l).toArray⟩=true:=by
 have g:(⟨(c::l).toArray⟩:ByteArray).size=l.length+1:=by simp[ByteArray.size]
 unfold F9;rw[Bool.and_eq_true,List.all_eq_true,Bool.and_eq_true,decide_eq_true_eq,decide_eq_true_eq,g];refine⟨λj C=>?_,oM,oM⟩;have o:(⟨(c::l).toArray⟩:ByteArray)[j]? =(c::l)[j]?:=by
  by_cases f:j<l.length+1
  ·rw[getElem?_pos _ _ (by rw[g];exact f),List.getElem?_eq_getElem (by simpa using f)];rfl
  ·rw[getElem?_neg _ _ (by rw[g];exact f),List.getElem?_eq_none (by simp;omega)]
 rw[o];rcases j with _|j
 ·simp only[List.getElem?_cons_zero];unfold FU;simp;omega
 ·rw[List.getElem?_cons_succ];cases hq:l[j]? with
  |none=>rfl
  |some b=>
   have:=i b (List.mem_of_getElem? hq);simp only;unfold FU;simp;omega
theorem Jl{i:Int}(h:0<=i)(f:i<=9999999):(∀b∈Lib.itoa i,48<=b.toNat/\b.toNat<=57)/\(Lib.itoa i).length<=7:=by
 unfold Lib.itoa;rw[if_neg oM];exact⟨CS _,DY 6 _ oM⟩
theorem OL(i:Int):Xp i=⟨(118::Lib.itoa i).toArray⟩:=by
 unfold Xp Mv;apply ByteArray.ext;rw[ByteArray.data_append];simp
theorem OG(i:Int):TH i=⟨(119::Lib.itoa i).toArray⟩:=by
 unfold TH Mv;apply ByteArray.ext;rw[ByteArray.data_append];simp
theorem TK{i:Int}(h:0<=i)(f:i<=9999999):F9 (Xp i)=true:=by
 rw[OL];exact SX (by decide) (Jl h f).1 (Jl h f).2
theorem OE{i:Int}(h:0<=i)(f:i<=9999999):F9 (TH i)=true:=by
 rw[OG];exact SX (by decide) (Jl h f).1 (Jl h f).2
theorem Lp(i j:Int):Xp i≠TH j:=by
 rw[OL,OG];intro h;have:=congrArg (λx:ByteArray=>x.data.toList) h;simp at this
theorem Zx2{a b:Int}(f:0<=a)(g:0<=b)(h:TH a=TH b):a=b:=WS f g (Sw h)
theorem OU{l:List ByteArray}(h:l.Nodup):Ld l=false:=by
 refine OV λj t x f=>?_
 cases hq:hasB (l.take j) x with
 |false=>rfl
 |true=>
  exfalso;have g:=X9.1 hq;obtain⟨i,C,e⟩:=List.mem_take_iff_getElem.1 g;have o:=List.getElem?_eq_some_iff.1 f;obtain⟨I,r⟩:=o;have:=(List.getElem_inj h).1 (e.trans r.symm);omega
theorem Sb{c:Int}{n:Nat}(h:0<=c)(j:c+n<=9999999):YC (QG c n)=false:=by
 unfold YC;rw[List.any_eq_false];intro s f;unfold QG at f;obtain⟨i,g,rfl⟩:=List.mem_map.1 f;have:=List.mem_range.1 g;rw[TK oM oM];simp
theorem Mq{f:X6}{k n:Int}{a b:ByteArray}{vs names:List ByteArray}{xs:List Tm}{cs:List Cs}{g:Int}(C:g<=24)(I:1<=k)(J:k<=7)(j:Xx k xs.length cs.length=false)(l:Y2 f k n a names xs.length=0)
  (o:Tm.Y1 f k a names g 0 xs=0) (r:k=7->cs.length≠0/\cs.length<=5/\Cs.Y1 f names g [] cs=0):(Tm.mk k n a b vs xs cs).wrong f names g=0:=by
 rw[Tm.wrong,if_neg oM,if_neg oM,j,if_neg (by simp),if_neg (by rw[l];simp),if_neg (by rw[o];simp)];by_cases i:k=7
 ·obtain⟨P,T,t⟩:=r i;rw[if_neg oM,if_neg oM,t]
 ·rw[if_pos i]
theorem K4{f:X6}{k:Int}{a:ByteArray}{names:List ByteArray}{g:Int}{i:Nat}{x:Tm}{r:List Tm}:Tm.Y1 f k a names g i (x::r)=0<->x.wrong f (if k=6/\i=1 then names++[a]else names) (g+1)=0/\Tm.Y1 f k a names g (i+1) r=0:=by
 rw[Tm.Y1];by_cases h:x.wrong f (if k=6/\i=1 then names++[a]else names) (g+1)=0
 ·rw[if_neg (λe=>e h)];exact⟨λe=>⟨h,e⟩,λe=>e.2⟩
 ·rw[if_pos h];exact⟨λe=>absurd e h,λe=>absurd e.1 h⟩
theorem QM{f:X6}{names:List ByteArray}{g:Int}{i:List Int}{t:Int}{ws:List ByteArray}{y:Tm}{r:List Cs}:Cs.Y1 f names g i (.mk t ws y::r)=0<->
  ((¬(t<0\/9<t))/\i.contains t=false/\Ld ws=false/\YC ws=false/\ws.length<=6/\y.wrong f (names++ws) (g+1)=0)/\Cs.Y1 f names g (t::i) r=0:=by
 have key:Cs.JL f names g i (.mk t ws y)=0<->((¬(t<0\/9<t))/\i.contains t=false/\Ld ws=false/\YC ws=false/\ws.length<=6/\y.wrong f (names++ws) (g+1)=0):=by
  rw[Cs.JL];by_cases l:t<0\/9<t
  ·rw[if_pos l];exact⟨λe=>oM,λe=>absurd l e.1⟩
  rw[if_neg l];by_cases j:(i.contains t||Ld ws||YC ws)=true
  ·rw[if_pos j];refine⟨λe=>oM,λe=>?_⟩;rw[e.2.1,e.2.2.1,e.2.2.2.1]at j;simp at j
  rw[if_neg j];simp only[Bool.or_eq_true,not_or,Bool.not_eq_true]at j;by_cases o:6<ws.length
  ·rw[if_pos o];exact⟨λe=>oM,λe=>absurd e.2.2.2.2.1 oM⟩
  rw[if_neg o];exact⟨λe=>⟨l,j.1.1,j.1.2,j.2,oM,e⟩,λe=>e.2.2.2.2.2⟩
 rw[Cs.Y1];by_cases h:Cs.JL f names g i (.mk t ws y)=0
 ·rw[if_neg (λe=>e h)];exact⟨λe=>⟨key.1 h,e⟩,λe=>e.2⟩
 ·rw[if_pos h];exact⟨λe=>absurd e h,λe=>absurd (key.2 e.1) h⟩
theorem Qv2(ps:Ps)(p:ByteArray×ByteArray)(s:ByteArray):Yc (ps++[p]) s=if p.1=s then p.2 else Yc ps s:=by
 unfold Yc;rw[List.foldl_append];rfl
def Zh4(names names':List ByteArray)(ps:Ps):Prop:=∀s∈names,Yc ps s∈names'
theorem Zh4.one{names names':List ByteArray}{ps:Ps}(h:Zh4 names names' ps)(a v:ByteArray):Zh4 (names++[a]) (names'++[v]) (ps++[(a,v)]):=λs f=>by
 rw[Qv2];split
 ·exact List.mem_append_right _ (List.mem_singleton.2 rfl)
 ·rename_i g;rcases List.mem_append.1 f with f|f
  ·exact List.mem_append_left _ (h s f)
  ·exact absurd (List.mem_singleton.1 f).symm g
theorem Zh4.more{names names':List ByteArray}{ps:Ps}(h:Zh4 names names' ps):∀(ws vs:List ByteArray),ws.length=vs.length->Zh4 (names++ws) (names'++vs) (ps++ws.zip vs):=by
 intro ws;induction ws generalizing names names' ps with
 |nil=>
  intro vs f;rcases vs with _|⟨v,vs⟩
  ·simpa using h
  ·simp at f
 |cons w ws g=>
  intro vs f;rcases vs with _|⟨v,vs⟩
  ·simp at f
  ·have:=g (h.one w v) vs (by simpa using f);simpa[List.append_assoc]using this
theorem Qx5(A:X6):∀(d:Nat) (t:Tm) (names names':List ByteArray) (ps:Ps) (c f:Int),t.Rt d->t.wrong A names f=0->0<=c->c+t.bd.length<=9999999->Zh4 names names' ps->(t.rn ps c).1.wrong A names' f=0:=by
 intro d;induction d with
 |zero=>intro t _ _ _ _ _ h;exact h.elim
 |succ d ih=>
 intro t names names' ps c f hR hw I P hr;have a7:=Ml (d+1) t ps c hR I oM;obtain⟨k,n,a,b,vs,xs,cs⟩:=t;have a3:=hR;obtain⟨hk,g,_,hx,hc⟩:=a3;obtain⟨h1,h2,h3,h4,h5,h6,h7⟩:=K3 hw;rw[Tm.rn];by_cases a1:k=1
 ·subst a1;rw[if_pos rfl];unfold Xx at g;simp at g;obtain⟨rfl,rfl⟩:=g;refine Mq h1 h2 h3 h4 ?_ rfl (λh=>oM);unfold Y2 at h5⊢;rw[if_pos rfl]at h5⊢;split at h5
  ·rename_i hh;rw[if_pos (X9.2 (hr a (X9.1 hh)))]
  ·cases h5
 rw[if_neg a1];by_cases l:k=6
 ·obtain⟨x,y,rfl,rfl⟩:=LK hR l;subst l;have hl:(Tm.mk 6 n a b vs [x,y] []).bd.length=x.bd.length+(1+y.bd.length):=by simp[Tm.bd,Tm.V6,Cs.V6];omega
  rw[hl]at P
  push_cast at P
  rw[K4,K4,if_neg oM,if_pos oM]at h6;obtain⟨_,e2⟩:=Ml d x ps c (hx x (by simp)) I oM;have a4:wr (c+x.bd.length+1)=c+x.bd.length+1:=VJ oM oM;have U:=ih x names names' ps c (f+1) (hx x (by simp)) h6.1 I oM hr;have T:=ih y (names++[a]) (names'++[Xp (c+x.bd.length+1)]) (ps++[(a,Xp (c+x.bd.length+1))]) (c+x.bd.length+1) (f+1) (hx y (by simp)) h6.2.1 oM oM (hr.one a _);have hE:Tm.ZT 6 a ps 0 [x,y] a c=([(x.rn ps c).1,(y.rn (ps++[(a,Xp (c+x.bd.length+1))]) (c+x.bd.length+1)).1],Xp (c+x.bd.length+1),(y.rn (ps++[(a,Xp (c+x.bd.length+1))]) (c+x.bd.length+1)).2):=by simp[Tm.ZT,e2,a4]
  rw[hE,Cs.VG];dsimp only;refine Mq h1 h2 h3 rfl ?_ ?_ (λh=>oM)
  ·unfold Y2;rw[if_neg oM,if_neg oM,if_neg oM,if_neg oM,if_pos rfl,TK oM oM];rfl
  ·rw[K4,K4,if_neg oM,if_pos oM];exact⟨U,T,rfl⟩
 ·have hL:∀(j:List Tm) (i:Nat) (nm:ByteArray) (c:Int),(∀y∈j,y∈xs)->Tm.Y1 A k a names f i j=0->0<=c->c+(Tm.V6 j).length<=9999999->(∀a',Tm.Y1 A k a' names' f i (Tm.ZT k a ps i j nm c).1=0)/\(Tm.ZT k a ps i j nm c).1.length=j.length/\(Tm.ZT k a ps i j nm c).2.2=c+(Tm.V6 j).length:=by
   intro j;induction j with
   |nil=>intro i nm c _ _ _ _;exact⟨λ_=>rfl,rfl,by simp[Tm.ZT,Tm.V6]⟩
   |cons y r a2=>
    intro i nm c hm o I P;rw[Tm.V6,List.length_append]at P⊢
    push_cast at P⊢
    rw[K4,if_neg (λh=>l h.1)]at o;have hy:=hx y (hm y (List.mem_cons_self ..));obtain⟨_,e2⟩:=Ml d y ps c hy I oM;obtain⟨U,T,g3⟩:=a2 (i+1) nm (c+y.bd.length) (λz hz=>hm z (List.mem_cons_of_mem _ hz)) o.2 oM oM;rw[Tm.ZT,if_neg λh=>l h.1,e2];refine⟨λa'=>?_,by simp[T],by dsimp only;rw[g3];omega⟩;rw[K4,if_neg (λh=>l h.1)];exact⟨ih y names names' ps c (f+1) hy o.1 I oM hr,U a'⟩
  have hC:k=7->∀(j:List Cs) (J:List Int) (c:Int),(∀y∈j,y∈cs)->Cs.Y1 A names f J j=0->0<=c->c+(Cs.V6 j).length<=9999999->Cs.Y1 A names' f J (Cs.VG j ps c).1=0/\(Cs.VG j ps c).1.length=j.length:=by
   intro C j;induction j with
   |nil=>intro J c _ _ _ _;exact⟨rfl,rfl⟩
   |cons y r a2=>
    intro J c hm o I P;have hy:=hm y (List.mem_cons_self ..);obtain⟨t,ws,y⟩:=y;rw[Cs.V6,Cs.bd,List.length_append,List.length_append]at P
    push_cast at P
    rw[QM]at o;obtain⟨⟨w1,w2,w3,w4,w5,w6⟩,w7⟩:=o;obtain⟨e1,e2⟩:=O7 ws c I oM;obtain⟨_,e3⟩:=Ml d y (ps++ws.zip (Y5 ws c)) (c+ws.length) (hc _ hy).2 oM oM;obtain⟨U,T⟩:=a2 (t::J) (c+ws.length+y.bd.length) (λz hz=>hm z (List.mem_cons_of_mem _ hz)) w7 oM oM;have g3:=ih y (names++ws) (names'++Y5 ws c) (ps++ws.zip (Y5 ws c)) (c+ws.length) (f+1) (hc _ hy).2 w6 oM oM (hr.more ws _ (Hq ws c).symm);rw[Cs.VG,Cs.rn,e2,e3];refine⟨?_,by simp[T]⟩;dsimp only;rw[QM];exact⟨⟨w1,w2,by rw[e1];exact OU (KT I _),by rw[e1];exact Sb I oM,by rw[Hq];exact w5,g3⟩,U⟩
  have hl:(Tm.mk k n a b vs xs cs).bd.length=(Tm.V6 xs).length+(Cs.V6 cs).length:=by simp[Tm.bd,l]
  rw[hl]at P
  push_cast at P
  obtain⟨U,T,g3⟩:=hL xs 0 a c (λ_ h=>h) h6 I oM;have a5:=Qx3 l a ps xs 0 a c;rw[a5,g3];by_cases C:k=7
  ·obtain⟨q1,q2,q3⟩:=h7 C;obtain⟨g4,g5⟩:=hC C cs [] (c+(Tm.V6 xs).length) (λ_ h=>h) q3 oM oM;refine Mq h1 h2 h3 (by rw[T,g5];exact h4) ?_ (U a) (λ_=>⟨by rw[g5];exact q1,by rw[g5];exact q2,g4⟩);subst C;rfl
  ·have a6:cs=[]:=by
    unfold Xx at g;simp only[Bool.or_eq_false_iff,Bool.and_eq_false_iff,decide_eq_false_iff_not]at g;rcases g.2 with h|h
    ·exact absurd C h
    ·exact List.eq_nil_of_length_eq_zero oM
   subst a6;refine Mq h1 h2 h3 (by rw[T];exact h4) ?_ (U a) (λh=>absurd h C);rw[T];unfold Y2 at h5⊢;rw[if_neg a1]at h5⊢;exact h5
theorem Nc{A:X6}{names names':List ByteArray}{i g:Int}{t:Tm}{d:Nat}(l:t.Rt d)(o:t.tk=1)(r:t.wrong A names i=0)(C:∀s∈names,s∈names')(I:g<=24):t.wrong A names' g=0:=by
 obtain⟨k,n,a,b,vs,xs,cs⟩:=t;simp only[Tm.tk]at o;subst o;rcases d with _|d
 ·exact l.elim
 obtain⟨_,f,_⟩:=l;obtain⟨_,J,P,T,j,_⟩:=K3 r;unfold Xx at f;simp at f;obtain⟨rfl,rfl⟩:=f;refine Mq I J P T ?_ rfl (λh=>oM);unfold Y2 at j⊢;rw[if_pos rfl]at j⊢;split at j
 ·rename_i U;rw[if_pos (X9.2 (C a (X9.1 U)))]
 ·cases j
theorem Ll{A:X6}{names:List ByteArray}{f:Int}{s:ByteArray}(h:s∈names)(g:f<=24):(Lm s).wrong A names f=0:=by
 refine Mq g oM oM rfl ?_ rfl (λh=>oM);unfold Y2;rw[if_pos rfl,if_pos (X9.2 h)]
theorem KV:∀(d:Nat) (t:Tm) (c:Int),t.Rt d->0<=c->c+t.sz<9223372036854775807->c<=(t.pl c).2/\(t.pl c).2+1<=c+t.sz:=by
 intro d;induction d with
 |zero=>intro t _ h;exact h.elim
 |succ d C=>
 intro t c T j i;obtain⟨k,n,a,b,vs,xs,cs⟩:=t;obtain⟨_,_,_,I,U⟩:=T;simp only[Tm.sz]at i⊢
 push_cast at i⊢
 have J:∀(f:List Tm) (c:Int),(∀y∈f,y∈xs)->0<=c->c+1+(Tm.Xv f:Nat)<9223372036854775807->c<=(Tm.ats f c).2.2/\(Tm.ats f c).2.2<=c+(Tm.Xv f:Nat):=by
  intro f;induction f with
  |nil=>intro c _ _ _;simp[Tm.ats,Tm.Xv]
  |cons y r g=>
   intro c l j i;simp only[Tm.Xv]at i⊢
   push_cast at i⊢
   have a1:=MJ y;have hw:wr (c+1)=c+1:=VJ oM oM;rw[Tm.ats];split
   ·have:=g c (λz o=>l z (List.mem_cons_of_mem _ o)) j oM;dsimp only;omega
   ·have h2:=C y (c+1) (I y (l y (List.mem_cons_self ..))) oM oM;rw[hw];have:=g (y.pl (c+1)).2 (λz o=>l z (List.mem_cons_of_mem _ o)) oM oM;dsimp only;omega
 have hL:∀(f:List Tm) (c:Int),(∀y∈f,y∈xs)->0<=c->c+(Tm.Xv f:Nat)<9223372036854775807->c<=(Tm.M5 f c).2/\(Tm.M5 f c).2<=c+(Tm.Xv f:Nat):=by
  intro f;induction f with
  |nil=>intro c _ _ _;simp[Tm.M5,Tm.Xv]
  |cons y r g=>
   intro c l j i;simp only[Tm.Xv]at i⊢
   push_cast at i⊢
   have P:=C y c (I y (l y (List.mem_cons_self ..))) j oM;have:=g (y.pl c).2 (λz o=>l z (List.mem_cons_of_mem _ o)) oM oM;rw[Tm.M5];dsimp only;omega
 have hC:∀(f:List Cs) (c:Int),(∀y∈f,y∈cs)->0<=c->c+(Cs.Xv f:Nat)<9223372036854775807->c<=(Cs.M5 f c).2/\(Cs.M5 f c).2<=c+(Cs.Xv f:Nat):=by
  intro f;induction f with
  |nil=>intro c _ _ _;simp[Cs.M5,Cs.Xv]
  |cons y r g=>
   intro c l j i;have hy:=U y (l y (List.mem_cons_self ..));obtain⟨t,ws,y⟩:=y;simp only[Cs.Xv,Cs.sz]at i⊢
   push_cast at i⊢
   have P:=C y c hy.2 j oM;have:=g (y.pl c).2 (λz o=>l z (List.mem_cons_of_mem _ o)) oM oM;rw[Cs.M5,Cs.pl];dsimp only;omega
 rw[Tm.pl];split
 ·have:=J xs c (λ_ h=>h) j oM;dsimp only;omega
 split
 ·have:=hL xs c (λ_ h=>h) j oM;dsimp only;omega
 split
 ·have P:=J xs c (λ_ h=>h) j oM;have:=hC cs (Tm.ats xs c).2.2 (λ_ h=>h) oM oM;dsimp only;omega
 ·dsimp only;omega
theorem Ha(A:X6):∀(d:Nat) (t:Tm) (names names':List ByteArray) (c o j:Int),t.Rt d->t.wrong A names o=0->(∀s∈names,s∈names')->0<=c->c+t.sz<=9999999->j<=24-7 * (d:Int)->(t.pl c).1.wrong A names' j=0:=by
 intro d;induction d with
 |zero=>intro t _ _ _ _ _ h;exact h.elim
 |succ d ih=>
 intro t names names' c o j hR hw T h0 hb hd;have a7:=hR;obtain⟨k,n,a,b,vs,xs,cs⟩:=t;obtain⟨hk,C,b4,hx,hc⟩:=hR;obtain⟨h1,h2,h3,h4,h5,h6,h7⟩:=K3 hw;simp only[Tm.sz]at hb
 push_cast at hb hd
 -- what lies around
 have hA:∀(I:List Tm) (i:Nat) (c:Int) (names':List ByteArray) (j:Int),(∀y∈I,y∈xs)->k≠6->Tm.Y1 A k a names o i I=0->(∀s∈names,s∈names')->0<=c->c+1+(Tm.Xv I:Nat)<=9999999->j+I.length<=24-7 * (d:Int)->
   ∀inner:Tm,(∀(f:List ByteArray) (g:Int),(∀s∈names',s∈f)->g<=j+I.length->(∀(x:Tm),x∈(Tm.ats I c).1->∀o≤24,x.wrong A f o=0)->inner.wrong A f g=0)->(around (Tm.ats I c).2.1 inner).wrong A names' j=0:=by
  intro I;induction I with
  |nil=>intro i c names' j _ _ _ _ _ _ _ inner hi;exact hi names' j (λ_ h=>h) (by simp) (λx h=>by simp[Tm.ats]at h)
  |cons y r U=>
   intro i c names' j hm a1 J T h0 hb hd inner hi;simp only[Tm.Xv]at hb;rw[List.length_cons]at hd hi
   push_cast at hb hd hi
   rw[K4,if_neg (λh=>a1 h.1)]at J;have hy:=hx y (hm y (List.mem_cons_self ..));have b1:=MJ y;rw[Tm.ats]at hi⊢;by_cases hv:y.tk=1
   ·rw[if_pos hv]at hi⊢;dsimp only at hi⊢;refine U (i+1) c names' j (λz hz=>hm z (List.mem_cons_of_mem _ hz)) a1 J.2 T h0 oM oM inner λf g g1 g2 g3=>?_
    refine hi f g g1 oM λx P e he=>?_
    rcases List.mem_cons.1 P with rfl|P
    ·exact Nc hy hv J.1 (λs hs=>g1 s (T s hs)) he
    ·exact g3 x P e he
   ·rw[if_neg hv]at hi⊢;have a5:wr (c+1)=c+1:=VJ oM oM;rw[a5]at hi⊢;have a6:=KV d y (c+1) hy oM oM;dsimp only at hi⊢;rw[around];have b2:=ih y names names' (c+1) (o+1) (j+1) hy J.1 T oM oM oM;refine Mq oM oM oM rfl ?_ ?_ (λh=>oM)
    ·unfold Y2;rw[if_neg oM,if_neg oM,if_neg oM,if_neg oM,if_pos rfl,OE oM oM];rfl
    ·rw[K4,K4,if_neg oM,if_pos oM];refine⟨b2,?_,rfl⟩;refine U (i+1) (y.pl (c+1)).2 (names'++[TH (c+1)]) (j+1) (λz hz=>hm z (List.mem_cons_of_mem _ hz)) a1 J.2 (λs hs=>List.mem_append_left _ (T s hs)) oM oM oM inner λf g g1 g2 g3=>?_
     refine hi f g (λs hs=>g1 s (List.mem_append_left _ hs)) oM λx P e he=>?_
     rcases List.mem_cons.1 P with rfl|P
     ·exact Ll (g1 _ (List.mem_append_right _ (List.mem_singleton.2 rfl))) he
     ·exact g3 x P e he
 have a4:∀(f:List ByteArray) (a':ByteArray) (o:Int) (l:List Tm) (i:Nat),k≠6->(∀x∈l,∀o≤24,x.wrong A f o=0)->o+1<=24->Tm.Y1 A k a' f o i l=0:=by
  intro f a' o l;induction l with
  |nil=>intro _ _ _ _;rfl
  |cons x r U=>
   intro i a1 hl hd;rw[K4,if_neg (λh=>a1 h.1)];exact⟨hl x (List.mem_cons_self ..) _ hd,U (i+1) a1 (λz hz=>hl z (List.mem_cons_of_mem _ hz)) hd⟩
 have a2:=UQ xs c;have b5:(xs.length:Int)<=6:=oM;rw[Tm.pl];by_cases k3:k=3\/k=4\/k=5
 ·rw[if_pos k3];have b3:cs=[]:=by
   unfold Xx at C;simp only[Bool.or_eq_false_iff,Bool.and_eq_false_iff,decide_eq_false_iff_not]at C;rcases C.2 with h|h
   ·exact absurd (show k≠7 by omega) h
   ·exact List.eq_nil_of_length_eq_zero oM
  subst b3;refine hA xs 0 c names' j (λ_ h=>h) oM h6 T h0 oM oM _ λf g g1 g2 g3=>?_
  refine Mq oM h2 h3 (by rw[a2];exact h4) ?_ (a4 f a g _ 0 oM g3 oM) (λh=>oM);rw[a2];unfold Y2 at h5⊢;rw[if_neg oM]at h5⊢;exact h5
 rw[if_neg k3];by_cases k6:k=6
 ·rw[if_pos k6];obtain⟨x,y,rfl,rfl⟩:=LK a7 k6;subst k6;rw[K4,K4,if_neg oM,if_pos oM]at h6;simp only[Tm.Xv]at hb
  push_cast at hb
  have a6:=KV d x c (hx x (by simp)) h0 oM;have g1:=ih x names names' c (o+1) (j+1) (hx x (by simp)) h6.1 T h0 oM oM;have g2:=ih y (names++[a]) (names'++[a]) (x.pl c).2 (o+1) (j+1) (hx y (by simp)) h6.2.1 (λs hs=>by
   rcases List.mem_append.1 hs with h|h
   ·exact List.mem_append_left _ (T s h)
   ·exact List.mem_append_right _ h) oM oM oM
  rw[Tm.M5,Tm.M5,Tm.M5];dsimp only;refine Mq oM oM oM rfl ?_ ?_ (λh=>oM)
  ·unfold Y2 at h5⊢;rw[if_neg oM,if_neg oM,if_neg oM,if_neg oM,if_pos rfl]at h5⊢;exact h5
  ·rw[K4,K4,if_neg oM,if_pos oM];exact⟨g1,g2,rfl⟩
 rw[if_neg k6];by_cases k7:k=7
 ·rw[if_pos k7];obtain⟨q1,q2,q3⟩:=h7 k7;have a8:xs.length=1:=by
   subst k7;unfold Xx at C;simp at C;exact C
  have a6:0<=(Tm.ats xs c).2.2/\(Tm.ats xs c).2.2<=c+(Tm.Xv xs:Nat):=by
   match xs,a8,hx with
   |[x],_,hx=>
    have b1:=MJ x;simp only[Tm.Xv]at hb⊢
    push_cast at hb⊢
    rw[Tm.ats];split
    ·dsimp only;rw[Tm.ats];dsimp only;omega
    ·have a5:wr (c+1)=c+1:=VJ oM oM;have:=KV d x (c+1) (hx x (by simp)) oM oM;rw[a5];dsimp only;rw[Tm.ats];dsimp only;omega
  have hC:∀(I:List Cs) (a3:List Int) (c:Int) (f:List ByteArray) (g:Int),(∀y∈I,y∈cs)->Cs.Y1 A names o a3 I=0->(∀s∈names,s∈f)->0<=c->c+(Cs.Xv I:Nat)<=9999999->g+1<=24-7 * (d:Int)->Cs.Y1 A f g a3 (Cs.M5 I c).1=0/\(Cs.M5 I c).1.length=I.length:=by
   intro I;induction I with
   |nil=>intro a3 c _ _ _ _ _ _ _;exact λ_=>⟨rfl,rfl⟩
   |cons y r U=>
    intro a3 c f g hm J T h0 hb hd;have hy:=hc y (hm y (List.mem_cons_self ..));obtain⟨t,ws,y⟩:=y;simp only[Cs.Xv,Cs.sz]at hb
    push_cast at hb
    rw[QM]at J;obtain⟨⟨w1,w2,w3,w4,w5,w6⟩,w7⟩:=J;have a6:=KV d y c hy.2 h0 oM;obtain⟨g1,g2⟩:=U (t::a3) (y.pl c).2 f g (λz hz=>hm z (List.mem_cons_of_mem _ hz)) w7 T oM oM hd;have g3:=ih y (names++ws) (f++ws) c (o+1) (g+1) hy.2 w6 (λs hs=>by
     rcases List.mem_append.1 hs with h|h
     ·exact List.mem_append_left _ (T s h)
     ·exact List.mem_append_right _ h) h0 oM hd
    rw[Cs.M5,Cs.pl];refine⟨?_,by simp[g2]⟩;dsimp only;rw[QM];exact⟨⟨w1,w2,w3,w4,w5,g3⟩,g1⟩
  refine hA xs 0 c names' j (λ_ h=>h) oM h6 T h0 oM oM _ λf g g1 g2 g3=>?_
  obtain⟨g4,g5⟩:=hC cs [] (Tm.ats xs c).2.2 f g (λ_ h=>h) q3 (λs hs=>g1 s (T s hs)) oM oM oM;have h8:=a4 f .empty g (Tm.ats xs c).1 0 oM g3 oM;subst k7;exact Mq oM oM oM (by rw[a2,g5];exact h4) rfl h8 (λ_=>⟨by rw[g5];exact q1,by rw[g5];exact q2,g4⟩)
 ·rw[if_neg k7];have a9:k=1\/k=2:=oM;rcases a9 with rfl|rfl
  ·exact Nc (d:=d+1) a7 rfl hw T oM
  ·have b0:xs=[]/\cs=[]:=by
    unfold Xx at C;simp at C;exact C
   obtain⟨rfl,rfl⟩:=b0;exact Mq oM h2 h3 h4 h5 rfl (λh=>oM)
def ORel(o f:Out):Prop:=o.2=f.2/\(o.2.2=0->o.1=f.1)
def RnEv(names:List ByteArray)(ps:Ps)(c:Int)(env f:Env):Prop:=∀s∈names,(∃i,1<=i/\i<=c/\Yc ps s=Xp i)/\Y8 f (Yc ps s)=Y8 env s
theorem Fg(w:ByteArray)(v:Vl)(ws:List ByteArray)(vs:List Vl)(env:Env):JG (w::ws) (v::vs) env=JG ws vs ((w,v)::env):=by
 unfold JG;rw[List.zip_cons_cons,List.reverse_cons,List.append_assoc];rfl
structure RnOk (A:X6) (x:Fn):Prop where
 rt:x.body.Rt 25
 wrong:x.body.wrong A x.params 0=0
 bd:x.params.length+x.body.bd.length<=9999999
theorem Xq5:∀(d:Nat) (t:Tm),t.Rt d->t.bd.length+6<=7 * t.sz:=by
 intro d;induction d with
 |zero=>intro t h;exact h.elim
 |succ d o=>
 intro t P;obtain⟨k,n,a,b,vs,xs,cs⟩:=t;obtain⟨hk,j,_,T,U⟩:=P;have hL:∀f:List Tm,(∀y∈f,y∈xs)->(Tm.V6 f).length<=7 * Tm.Xv f:=by
  intro f;induction f with
  |nil=>intro _;simp[Tm.V6]
  |cons y r g=>
   intro i;have C:=o y (T y (i y (List.mem_cons_self ..)));have I:=g λz l=>i z (List.mem_cons_of_mem _ l)
   rw[Tm.V6,List.length_append,Tm.Xv];omega
 have hC:∀f:List Cs,(∀y∈f,y∈cs)->(Cs.V6 f).length<=7 * Cs.Xv f:=by
  intro f;induction f with
  |nil=>intro _;simp[Cs.V6]
  |cons y r g=>
   intro i;have J:=U y (i y (List.mem_cons_self ..));obtain⟨t,ws,y⟩:=y;have C:=o y J.2;have I:=g λz l=>i z (List.mem_cons_of_mem _ l)
   have h3:ws.length<=6:=J.1;rw[Cs.V6,Cs.bd,List.length_append,List.length_append,Cs.Xv,Cs.sz];omega
 have C:=hL xs λ_ h=>h
 have I:=hC cs λ_ h=>h
 rw[Tm.bd,List.length_append,List.length_append,Tm.sz];have h3:(if k=6 then[a]else[]).length<=1:=by split<;> simp
 omega
theorem Fn.Zk6(f:Fn):f.rn.params.length=f.params.length:=Hq _ _
theorem Fn.Right.Jx3{A:X6}{x:Fn}(h:x.Right A)(hr:x.body.Rt 25):RnOk A x:=
 ⟨hr,h.wrong,by have:=Xq5 25 x.body hr;have:=h.sz;have:=h.params;omega⟩
theorem Fn.Right.rn{A:X6}{x:Fn}(h:x.Right A)(hr:x.body.Rt 25):x.rn.Right A:=by
 have o:=(h.Jx3 hr).bd;obtain⟨i,r⟩:=O7 x.params 0 oM oM;have hp:x.rn.params=QG 0 x.params.length:=i;have f:=h.params;have j:=h.sz;have g:x.rn.body.sz<=x.body.sz:=Tm.Ro _ _ _;refine⟨h.name,by rw[hp];exact OU (KT oM _),by rw[hp];exact Sb oM oM,by rw[x.Zk6];exact f,oM,?_⟩;have l:Zh4 x.params (Y5 x.params 0) (x.params.zip (Y5 x.params 0)):=by
  have:=Zh4.more (names:=[]) (names':=[]) (ps:=[]) (λs g=>by cases g) x.params (Y5 x.params 0) (Hq _ _).symm;simpa using this
 exact Qx5 A 25 x.body x.params x.rn.params _ (Rz x.params 0) 0 hr h.wrong oM oM l
def NW(s:ByteArray):Prop:=∀i,s≠TH i
def AgE(env f:Env):Prop:=∀s,NW s->Y8 f s=Y8 env s
structure PlOk (A:X6) (x:Fn):Prop where
 rt:x.body.Rt 25
 wrong:x.body.wrong A x.params 0=0
 params:∀s∈x.params,NW s
 bd:∀s∈x.body.bd,NW s
 sz:(x.body.sz:Int)<9223372036854775807
theorem VC:∀(bs:Bs) (t:Tm),(∀b∈bs,b.2.Gp=true)->t.Gp=true->(around bs t).Gp=true
 |[],t,_,h=>h
 |b::r,t,f,h=>by
  have g:=f b (List.mem_cons_self ..);have i:=VC r t (λx j=>f x (List.mem_cons_of_mem _ j)) h;simp[around,Tm.Gp,Tm.PU,Cs.PU,g,i]
theorem DD{k:Int}(f:k≠6):∀l:List Tm,(∀x∈l,x.tk=1)->Tm.PU k l=true
 |[],_=>rfl
 |x::r,h=>by
  rw[Tm.PU,if_neg f,DD f r λy g=>h y (List.mem_cons_of_mem _ g),h x (List.mem_cons_self ..)];rfl
theorem UO:∀(l:List Tm) (c:Int),∀x∈(Tm.ats l c).1,x.tk=1
 |[],c,x,f=>by simp[Tm.ats]at f
 |y::r,c,x,f=>by
  rw[Tm.ats]at f;by_cases h:y.tk=1
  ·rw[if_pos h]at f;rcases List.mem_cons.1 f with rfl|f
   ·exact h
   ·exact UO r _ x f
  ·rw[if_neg h]at f;rcases List.mem_cons.1 f with rfl|f
   ·rfl
   ·exact UO r _ x f
theorem Xj3:∀(d:Nat) (t:Tm) (c:Int),t.Rt d->(t.pl c).1.Gp=true:=by
 intro d;induction d with
 |zero=>intro t _ h;exact h.elim
 |succ d C=>
 intro t c T;obtain⟨k,n,a,b,vs,xs,cs⟩:=t;have I:=T;obtain⟨hk,i,_,J,U⟩:=I;have P:∀(f:List Tm) (c:Int),(∀y∈f,y∈xs)->∀b∈(Tm.ats f c).2.1,b.2.Gp=true:=by
  intro f;induction f with
  |nil=>intro c _ b j;simp[Tm.ats]at j
  |cons y r g=>
   intro c l b j;rw[Tm.ats]at j;by_cases h:y.tk=1
   ·rw[if_pos h]at j;exact g _ (λz o=>l z (List.mem_cons_of_mem _ o)) b j
   ·rw[if_neg h]at j;rcases List.mem_cons.1 j with rfl|j
    ·exact C y _ (J y (l y (List.mem_cons_self ..)))
    ·exact g _ (λz o=>l z (List.mem_cons_of_mem _ o)) b j
 have hL:∀(f:List Tm) (c:Int),(∀y∈f,y∈xs)->Tm.PU 6 (Tm.M5 f c).1=true:=by
  intro f;induction f with
  |nil=>intro c _;rfl
  |cons y r g=>
   intro c l;rw[Tm.M5,Tm.PU,if_pos rfl,C y _ (J y (l y (List.mem_cons_self ..))),g _ λz o=>l z (List.mem_cons_of_mem _ o)];rfl
 have hC:∀(f:List Cs) (c:Int),(∀y∈f,y∈cs)->Cs.PU (Cs.M5 f c).1=true:=by
  intro f;induction f with
  |nil=>intro c _;rfl
  |cons y r g=>
   intro c l;have hy:=U y (l y (List.mem_cons_self ..));obtain⟨t,ws,y⟩:=y;rw[Cs.M5,Cs.PU,g _ λz o=>l z (List.mem_cons_of_mem _ o),Cs.pl,Cs.Gp,C y _ hy.2];rfl
 rw[Tm.pl];split
 ·rename_i h;refine VC _ _ (P xs c λ_ h=>h) ?_;rw[Tm.Gp,DD oM _ (UO xs c)];rfl
 split
 ·rename_i h;rw[Tm.Gp,hL xs c λ_ h=>h];rfl
 split
 ·rename_i h;refine VC _ _ (P xs c λ_ h=>h) ?_;rw[Tm.Gp,DD oM _ (UO xs c),hC cs _ λ_ h=>h];rfl
 ·have h1:k=1\/k=2:=oM;have h2:xs=[]/\cs=[]:=by
   unfold Xx at i;rcases h1 with rfl|rfl<;> simpa using i
  obtain⟨rfl,rfl⟩:=h2;rfl
theorem Bt{c:Int}{n:Nat}:∀s∈QG c n,NW s:=λs f i=>by
 unfold QG at f;obtain⟨j,_,rfl⟩:=List.mem_map.1 f;exact Lp _ _
theorem Fn.Right.plOk{A:X6}{x:Fn}(h:x.Right A)(hr:x.body.Rt 25):PlOk A x.rn:=by
 have o:=(h.Jx3 hr).bd;obtain⟨g,r⟩:=O7 x.params 0 oM oM;have hp:x.rn.params=QG 0 x.params.length:=g;have f:=h.rn hr;have i:=f.sz;obtain⟨j,_⟩:=Ml 25 x.body (x.params.zip (Y5 x.params 0)) (Rz x.params 0) hr oM oM;exact⟨x.Zl hr,f.wrong,by rw[hp];exact Bt,λs l=>Bt s (j.mem_iff.1 l),oM⟩
theorem Ua{l:List Fn}(g:H5 l)(h:Jq l=0):∀y∈l.map Fn.pl,y.body.Ok/\y.body.Rt 175/\y.body.Gp=true:=λy i=>by
 obtain⟨x,j,rfl⟩:=List.mem_map.1 i;obtain⟨o,f,r⟩:=M3 g h x j;exact⟨(x.BN o f r).1,Qj7 25 x.rn.body 0 (x.Zl f),Xj3 25 x.rn.body 0 (x.Zl f)⟩
def Xi(c:Int)(n:Nat):List ByteArray:=(List.range n).map λ(i:Nat)=>TH (c+1+(i:Int))
theorem JS(c:Int)(m n:Nat):Xi c (m+n)=Xi c m++Xi (c+m) n:=by
 unfold Xi;rw[List.range_add,List.map_append,List.map_map];congr 1;refine List.map_congr_left λi _=>?_
 simp only[Function.comp];congr 1
 push_cast
 omega
theorem Qz8(c:Int):Xi c 1=[TH (c+1)]:=by simp[Xi]
theorem LG{c:Int}(g:0<=c)(n:Nat):(Xi c n).Nodup:=by
 unfold Xi;rw[List.nodup_iff_pairwise_ne,List.pairwise_map];refine List.Pairwise.imp ?_ List.nodup_range;intro a b f e;have:=Zx2 oM oM e;omega
def Om:Bs->List ByteArray
 |[]=>[]
 |b::r=>b.1::(b.2.bd++Om r)
theorem Rf:∀(bs:Bs) (t:Tm),(around bs t).bd=Om bs++t.bd
 |[],t=>rfl
 |b::r,t=>by simp[around,Tm.bd,Tm.V6,Cs.V6,Om,Rf r t]
theorem Tf:∀l:List Tm,(∀x∈l,x.bd=[])->Tm.V6 l=[]
 |[],_=>rfl
 |x::r,h=>by rw[Tm.V6,h x (List.mem_cons_self ..),Tf r λy f=>h y (List.mem_cons_of_mem _ f)];rfl
theorem OI{d:Nat}{t:Tm}(g:t.Rt d)(h:t.tk=1):t.bd=[]:=by
 obtain⟨k,n,a,b,vs,xs,cs⟩:=t;change k=1 at h;subst h;cases d with
 |zero=>exact g.elim
 |succ d=>
  obtain⟨_,f,_⟩:=g;unfold Xx at f;simp at f;obtain⟨rfl,rfl⟩:=f;rfl
theorem Ub{f:Type}{x a b c d:List f}(g:x.Perm (a++b)):(x++(c++d)).Perm ((a++c)++(b++d)):=by
 refine(g.append_right _).trans ?_;rw[List.append_assoc,List.append_assoc];refine List.Perm.append_left a ?_;rw[<-List.append_assoc,<-List.append_assoc];exact(List.perm_append_comm).append_right d
theorem BO:∀(d:Nat) (t:Tm) (c:Int),t.Rt d->0<=c->c+t.sz<9223372036854775807->∃n:Nat,(t.pl c).2=c+n/\(t.pl c).1.bd.Perm (t.bd++Xi c n):=by
 intro d;induction d with
 |zero=>intro t _ h;exact h.elim
 |succ d ih=>
 intro t c hR U i;obtain⟨k,n,a,b,vs,xs,cs⟩:=t;have a2:=hR;obtain⟨hk,f,_,J,hc⟩:=a2;have hA:∀(g:List Tm) (c:Int),(∀y∈g,y∈xs)->0<=c->c+Tm.Xv g+1<9223372036854775807->∃m:Nat,(Tm.ats g c).2.2=c+m/\m<=Tm.Xv g/\(Om (Tm.ats g c).2.1).Perm (Tm.V6 g++Xi c m)/\(∀x∈(Tm.ats g c).1,x.bd=[]):=by
  intro g;induction g with
  |nil=>intro c _ _ _;exact⟨0,by simp[Tm.ats],by simp,by simp[Tm.ats,Om,Tm.V6,Xi],by simp[Tm.ats]⟩
  |cons y r l=>
   intro c P U i;rw[Tm.Xv]at i⊢;have o:=J y (P y (List.mem_cons_self ..));have hp:=MJ y;rw[Tm.ats];by_cases h:y.tk=1
   ·rw[if_pos h];obtain⟨m,C,g2,I,g4⟩:=l c (λz hz=>P z (List.mem_cons_of_mem _ hz)) U (by push_cast at i;omega);refine⟨m,C,oM,by rw[Tm.V6,OI o h,List.nil_append];exact I,λx J=>?_⟩;rcases List.mem_cons.1 J with rfl|J
    ·exact OI o h
    ·exact g4 x J
   ·rw[if_neg h];have hw:wr (c+1)=c+1:=VJ oM (by push_cast at i;omega);rw[hw];have j:=KV d y (c+1) o oM (by push_cast at i;omega);obtain⟨m1,e1,e2⟩:=ih y (c+1) o oM (by push_cast at i;omega);rw[e1]at j⊢;obtain⟨T,C,g2,I,g4⟩:=l (c+1+m1) (λz hz=>P z (List.mem_cons_of_mem _ hz)) oM (by push_cast at i;omega);refine⟨1+m1+T,by dsimp only;rw[C];push_cast;omega,oM,?_,λx J=>?_⟩
    ·dsimp only;rw[Om,Tm.V6,JS,JS,Qz8];have h1:=Ub (c:=Tm.V6 r) (d:=Xi (c+1+m1) T) e2;refine(List.Perm.cons _ (((List.Perm.refl _).append I).trans h1)).trans ?_;rw[show c+((1+m1:Nat):Int)=c+1+m1 from by push_cast;omega,show c+((1:Nat):Int)=c+1 from by push_cast;omega];rw[List.append_assoc [TH (c+1)]];exact(List.perm_middle (a:=TH (c+1)) (l₁:=y.bd++Tm.V6 r) (l₂:=Xi (c+1) m1++Xi (c+1+m1) T)).symm
    ·rcases List.mem_cons.1 J with rfl|J
     ·rfl
     ·exact g4 x J
 have hL:∀(g:List Tm) (c:Int),(∀y∈g,y∈xs)->0<=c->c+Tm.Xv g<9223372036854775807->∃m:Nat,(Tm.M5 g c).2=c+m/\m<=Tm.Xv g/\(Tm.V6 (Tm.M5 g c).1).Perm (Tm.V6 g++Xi c m):=by
  intro g;induction g with
  |nil=>intro c _ _ _;exact⟨0,by simp[Tm.M5],by simp,by simp[Tm.M5,Tm.V6,Xi]⟩
  |cons y r l=>
   intro c P U i;rw[Tm.Xv]at i⊢;have o:=J y (P y (List.mem_cons_self ..));have j:=KV d y c o oM (by push_cast at i;omega);obtain⟨m1,e1,e2⟩:=ih y c o oM (by push_cast at i;omega);rw[Tm.M5];rw[e1]at j⊢;obtain⟨T,C,g2,I⟩:=l (c+m1) (λz hz=>P z (List.mem_cons_of_mem _ hz)) oM (by push_cast at i;omega);refine⟨m1+T,by dsimp only;rw[C];push_cast;omega,oM,?_⟩;dsimp only;rw[Tm.V6,Tm.V6,JS];exact((List.Perm.refl _).append I).trans (Ub e2)
 have hC:∀(g:List Cs) (c:Int),(∀y∈g,y∈cs)->0<=c->c+Cs.Xv g<9223372036854775807->∃m:Nat,(Cs.M5 g c).2=c+m/\m<=Cs.Xv g/\(Cs.V6 (Cs.M5 g c).1).Perm (Cs.V6 g++Xi c m):=by
  intro g;induction g with
  |nil=>intro c _ _ _;exact⟨0,by simp[Cs.M5],by simp,by simp[Cs.M5,Cs.V6,Xi]⟩
  |cons y r l=>
   intro c P U i;have o:=hc y (P y (List.mem_cons_self ..));obtain⟨t,ws,y⟩:=y;have o:=o.2;change y.Rt d at o;rw[Cs.Xv,Cs.sz]at i⊢;have j:=KV d y c o oM (by push_cast at i;omega);obtain⟨m1,e1,e2⟩:=ih y c o oM (by push_cast at i;omega);rw[Cs.M5,Cs.pl];dsimp only;rw[e1]at j⊢;obtain⟨T,C,g2,I⟩:=l (c+m1) (λz hz=>P z (List.mem_cons_of_mem _ hz)) oM (by push_cast at i;omega);refine⟨m1+T,by rw[C];push_cast;omega,oM,?_⟩;rw[Cs.V6,Cs.V6,Cs.bd,Cs.bd,JS];refine((List.Perm.refl _).append I).trans (Ub ?_);rw[List.append_assoc];exact(List.Perm.refl _).append e2
 have hs:((Tm.mk k n a b vs xs cs).sz:Int)=1+Tm.Xv xs+Cs.Xv cs:=by rw[Tm.sz];push_cast;omega
 rw[hs]at i;rw[Tm.pl];split
 ·rename_i h;have a1:cs=[]:=by
   unfold Xx at f;rcases h with rfl|rfl|rfl<;> simp at f<;> first|exact f.2|(cases cs with|nil=>rfl|cons _ _=>simp at f)
  subst a1;obtain⟨m,C,g2,I,g4⟩:=hA xs c (λ_ h=>h) U oM;refine⟨m,C,?_⟩;dsimp only;rw[Rf,Tm.bd,Tm.bd,if_neg oM,Tf _ g4];simpa[Cs.V6]using I
 split
 ·rename_i h;subst h;have a1:cs=[]:=by
   unfold Xx at f;simp at f;exact f.2
  subst a1;obtain⟨m,C,g2,I⟩:=hL xs c (λ_ h=>h) U oM;refine⟨m,C,?_⟩;dsimp only;rw[Tm.bd,Tm.bd,if_pos rfl,Cs.V6,List.append_nil,List.append_nil,List.append_assoc];exact(List.Perm.refl _).append I
 split
 ·rename_i h;subst h;obtain⟨m,C,g2,I,g4⟩:=hA xs c (λ_ h=>h) U oM;rw[C];obtain⟨T,f1,f2,f3⟩:=hC cs (c+m) (λ_ h=>h) oM oM;refine⟨m+T,by dsimp only;rw[f1];push_cast;omega,?_⟩;dsimp only;rw[Rf,Tm.bd,Tm.bd,if_neg oM,if_neg oM,Tf _ g4,List.nil_append,List.nil_append,List.nil_append,JS];exact((List.Perm.refl _).append f3).trans (Ub I)
 ·exact⟨0,by simp,by simp[Xi]⟩
theorem Fn.Right.BO{A:X6}{x:Fn}(h:x.Right A)(hr:x.body.Rt 25):x.pl.bd.Nodup:=by
 have g:=h.plOk hr;have o:=x.Jx2 hr (by have:=Xq5 25 x.body hr;have:=h.sz;have:=h.params;unfold Fn.bd;rw[List.length_append];omega);obtain⟨m,_,hp⟩:=Go.Proofs.YtnddiddkmhiclaaGreatDoor.BO 25 x.rn.body 0 (x.Zl hr) oM (by have:=g.sz;omega);have i:x.pl.bd.Perm (x.rn.bd++Xi 0 m):=by
  unfold Fn.bd;rw[List.append_assoc];exact(List.Perm.refl x.rn.params).append hp
 refine i.nodup_iff.2 (List.nodup_append.2 ⟨o,LG oM m,λs f t l e=>?_⟩);have r:NW s:=by
  unfold Fn.bd at f;rcases List.mem_append.1 f with f|f
  ·exact g.params s f
  ·exact g.bd s f
 unfold Xi at l;obtain⟨j,_,rfl⟩:=List.mem_map.1 l;exact r _ e
theorem Fn.Right.Zv0{A:X6}{x:Fn}(h:x.Right A)(hr:x.body.Rt 25):∀s∈x.pl.body.free,s∈x.pl.params:=by
 have f:=h.rn hr;have g:=f.sz;exact Lg A _ x.pl.body x.pl.params (-151) (Nat.lt_succ_self _) (Ha A 25 x.rn.body x.rn.params x.rn.params 0 0 (-151) (x.Zl hr) f.wrong (λ_ h=>h) oM oM oM)
def Oa(k:Int):Bool:=decide (k=8\/k=9\/k=10\/k=11\/k=13)
mutual
def Tm.er:Tm->Tm
 | .mk k n a b vs xs cs=>if Oa k=true/\xs.length=1 then Tm.Xd8 xs else .mk (if k=12 then 3 else k) n a (if k=12 then⟨#[]⟩else b) vs (Tm.D9 xs) (Cs.D9 cs)
def Tm.Xd8:List Tm->Tm
 |[]=>.mk 0 0 .empty .empty [] [] []
 |x::_=>x.er
def Tm.D9:List Tm->List Tm
 |[]=>[]
 |x::r=>x.er::Tm.D9 r
def Cs.D9:List Cs->List Cs
 |[]=>[]
 |c::r=>c.er::Cs.D9 r
def Cs.er:Cs->Cs
 | .mk t ws y=>.mk t ws y.er
end
theorem Vp{k:Int}(f:k=8\/k=9):∀(l:List ByteArray) (t:Tm),(cnt k l t).er=t.er
 |[],_=>rfl
 |s::r,t=>by
  have h:Oa k=true:=by unfold Oa;exact decide_eq_true oM
  rw[cnt,Tm.er,if_pos ⟨h,rfl⟩,Tm.Xd8,Vp f r t]
theorem YZ{k:Int}(h:k<=7):Oa k=false:=by unfold Oa;exact decide_eq_false oM
theorem Xq4:∀(d:Nat) (t:Tm),t.Rt d->t.er=t:=by
 intro d;induction d with
 |zero=>intro t h;exact h.elim
 |succ d l=>
 intro t o;obtain⟨k,n,a,b,vs,xs,cs⟩:=t;obtain⟨C,_,_,I,J⟩:=o;have P:∀f:List Tm,(∀y∈f,y∈xs)->Tm.D9 f=f:=by
  intro f;induction f with
  |nil=>intro _;rfl
  |cons y r g=>
   intro i;rw[Tm.D9,l y (I y (i y (List.mem_cons_self ..))),g λz j=>i z (List.mem_cons_of_mem _ j)]
 have T:∀f:List Cs,(∀y∈f,y∈cs)->Cs.D9 f=f:=by
  intro f;induction f with
  |nil=>intro _;rfl
  |cons y r g=>
   intro i;have U:=J y (i y (List.mem_cons_self ..));obtain⟨t,ws,y⟩:=y;rw[Cs.D9,Cs.er,l y U.2,g λz j=>i z (List.mem_cons_of_mem _ j)]
 rw[Tm.er,YZ C.2,if_neg (by simp),P xs λ_ h=>h,T cs λ_ h=>h,if_neg oM,if_neg oM]
mutual
def Tm.Zz4:Tm->Prop
 | .mk k n a b vs xs cs=>(k=6->n=0/\b= .empty/\vs=[]/\Tm.FY xs)/\(k=7->n=0/\a= .empty/\b= .empty/\vs=[]/\Cs.FY cs)
def Tm.FY:List Tm->Prop
 |[]=>True
 |x::r=>x.Zz4/\Tm.FY r
def Cs.FY:List Cs->Prop
 |[]=>True
 |c::r=>c.Zz4/\Cs.FY r
def Cs.Zz4:Cs->Prop
 | .mk _ _ y=>y.Zz4
end
theorem Cs.EY:∀{l:List Cs},Cs.FY l<->∀t∈l,t.Zz4
 |[]=>by simp[Cs.FY]
 |t::r=>by simp[Cs.FY,Cs.EY (l:=r)]
theorem VB:∀(bs:Bs) (t:Tm),(∀b∈bs,b.2.Zz4)->t.Zz4->(around bs t).Zz4
 |[],_,_,h=>h
 |b::r,t,f,h=>by
  rw[around];exact⟨λ_=>⟨rfl,rfl,rfl,f b (List.mem_cons_self ..),VB r t (λx g=>f x (List.mem_cons_of_mem _ g)) h,trivial⟩,λh=>oM⟩
theorem Xj2:∀(d:Nat) (t:Tm) (c:Int),t.Rt d->(t.pl c).1.Zz4:=by
 intro d;induction d with
 |zero=>intro t _ h;exact h.elim
 |succ d l=>
 intro t c T;obtain⟨k,n,a,b,vs,xs,cs⟩:=t;obtain⟨_,_,_,I,U⟩:=T;have J:∀(f:List Tm) (c:Int),(∀y∈f,y∈xs)->∀b∈(Tm.ats f c).2.1,b.2.Zz4:=by
  intro f;induction f with
  |nil=>intro c _ b h;simp[Tm.ats]at h
  |cons y r g=>
   intro c i;have o:=i y (List.mem_cons_self ..);rw[Tm.ats];split
   ·exact g c λz j=>i z (List.mem_cons_of_mem _ j)
   ·intro b C;rcases List.mem_cons.1 C with rfl|C
    ·exact l y _ (I y o)
    ·exact g (y.pl (wr (c+1))).2 (λz j=>i z (List.mem_cons_of_mem _ j)) b C
 have hL:∀(f:List Tm) (c:Int),(∀y∈f,y∈xs)->Tm.FY (Tm.M5 f c).1:=by
  intro f;induction f with
  |nil=>intro c _;exact trivial
  |cons y r g=>
   intro c i;rw[Tm.M5];exact⟨l y c (I y (i y (List.mem_cons_self ..))),g (y.pl c).2 λz j=>i z (List.mem_cons_of_mem _ j)⟩
 have hC:∀(f:List Cs) (c:Int),(∀y∈f,y∈cs)->Cs.FY (Cs.M5 f c).1:=by
  intro f;induction f with
  |nil=>intro c _;exact trivial
  |cons y r g=>
   intro c i;have o:=U y (i y (List.mem_cons_self ..));have P:=g (y.pl c).2 λz j=>i z (List.mem_cons_of_mem _ j)
   obtain⟨t,ws,y⟩:=y;rw[Cs.M5];rw[Cs.pl]at P⊢;exact⟨l y c o.2,P⟩
 rw[Tm.pl];split
 ·exact VB _ _ (J xs c λ_ h=>h) ⟨λh=>oM,λh=>oM⟩
 split
 ·exact⟨λ_=>⟨rfl,rfl,rfl,hL xs c λ_ h=>h⟩,λh=>oM⟩
 split
 ·exact VB _ _ (J xs c λ_ h=>h) ⟨λh=>oM,λ_=>⟨rfl,rfl,rfl,rfl,hC cs _ λ_ h=>h⟩⟩
 ·exact⟨λh=>oM,λh=>oM⟩
theorem Qk1:∀(d:Nat) (t:Tm) (has:List ByteArray),t.Rt d->t.Zz4->(t.ow has).er=t:=by
 intro d;induction d with
 |zero=>intro t _ h;exact h.elim
 |succ d U=>
 intro t has hR hP;have g:=Xq4 _ t hR;obtain⟨k,n,a,b,vs,xs,cs⟩:=t;obtain⟨hk,f,_,hx,hc⟩:=hR;rw[Tm.ow,Vp (.inr rfl)];by_cases k3:k=3\/k=4\/k=5
 ·rw[if_pos k3,Vp (.inl rfl),g]
 rw[if_neg k3];by_cases P:k=6
 ·rw[if_pos P,Vp (.inl rfl)];obtain⟨rfl,rfl,rfl,C⟩:=hP.1 P;subst P;have i:xs.length=2/\cs=[]:=by
   unfold Xx at f;simp at f;exact f
  obtain⟨i,rfl⟩:=i;obtain⟨x,y,rfl⟩:∃x y,xs=[x,y]:=by
   rcases xs with _|⟨x,_|⟨y,_|⟨z,l⟩⟩⟩
   ·cases i
   ·cases i
   ·exact⟨x,y,rfl⟩
   ·simp at i
  rw[Dr,Tm.VH,List.headD_cons,List.tail_cons,Tm.VH,List.headD_cons,List.tail_cons,Tm.VH];rw[Tm.er,YZ oM,if_neg (by simp),Tm.D9,Tm.D9,Tm.D9,Cs.D9,U x _ (hx x (by simp)) C.1,U y _ (hx y (by simp)) C.2.1];rfl
 rw[if_neg P];by_cases T:k=7
 ·rw[if_pos T];obtain⟨rfl,rfl,rfl,rfl,a1⟩:=hP.2 T;subst T;have hC:∀(own:List ByteArray) (nm:ByteArray) (j:List Cs),(∀y∈j,y∈cs)->Cs.D9 (Cs.RU j own nm)=j:=by
   intro own nm j;induction j with
   |nil=>intro _;rfl
   |cons y r o=>
    intro I;have J:=I y (List.mem_cons_self ..);have hy:=hc y J;have hp:=Cs.EY.1 a1 y J;obtain⟨t,ws,y⟩:=y;rw[Cs.RU,Cs.D9,Cs.ow,Cs.er,Vp (.inl rfl),Vp (.inr rfl),U y _ hy.2 hp,o λz hz=>I z (List.mem_cons_of_mem _ hz)]
  have hL:Tm.D9 xs=xs:=by
   have:∀j:List Tm,(∀y∈j,y∈xs)->Tm.D9 j=j:=by
    intro j;induction j with
    |nil=>intro _;rfl
    |cons y r o=>
     intro I;rw[Tm.D9,Xq4 d y (hx y (I y (List.mem_cons_self ..))),o λz hz=>I z (List.mem_cons_of_mem _ hz)]
   exact this xs λ_ h=>h
  rw[Tm.er,YZ oM,if_neg (by simp),hL,hC _ _ cs λ_ h=>h];rfl
 ·rw[if_neg T,g]
theorem Fn.Qk1(f:Fn)(hr:f.body.Rt 25):f.pl.ow.body.er=f.pl.body:=Go.Proofs.YtnddiddkmhiclaaGreatDoor.Qk1 (7 * 25) f.pl.body f.pl.params (Qj7 25 _ 0 (f.Zl hr)) (Xj2 25 _ 0 (f.Zl hr))
abbrev J6:=List (ByteArray×Qx)
abbrev z0:Qx:=⟨0,0⟩
def LH:J6->ByteArray->Option Qx
 |[],_=>none
 |(k,v)::r,s=>if k=s then some v else LH r s
def Qj(e:J6)(s:ByteArray):Qx:=(LH e s).getD z0
def M9(e:J6)(s:ByteArray):Bool:=(LH e s).isSome
def Jw:J6->D
 |[]=>.nil
 |(k,v)::r=>.ptr [.str k,.int v.kind,.int v.n,Jw r]
theorem YL{x s:ByteArray}(h:x=s)(v:Qx)(r:J6):Qj ((x,v)::r) s=v:=by simp[Qj,LH,h]
theorem VT{x s:ByteArray}(h:x=s)(v:Qx)(r:J6):M9 ((x,v)::r) s=true:=by simp[M9,LH,h]
theorem YK{x s:ByteArray}(h:¬x=s)(v:Qx)(r:J6):Qj ((x,v)::r) s=Qj r s:=by simp[Qj,LH,h]
theorem MP{x s:ByteArray}(h:¬x=s)(v:Qx)(r:J6):M9 ((x,v)::r) s=M9 r s:=by simp[M9,LH,h]
theorem Pq(x:ByteArray)(v:Qx)(r:J6)(s:ByteArray)(h:M9 r s=true):M9 ((x,v)::r) s=true:=by
 by_cases e:x=s
 ·exact VT e v r
 ·rw[MP e];exact h
def Yx(ws:List ByteArray)(l:List Qx)(env:J6):J6:=(ws.zip l).reverse++env
theorem WW(env:J6):Yx [] [] env=env:=by simp[Yx]
theorem Sc(a b:J6)(s:ByteArray)(h:M9 b s=true):M9 (a++b) s=true:=by
 induction a with
 |nil=>exact h
 |cons p r f=>obtain⟨k,v⟩:=p;exact Pq k v _ s f
theorem RN{a b:J6}{s:ByteArray}(h:s∈a.map (·.1)):M9 (a++b) s=true:=by
 induction a with
 |nil=>cases h
 |cons p r f=>
  obtain⟨k,v⟩:=p;by_cases e:k=s
  ·exact VT e v _
  ·show M9 ((k,v)::(r++b)) s=true;rw[MP e];rcases List.mem_cons.1 h with h|h
   ·exact absurd h.symm e
   ·exact f h
theorem YM{ws:List ByteArray}{l:List Qx}(f:ws.length=l.length)(env:J6){s:ByteArray}(h:s∈ws):M9 (Yx ws l env) s=true:=by
 unfold Yx;refine RN ?_;rw[List.map_reverse,List.mem_reverse];have:(ws.zip l).map (·.1)=ws:=by rw[List.map_fst_zip];omega
 rw[this];exact h
theorem Ja{ws:List ByteArray}{l:List Qx}(env:J6){s:ByteArray}(h:M9 env s=true):M9 (Yx ws l env) s=true:=Sc _ _ _ h
def Fq(env:J6)(xs:List Tm):List Qx:=xs.map λx=>Qj env x.nm
abbrev JJ:=Qx×Hp×Int×Int
abbrev C9:=ByteArray->List Qx->Hp->Int->JJ
def MO(v:Vl):Qx:=⟨if v.KD=true then 1 else 0,v.n⟩
def VZ(n:Int)(u v:Qx)(h:Hp)(f:Int):JJ:=
 if u.kind≠0\/v.kind≠0 then (z0,h,f,10)else if (Wj n u.n v.n).2≠0 then (z0,h,f,(Wj n u.n v.n).2)else (MO (Wj n u.n v.n).1,h,f,0)
def WE(h:Hp)(f:Int)(r:Hp×Qx×Int):JJ:=if r.2.2=0 then (r.2.1,r.1,f,0)else (r.2.1,h,f,r.2.2)
def Nj(k:Int)(s tok:Qx)(h:Hp):Hp×Qx×Int:=
 if k=8 then ((h.dup s).1,z0,(h.dup s).2)else if k=9 then ((h.drop s).1,z0,(h.drop s).2)
 else if k=10 then ((h.open s false).1,z0,(h.open s false).2.2)else if k=11 then h.hold s else ((h.free tok).1,z0,(h.free tok).2)
def Cv(h:Hp)(s:Qx):Int×List Qx×Int:=if s.kind=2 then h.get s else (s.n,[],0)
mutual
def Tj(C:C9):Tm→J6→Hp→Int→JJ
 | .mk k n a b _ xs cs,env,h,f=>
  if k=1 then (Qj env a,h,f,0)else if k=2 then (⟨0,n⟩,h,f,0)
  else if k=3 then (if xs.length=0 then (⟨1,n⟩,h,f,0)else WE h f (h.make n (Fq env xs)))
  else if k=12 then (if xs.length=0 then (⟨1,n⟩,h,f,0)else WE h f (h.use (Qj env (excl b)) n (Fq env xs)))
  else if k=4 then C a (Fq env xs) h f
  else if k=5 then VZ n ((Fq env xs).getD 0 z0) ((Fq env xs).getD 1 z0) h f
  else if k=6 then Nr C a xs env h f
  else if k=7 then
   (if (Qj env (QK xs).nm).kind = 0 then (z0, h, f, 10)
    else if (Cv h (Qj env (QK xs).nm)).2.2≠0 then (z0, h, f, (Cv h (Qj env (QK xs).nm)).2.2)
    else Rs C (Cv h (Qj env (QK xs).nm)).1 (Cv h (Qj env (QK xs).nm)).2.1 cs env h f)
  else if (Nj k (Qj env a) (Qj env (excl b)) h).2.2≠0 then (z0,h,f,(Nj k (Qj env a) (Qj env (excl b)) h).2.2)
  else WG C xs (if k=11 then (excl b,(Nj k (Qj env a) (Qj env (excl b)) h).2.1)::env else env) (Nj k (Qj env a) (Qj env (excl b)) h).1 f
def Nr(C:C9)(a:ByteArray):List Tm->J6->Hp->Int->JJ
 |[],_,h,f=>(z0,h,f,0)
 |x::r,env,h,f=>if (Tj C x env h f).2.2.2≠0 then (z0,(Tj C x env h f).2)else WG C r ((a,(Tj C x env h f).1)::env) (Tj C x env h f).2.1 (Tj C x env h f).2.2.1
def WG(C:C9):List Tm->J6->Hp->Int->JJ
 |[],_,h,f=>(z0,h,f,0)
 |y::_,env,h,f=>Tj C y env h f
def Rs(C:C9)(tag:Int)(l:List Qx):List Cs->J6->Hp->Int->JJ
 |[],_,h,f=>(z0,h,f,11)
 |c::r,env,h,f=>if c.tag=tag then (if c.vars.length=l.length then rnB C l c env h f else (z0,h,f,11))else Rs C tag l r env h f
def rnB(C:C9)(l:List Qx):Cs->J6->Hp->Int->JJ
 | .mk _ ws y,env,h,f=>Tj C y (Yx ws l env) h f
end
def DT:List Fn->ByteArray->Option Fn
 |[],_=>none
 |x::r,s=>if x.name=s then some x else DT r s
def J4(l:List Fn):Nat->C9
 |0,name,vs,h,f=>match DT l name with
  |none=>(z0,h,f,6)
  |some x=>if x.params.length≠vs.length then (z0,h,f,6)else if f=0 then (z0,h,f,12)else (z0,h,f,9)
 |n+1,name,vs,h,f=>match DT l name with
  |none=>(z0,h,f,6)
  |some x=>if x.params.length≠vs.length then (z0,h,f,6)else if f=0 then (z0,h,f,12)else Tj (J4 l n) x.body (Yx x.params vs []) h (f-1)
def Cj(F:Qx->Int->Vl×Int×Int):List Qx->Int->List Vl×Int×Int
 |[],left=>([],left,0)
 |x::r,left=>if (F x left).2.2≠0 then ([],(F x left).2)else ((F x left).1::(Cj F r (F x left).2.1).1,(Cj F r (F x left).2.1).2)
def Qa(h:Hp):Nat->Qx->Int->Vl×Int×Int
 |0,_,left=>(zeroV,left-1,4)
 |d+1,s,left=>
  if left-1<0 then (zeroV,left-1,4)
  else if s.kind=0 then (.mk false s.n [],left-1,0)else if s.kind=1 then (.mk true s.n [],left-1,0)
  else if (Cj (Qa h d) (h.get s).2.1 (left-1)).2.2≠0 then (zeroV,(Cj (Qa h d) (h.get s).2.1 (left-1)).2)
  else (.mk true (h.get s).1 (Cj (Qa h d) (h.get s).2.1 (left-1)).1,(Cj (Qa h d) (h.get s).2.1 (left-1)).2.1,(h.get s).2.2)
def UZ(h:Hp)(s:Qx):Vl×Int:=if (Qa h 1000 s 1000).2.2≠0 then (zeroV,(Qa h 1000 s 1000).2.2)else ((Qa h 1000 s 1000).1,0)
structure Jv2 where
 v:Vl
 e:Int
 made:Int
 used:Int
 peak:Int
 left:Int
def Jv2.bad(e:Int):Jv2:=⟨zeroV,e,0,0,0,0⟩
def FW(n:Int):Qx:=⟨0,Qm n⟩
def Xh4(o:JJ):Jv2:=
 if o.2.2.2≠0 then .bad o.2.2.2 else if (UZ o.2.1 o.1).2≠0 then .bad (UZ o.2.1 o.1).2
 else if (o.2.1.drop o.1).2≠0 then .bad (o.2.1.drop o.1).2
 else⟨(UZ o.2.1 o.1).1,0,(o.2.1.drop o.1).1.made,(o.2.1.drop o.1).1.used,(o.2.1.drop o.1).1.peak,(o.2.1.drop o.1).1.live⟩
def GR(l:List Fn)(name:ByteArray)(args:List Int)(fuel:Int):Jv2:=
 if fuel<0\/300<fuel then .bad 3 else Xh4 (J4 l 40 name (args.map FW) Hp.zero fuel)
structure HI (C:Int) (h:Hp):Prop where
 len:h.cells.length<=200
 six:∀c∈h.cells,c.slots.length<=6
 tag:∀c∈h.cells,P7 c.tag
 num:∀c∈h.cells,-C<=c.count/\c.count<=C
 made:0<=h.made/\h.made<=C
 used:0<=h.used/\h.used<=C
 peak:0<=h.peak/\h.peak<=200
 liv:h.live=nz h.cells
theorem HI.mono{C C':Int}{h:Hp}(H:HI C h)(g:C<=C'):HI C' h:=
 ⟨H.len,H.six,H.tag,λc f=>by have:=H.num c f;omega,by have:=H.made;omega,by have:=H.used;omega,H.peak,H.liv⟩
theorem HI.zero{C:Int}(f:0<=C):HI C Hp.zero:=⟨by simp[Hp.zero],by simp[Hp.zero],by simp[Hp.zero],by simp[Hp.zero],by simp[Hp.zero];omega,by simp[Hp.zero];omega,by simp[Hp.zero],rfl⟩
theorem HI.live{C:Int}{h:Hp}(H:HI C h):0<=h.live/\h.live<=200:=by
 have f:=H.liv;have g:nz h.cells<=h.cells.length:=List.countP_le_length;have i:=H.len;omega
theorem HI.ok{C:Int}{h:Hp}(H:HI C h)(g:C<=333333000000):h.Ok 333333:=by
 have i:=H.live;refine⟨by have:=H.len;omega,λx f=>by have:=H.six x f;omega,λx f=>by have:=H.num x f;omega,by have:=H.made;omega,by have:=H.used;omega,oM,by have:=H.peak;omega⟩
theorem HI.swap{C C':Int}{h:Hp}(H:HI C h)(T:C<=C'){a b:List Qk}{x y:Qk}(j:h.cells=a++x::b)(o:y.slots.length<=6)(r:P7 y.tag)(t: -C'<=y.count/\y.count<=C'){g:Hp}(l:g.cells=a++y::b)
  (I:g.made=h.made) (J:0<=g.used/\g.used<=C') (hp:g.peak=h.peak) (P:g.live=h.live+Py y.count-Py x.count):HI C' g:=by
 have i:∀c∈g.cells,c=y\/c∈h.cells:=λc f=>by
  rw[l]at f;rw[j];simp only[List.mem_append,List.mem_cons]at f⊢;rcases f with f|f|f
  ·exact .inr (.inl f)
  ·exact .inl f
  ·exact .inr (.inr (.inr f))
 refine⟨?_,λc f=>?_,λc f=>?_,λc f=>?_,by rw[I];have:=H.made;omega,J,by rw[hp];exact H.peak,?_⟩
 ·have:=H.len;rw[j]at this;rw[l];simpa using this
 ·rcases i c f with rfl|f
  ·exact o
  ·exact H.six c f
 ·rcases i c f with rfl|f
  ·exact r
  ·exact H.tag c f
 ·rcases i c f with rfl|f
  ·exact t
  ·have:=H.num c f;omega
 ·rw[P,H.liv,j,l,XD,XD];omega
theorem HI.dup{C:Int}{h:Hp}(H:HI C h)(o:0<=C)(s:Qx):HI (C+1) (h.dup s).1:=by
 rcases Af h s with⟨j,f⟩|⟨a,x,b,j,r,t,g,l,I,f⟩|⟨_,_,f⟩
 ·rw[f];exact H.mono oM
 ·rw[f];have i:x∈h.cells:=by rw[g];simp
  have J:=H.num x i;refine H.swap oM g (y:={ x with count:=x.count+1 }) (H.six x i) (H.tag x i) (by dsimp only;omega) (Z8 g l) rfl (by have:=H.used;exact⟨this.1,by show h.used<=_;omega⟩) rfl ?_;dsimp only[Hp.put];rw[Yj oM,Yj oM];omega
 ·rw[f];exact HI.zero oM
theorem HI.L9:∀(l:List Qx) {h:Hp} {C:Int},HI C h->0<=C->HI (C+l.length) (h.L9 l).1
 |[],h,C,H,_=>by rw[Hp.L9];exact H.mono (by simp)
 |s::r,h,C,H,f=>by
  rw[Hp.L9];split
  ·exact(HI.L9 r (H.dup f s) oM).mono (by simp only[List.length_cons];omega)
  ·exact HI.zero oM
theorem HI.step{C:Int}{h:Hp}(H:HI C h)(o:0<=C)(x:Qx)(st:List Qx):HI C (h.step x st).1:=by
 unfold Hp.step;split
 ·rcases hx:h.at x.n with _|c
  ·exact H
  ·obtain⟨j,l,a,b,f,r⟩:=Hp.Gv hx;have g:c∈h.cells:=by rw[f];simp
   have t:=H.num c g;have i:=H.used;dsimp only;split
   ·split
    ·refine H.swap (Int.le_refl _) f (y:=Qk.zero) (by simp[Qk.zero]) ⟨by decide,by decide⟩ (by simp[Qk.zero];omega) (Z8 f oM) rfl i rfl ?_;dsimp only;rw[Dz (n:=Qk.zero.count) rfl,Yj oM];omega
    ·refine H.swap (Int.le_refl _) f (y:={ c with count:=c.count-1 }) (H.six c g) (H.tag c g) (by dsimp only;omega) (Z8 f oM) rfl i rfl ?_;dsimp only[Hp.put];rw[Yj oM,Yj oM];omega
   ·exact H
 ·exact H
theorem HI.drops{C:Int}(f:0<=C):∀(n:Nat) {h:Hp} {st:List Qx},st.length+tot h.cells<=n->HI C h->HI C (h.drops st).1
 |_,h,[],_,H=>by rw[Hp.Pj];exact H
 |0,h,x::st,g,_=>by simp at g
 |n+1,h,x::st,g,H=>by
  rw[Hp.N9];split
  ·rename_i i;have j:=Hp.Zf i;exact HI.drops f n (by simp only[List.length_cons]at g j;omega) (H.step f x st)
  ·exact HI.zero f
theorem HI.drop{C:Int}{h:Hp}(H:HI C h)(f:0<=C)(s:Qx):HI C (h.drop s).1:=HI.drops f _ (st:=[s]) (Nat.le_refl _) H
theorem HI.open{C:Int}{h:Hp}(H:HI C h)(t:1<=C)(s:Qx)(k:Bool):HI (C+6) (h.open s k).1:=by
 unfold Hp.open;split
 ·rename_i l;obtain⟨I,a,x,b,o,f,g,J⟩:=VF.split l;rw[o];have i:x∈h.cells:=by rw[f];simp
  have P:=H.num x i;have r:=H.six x i;have j:=H.used;dsimp only;split
  ·split
   ·refine H.swap oM f (y:={ Qk.zero with count:=-1 }) (by simp[Qk.zero]) ⟨by decide,by decide⟩ (by dsimp only;omega) (Z8 f g) rfl ⟨j.1,by show h.used<=_;omega⟩ rfl ?_;dsimp only[Hp.put];rw[Yj oM,Yj oM];omega
   ·refine H.swap oM f (y:=Qk.zero) (by simp[Qk.zero]) ⟨by decide,by decide⟩ (by simp[Qk.zero];omega) (Z8 f g) rfl ⟨j.1,by show h.used<=_;omega⟩ rfl ?_;dsimp only;rw[Dz (n:=Qk.zero.count) rfl,Yj oM];omega
  ·rename_i T;have hp:HI C (h.put s.n { x with count:=x.count-1 }):=by
    refine H.swap (Int.le_refl _) f (y:={ x with count:=x.count-1 }) r (H.tag x i) (by dsimp only;omega) (Z8 f g) rfl j rfl ?_;dsimp only[Hp.put];rw[Yj oM,Yj oM];omega
   split
   ·exact(HI.L9 x.slots hp oM).mono oM
   ·exact HI.zero oM
 ·exact HI.zero oM
theorem HI.hold{C:Int}{h:Hp}(H:HI C h)(f:1<=C)(s:Qx):HI (C+6) (h.hold s).1:=H.open f s true
theorem HI.free{C:Int}{h:Hp}(H:HI C h)(g:0<=C)(s:Qx):HI C (h.free s).1:=by
 unfold Hp.free;split
 ·split
  ·rename_i i;obtain⟨x,j,r⟩:=Hp.YY i;obtain⟨l,o,a,b,f,t⟩:=Hp.Gv j;refine H.swap (Int.le_refl _) f (y:=Qk.zero) (by simp[Qk.zero]) ⟨by decide,by decide⟩ (by simp[Qk.zero];omega) (Z8 f oM) rfl H.used rfl ?_;dsimp only;rw[Dz (n:=Qk.zero.count) rfl,Yj oM];omega
  ·exact HI.zero g
 ·exact H
theorem HI.make{C:Int}{h:Hp}(H:HI C h)(h0:1<=C){t:Int}(T:P7 t){l:List Qx}(j:l.length<=6):HI (C+1) (h.make t l).1:=by
 unfold Hp.make;split
 ·exact HI.zero oM
 rename_i hv;have o:=H.made;have r:=H.peak;have U:=H.live;have key:∀(a b:List Qk) (x:Qk),x.count=0->HI C ⟨a++x::b,h.made,h.used,h.live,h.peak⟩->HI (C+1) ⟨a++⟨1,t,l⟩::b,h.made+1,h.used,h.live+1,max h.peak (h.live+1)⟩:=λa b x I H'=>by
  have k:=H'.swap (C':=C+1) oM (a:=a) (b:=b) (x:=x) rfl (y:=⟨1,t,l⟩) j T (by dsimp only;omega) (g:=⟨a++⟨1,t,l⟩::b,h.made,h.used,h.live+1,h.peak⟩) rfl rfl (by have:=H.used;dsimp only;omega) rfl (by dsimp only;rw[Yj oM,Dz I];omega);exact⟨k.len,k.six,k.tag,k.num,by dsimp only;omega,k.used,by dsimp only;omega,k.liv⟩
 rcases BD h.cells with⟨i,J⟩|⟨a,x,b,i,J,h3⟩
 ·have a1:nz h.cells=h.cells.length:=by
   unfold nz;rw[List.countP_eq_length];intro c f;simpa using J c f
  have P:h.cells.length<200:=by have:=H.liv;omega
  rw[i,List.take_length,List.drop_eq_nil_of_le oM];refine key h.cells [] Qk.zero rfl ⟨by simp;omega,λc f=>?_,λc f=>?_,λc f=>?_,o,H.used,r,?_⟩
  ·rcases List.mem_append.1 f with f|f
   ·exact H.six c f
   ·rw[List.mem_singleton.1 f];simp[Qk.zero]
  ·rcases List.mem_append.1 f with f|f
   ·exact H.tag c f
   ·rw[List.mem_singleton.1 f];exact⟨by decide,by decide⟩
  ·rcases List.mem_append.1 f with f|f
   ·exact H.num c f
   ·rw[List.mem_singleton.1 f];simp[Qk.zero];omega
  ·dsimp only;rw[XD,H.liv,Dz (n:=Qk.zero.count) rfl];simp[nz]
 ·rw[<-J];have e1:h.cells.take a.length=a:=by rw[i];simp
  have e2:h.cells.drop (a.length+1)=b:=by rw[i];simp
  rw[e1,e2];exact key a b x h3 (by rw[<-i];exact H)
theorem HI.use{C:Int}{h:Hp}(H:HI C h)(j:1<=C)(s:Qx){t:Int}(g:P7 t){l:List Qx}(f:l.length<=6):HI (C+1) (h.use s t l).1:=by
 unfold Hp.use;split
 ·split
  ·rename_i o;obtain⟨x,r,P⟩:=Hp.YY o;obtain⟨I,J,a,b,i,T⟩:=Hp.Gv r;refine H.swap oM i (y:=⟨1,t,l⟩) f g (by dsimp only;omega) (Z8 i oM) rfl (by have:=H.used;dsimp only;omega) rfl ?_;dsimp only[Hp.put];rw[Yj oM,Yj oM];omega
  ·exact HI.zero oM
 ·exact H.make j g f
theorem HI.Nj{C:Int}{h:Hp}(H:HI C h)(f:1<=C)(k:Int)(s tok:Qx):HI (C+6) (Nj k s tok h).1:=by
 unfold Go.Proofs.YtnddiddkmhiclaaGreatDoor.Nj;split
 ·exact(H.dup oM s).mono oM
 ·split
  ·exact(H.drop oM s).mono oM
  ·split
   ·exact H.open f s false
   ·split
    ·exact H.hold f s
    ·exact(H.free oM tok).mono oM
theorem HI.get{C:Int}{h:Hp}(H:HI C h)(s:Qx):P7 (h.get s).1/\(h.get s).2.1.length<=6:=by
 unfold Hp.get;split
 ·rcases hx:h.at s.n with _|x
  ·exact⟨⟨by decide,by decide⟩,by simp⟩
  ·obtain⟨g,i,a,b,j,l⟩:=Hp.Gv hx;have f:x∈h.cells:=by rw[j];simp
   exact⟨H.tag x f,H.six x f⟩
 ·exact⟨⟨by decide,by decide⟩,by simp⟩
def Fmo{g:Type}(F:Int->g×Int×Int):Prop:=∀f,0<=f->0<=(F f).2.1/\∀k,0<=k->(F f).2.2≠12->F (f+k)=((F f).1,(F f).2.1+k,(F f).2.2)
def ec(n:Int):Int:=if n= -1 then 1 else n
theorem Tq{n:Int}(h:n≠-1):ec n=n:=if_neg h
theorem Ka:ec (-1)=1:=rfl
structure RK (h:Hp) (R T:List Qx):Prop where
 rngC:∀c∈h.cells,∀s∈c.slots,II h.cells.length s
 rngR:∀s∈R++T,II h.cells.length s
 cnt:∀i c,h.cells[i]? =some c->ec c.count=((J5 (Tx h.cells) i+J5 R i+J5 T i:Nat):Int)
 kept:∀i c,h.cells[i]? =some c->(c.count= -1<->1<=J5 T i)
 zero:∀c∈h.cells,c.count=0\/c.count= -1->c.slots=[]
 live:h.live=nz h.cells
 acyc:YG h.cells
theorem RK.perm{h:Hp}{R T j:List Qx}(H:RK h R T)(f:∀s∈j,s∈R\/s.kind≠2)(l:∀i,J5 j i=J5 R i):RK h j T:=
 ⟨H.rngC,λs g=>by
  rcases List.mem_append.1 g with g|g
  ·rcases f s g with f|f
   ·exact H.rngR s (List.mem_append_left _ f)
   ·exact λh=>absurd h f
  ·exact H.rngR s (List.mem_append_right _ g),λi c o=>by rw[l];exact H.cnt i c o,H.kept,H.zero,H.live,H.acyc⟩
theorem RK.SF{h:Hp}{R T T':List Qx}(H:RK h R T)(f:∀s∈T',s∈T\/s.kind≠2)(l:∀i,J5 T' i=J5 T i):RK h R T':=
 ⟨H.rngC,λs g=>by
  rcases List.mem_append.1 g with g|g
  ·exact H.rngR s (List.mem_append_left _ g)
  ·rcases f s g with f|f
   ·exact H.rngR s (List.mem_append_right _ f)
   ·exact λh=>absurd h f,λi c j=>by rw[l];exact H.cnt i c j,λi c j=>by rw[l];exact H.kept i c j,H.zero,H.live,H.acyc⟩
theorem RK.has{h:Hp}{R T:List Qx}(H:RK h R T){s:Qx}(f:s∈R\/s∈Tx h.cells)(j:s.kind=2):∃a x b,h.at s.n=some x/\h.cells=a++x::b/\(a.length:Int)=s.n/\1<=x.count/\h.cells[a.length]? =some x:=by
 have hr:II h.cells.length s:=by
  rcases f with f|f
  ·exact H.rngR s (List.mem_append_left _ f)
  ·obtain⟨c,r,l⟩:=Gw.1 f;exact H.rngC c r s l
 obtain⟨C,r⟩:=hr j;have I:s.n.toNat<h.cells.length:=oM;have g:h.cells[s.n.toNat]? =some h.cells[s.n.toNat]:=List.getElem?_eq_getElem I;obtain⟨a,b,l,J⟩:=JO g;have t:=H.cnt _ _ g;have o:=H.kept _ _ g;refine⟨a,_,b,by rw[Hp.at,if_pos C];exact g,l,oM,?_,by rw[J];exact g⟩;generalize h.cells[s.n.toNat]=x at *;have hp:1<=J5 (Tx h.cells) s.n.toNat+J5 R s.n.toNat:=by
  rcases f with f|f
  ·have:=Yy f j (i:=s.n.toNat) oM;omega
  ·have:=Yy f j (i:=s.n.toNat) oM;omega
 by_cases e:x.count= -1
 ·have:=o.1 e;rw[e,Ka]at t;omega
 ·rw[Tq e]at t;omega
theorem RK.there{h:Hp}{R T:List Qx}(H:RK h R T){s:Qx}(g:s∈R\/s∈Tx h.cells)(f:s.kind=2):h.there s=true:=by
 obtain⟨a,x,b,i,_,_,j,_⟩:=H.has g f;exact Hp.KJ f i j
theorem RK.swap{h h':Hp}{R T I T':List Qx}(H:RK h R T){a b:List Qk}{x y:Qk}(j:h.cells=a++x::b)(g:h'.cells=a++y::b)
  (hr:∀s∈y.slots++(I++T'),s∈x.slots++(R++T)\/II h.cells.length s)
  (ho:∀i,i≠a.length->J5 y.slots i+J5 I i+J5 T' i=J5 x.slots i+J5 R i+J5 T i)
  (hk:ec y.count+((J5 x.slots a.length+J5 R a.length+J5 T a.length:Nat):Int)=ec x.count+((J5 y.slots a.length+J5 I a.length+J5 T' a.length:Nat):Int))
  (hT:∀i,i≠a.length->(1<=J5 T' i<->1<=J5 T i)) (P:y.count= -1<->1<=J5 T' a.length)
  (hz:y.count=0\/y.count= -1->y.slots=[]) (hl:h'.live=h.live+Py y.count-Py x.count) (U:YG (a++y::b)):RK h' I T':=by
 have t:h'.cells.length=h.cells.length:=by rw[j,g];simp
 have a1:x∈h.cells:=by rw[j];simp
 have J:∀s∈y.slots++(I++T'),II h.cells.length s:=λs C=>by
  rcases hr s C with f|f
  ·rcases List.mem_append.1 f with f|f
   ·exact H.rngC x a1 s f
   ·exact H.rngR s f
  ·exact f
 refine⟨λc o s C=>?_,λs C=>?_,λi c r=>?_,λi c r=>?_,λc o h0=>?_,?_,by rw[g];exact U⟩
 ·rw[t];rw[g]at o;rcases List.mem_append.1 o with f|f
  ·exact H.rngC c (by rw[j];simp[f]) s C
  ·rcases List.mem_cons.1 f with rfl|f
   ·exact J s (List.mem_append_left _ C)
   ·exact H.rngC c (by rw[j];simp[f]) s C
 ·rw[t];exact J s (List.mem_append_right _ C)
 ·rw[g,Yk]at r;rw[g,VD,Qw,Qw];by_cases l:i=a.length
  ·rw[if_pos l]at r;cases r;have hx:=H.cnt i x (by rw[j,Yk,if_pos l]);rw[j,VD,Qw,Qw]at hx;subst l;omega
  ·rw[if_neg l]at r;have hx:=H.cnt i c (by rw[j,Yk,if_neg l];exact r);rw[j,VD,Qw,Qw]at hx;have:=ho i l;omega
 ·rw[g,Yk]at r;by_cases l:i=a.length
  ·rw[if_pos l]at r;cases r;subst l;exact P
  ·rw[if_neg l]at r;rw[H.kept i c (by rw[j,Yk,if_neg l];exact r),hT i l]
 ·rw[g]at o;rcases List.mem_append.1 o with f|f
  ·exact H.zero c (by rw[j];simp[f]) h0
  ·rcases List.mem_cons.1 f with rfl|f
   ·exact hz h0
   ·exact H.zero c (by rw[j];simp[f]) h0
 ·rw[hl,H.live,j,g,XD,XD];omega
def Kp(h h':Hp):Prop:=∀(i:Nat) (c:Qk),h.cells[i]? =some c->1<=c.count->∃f:Qk,h'.cells[i]? =some f/\(f.count=0\/f.count= -1\/(1<=f.count/\f.tag=c.tag/\f.slots=c.slots))
theorem Kp.refl(h:Hp):Kp h h:=λi c f g=>⟨c,f,.inr (.inr ⟨g,rfl,rfl⟩)⟩
theorem Kp.swap{h h':Hp}{a b:List Qk}{x y:Qk}(o:h.cells=a++x::b)(j:h'.cells=a++y::b)(r:1<=x.count->y.count=0\/y.count= -1\/(1<=y.count/\y.tag=x.tag/\y.slots=x.slots)):Kp h h':=λi c f l=>by
 rw[o,Yk]at f;rw[j];by_cases g:i=a.length
 ·rw[if_pos g]at f;cases f;exact⟨y,by rw[Yk,if_pos g],r l⟩
 ·rw[if_neg g]at f;exact⟨c,by rw[Yk,if_neg g];exact f,.inr (.inr ⟨l,rfl,rfl⟩)⟩
inductive Zh5 (h:Hp) (P:List Qx):Nat->Prop where
 |root {s:Qx} (hs:s∈P) (hk:s.kind=2):Zh5 h P s.n.toNat
 |slot {i:Nat} {c:Qk} {s:Qx} (hr:Zh5 h P i) (hc:h.cells[i]? =some c) (hs:s∈c.slots) (hk:s.kind=2):Zh5 h P s.n.toNat
def UV(P:List Qx)(h h':Hp):Prop:=∀(i:Nat),Zh5 h P i->∃c f:Qk,h.cells[i]? =some c/\h'.cells[i]? =some f/\f.tag=c.tag/\f.slots=c.slots
theorem RK.rch{h:Hp}{R T P:List Qx}(H:RK h R T)(j:∀s∈P,s∈R){i:Nat}(hr:Zh5 h P i):∃c:Qk,h.cells[i]? =some c/\1<=c.count:=by
 have key:∀s:Qx,s∈R\/s∈Tx h.cells->s.kind=2->∃c:Qk,h.cells[s.n.toNat]? =some c/\1<=c.count:=λs f g=>by
  obtain⟨a,x,b,t,C,I,l,o⟩:=H.has f g;exact⟨x,by rw[show s.n.toNat=a.length by omega];exact o,l⟩
 cases hr with
 |root f g=>exact key _ (.inl (j _ f)) g
 |slot hr r f g=>exact key _ (.inr (Gw.2 ⟨_,List.mem_of_getElem? r,f⟩)) g
theorem UV.refl{h:Hp}{R T P:List Qx}(H:RK h R T)(g:∀s∈P,s∈R):UV P h h:=λi hr=>by
 obtain⟨c,f,-⟩:=H.rch g hr;exact⟨c,c,f,f,rfl,rfl⟩
theorem UV.rch{P:List Qx}{h h':Hp}(K:UV P h h'){i:Nat}(hr:Zh5 h P i):Zh5 h' P i:=by
 induction hr with
 |root f g=>exact .root f g
 |slot hr l f g o=>
  obtain⟨c,C,j,r,-,t⟩:=K _ hr;rw[l]at j;cases j;exact .slot o r (by rw[t];exact f) g
theorem UV.trans{P:List Qx}{h f g:Hp}(K:UV P h f)(L:UV P f g):UV P h g:=λi hr=>by
 obtain⟨c,T,j,l,o,r⟩:=K i hr;obtain⟨d,t,f1,C,I,J⟩:=L i (K.rch hr);rw[l]at f1;cases f1;exact⟨c,t,j,C,I.trans o,J.trans r⟩
theorem UV.sub{P Q:List Qx}{h h':Hp}(K:UV Q h h')(f:∀s∈P,s∈Q):UV P h h':=λi hr=>by
 refine K i ?_;induction hr with
 |root g j=>exact .root (f _ g) j
 |slot hr l g j o=>exact .slot o l g j
theorem RK.dup{h:Hp}{R T:List Qx}(H:RK h R T){s:Qx}(j:s∈R\/s∈Tx h.cells\/s.kind≠2):(h.dup s).2=0/\RK (h.dup s).1 (s::R) T/\Kp h (h.dup s).1:=by
 by_cases g:s.kind=2
 ·have l:s∈R\/s∈Tx h.cells:=by
   rcases j with j|j|j
   ·exact .inl j
   ·exact .inr j
   ·exact absurd g j
  obtain⟨a,x,b,J,o,r,P,U⟩:=H.has l g;have C:h.dup s=(h.put s.n { x with count:=x.count+1 },0):=by rw[Hp.dup,if_pos g,J];simp[P]
  have hr:II h.cells.length s:=Xw6 (H.there l g);have I:=H.kept _ _ U;rw[C];refine⟨rfl,H.swap o (Z8 o r) (λt f=>?_) (λi hi=>?_) ?_ (λi _=>Iff.rfl) ?_ (λh0=>?_) ?_ ?_,Kp.swap o (Z8 o r) λh1=>.inr (.inr ⟨by dsimp only;omega,rfl,rfl⟩)⟩
  ·dsimp only at f;simp only[List.mem_append,List.mem_cons]at f⊢;rcases f with f|(rfl|f)|f
   ·exact .inl (.inl f)
   ·exact .inr hr
   ·exact .inl (.inr (.inl f))
   ·exact .inl (.inr (.inr f))
  ·rw[Z9 s R,Rk oM];dsimp only;omega
  ·dsimp only;rw[Z9 s R,Oq g r.symm,Tq (n:=x.count+1) oM,Tq (n:=x.count) oM];omega
  ·rw[<-I];dsimp only;omega
  ·dsimp only at h0;omega
  ·dsimp only[Hp.put];rw[Yj oM,Yj oM];omega
  ·exact YG.sub (x:=x) (by rw[<-o];exact H.acyc) λ_ h=>h
 ·have C:h.dup s=(h,0):=by rw[Hp.dup,if_neg g]
  rw[C];exact⟨rfl,H.perm (λt f=>by
   rcases List.mem_cons.1 f with rfl|f
   ·exact .inr g
   ·exact .inl f) (λi=>by rw[Z9,ZG g];omega),Kp.refl h⟩
theorem RK.L9:∀(l:List Qx) {h:Hp} {R T:List Qx},RK h R T->(∀s∈l,s∈R\/s∈Tx h.cells\/s.kind≠2)->(h.L9 l).2=0/\RK (h.L9 l).1 (l++R) T/\∀(i:Nat) (c:Qk),h.cells[i]? =some c->∃f:Qk,(h.L9 l).1.cells[i]? =some f/\f.tag=c.tag/\f.slots=c.slots/\(1<=c.count->1<=f.count)/\(c.count<1->f.count=c.count)
 |[],h,R,T,H,_=>⟨rfl,H,λi c o=>⟨c,o,rfl,rfl,id,λ_=>rfl⟩⟩
 |s::r,h,R,T,H,hm=>by
  obtain⟨J,h2,-⟩:=H.dup (hm s (List.mem_cons_self ..));have j:∀(i:Nat) (c:Qk),h.cells[i]? =some c->∃f:Qk,(h.dup s).1.cells[i]? =some f/\f.tag=c.tag/\f.slots=c.slots/\(1<=c.count->1<=f.count)/\(c.count<1->f.count=c.count):=λi c o=>by
   rcases Af h s with⟨hk,e⟩|⟨a,x,b,hk,g,hx,hl,ha,a1,e⟩|⟨g,hk,e⟩
   ·rw[e];exact⟨c,o,rfl,rfl,id,λ_=>rfl⟩
   ·rw[e];dsimp only;rw[Z8 hl ha,Yk];rw[hl,Yk]at o;by_cases I:i=a.length
    ·rw[if_pos I]at o⊢;cases o;exact⟨_,rfl,rfl,rfl,λ_=>by dsimp only;omega,λ_=>oM⟩
    ·rw[if_neg I]at o⊢;exact⟨c,o,rfl,rfl,id,λ_=>rfl⟩
   ·rw[e]at J;simp at J
  have C:∀t:Qx,t∈Tx h.cells->t∈Tx (h.dup s).1.cells:=λt g=>by
   obtain⟨c,q1,q2⟩:=Gw.1 g;obtain⟨i,hi,I⟩:=List.getElem_of_mem q1;obtain⟨f,P,-,U,-⟩:=j i c (by rw[List.getElem?_eq_getElem hi,I]);exact Gw.2 ⟨f,List.mem_of_getElem? P,by rw[U];exact q2⟩
  obtain⟨k1,k2,k3⟩:=RK.L9 r h2 λt g=>by
   rcases hm t (List.mem_cons_of_mem _ g)with q|q|q
   ·exact .inl (List.mem_cons_of_mem _ q)
   ·exact .inr (.inl (C t q))
   ·exact .inr (.inr q)
  rw[Hp.L9,if_pos J];refine⟨k1,k2.perm (λt g=>.inl ?_) (λi=>?_),λi c o=>?_⟩
  ·simp only[List.mem_append,List.mem_cons,List.cons_append]at g⊢;rcases g with rfl|g|g
   ·exact .inr (.inl rfl)
   ·exact .inl g
   ·exact .inr (.inr g)
  ·rw[List.cons_append,Z9,Qw,Qw,Z9 s R];omega
  ·obtain⟨f,P,e2,U,e4,e5⟩:=j i c o;obtain⟨d,f1,f2,f3,f4,f5⟩:=k3 i f P;exact⟨d,f1,f2.trans e2,f3.trans U,λq=>f4 (e4 q),λq=>by rw[f5 (by rw[e5 q];exact q),e5 q]⟩
theorem RK.step{h:Hp}{x:Qx}{st R T:List Qx}(H:RK h (x::(st++R)) T):(h.step x st).2.2=0/\RK (h.step x st).1 ((h.step x st).2.1++R) T/\(∀(i:Nat) (c:Qk),h.cells[i]? =some c->∃j:Qk,(h.step x st).1.cells[i]? =some j/\(j.count=0\/(j.tag=c.tag/\j.slots=c.slots/\(1<=c.count->1<=j.count)/\(c.count<1->j.count=c.count)))):=by
 by_cases C:x.kind=2
 ·obtain⟨a,c,b,hx,o,J,hc,hg⟩:=H.has (.inl (List.mem_cons_self ..)) C;have hz:=Oq C J.symm;have P:=H.kept _ _ hg;have l:∀(y:Qk) (g:Hp),g.cells=a++y::b->(y.count=0\/(1<=y.count/\y.tag=c.tag/\y.slots=c.slots))->∀(i:Nat) (d:Qk),h.cells[i]? =some d->∃j:Qk,g.cells[i]? =some j/\(j.count=0\/(j.tag=d.tag/\j.slots=d.slots/\(1<=d.count->1<=j.count)/\(d.count<1->j.count=d.count))):=λy g a1 hy i d U=>by
   rw[o,Yk]at U;rw[a1,Yk];by_cases r:i=a.length
   ·rw[if_pos r]at U⊢;cases U;refine⟨y,rfl,?_⟩;rcases hy with hy|⟨I,h2,h3⟩
    ·exact .inl hy
    ·exact .inr ⟨h2,h3,λ_=>I,λ_=>oM⟩
   ·rw[if_neg r]at U⊢;exact⟨d,U,.inr ⟨rfl,rfl,id,λ_=>rfl⟩⟩
  by_cases I:c.count=1
  ·have r:h.step x st=({ h.put x.n Qk.zero with live:=h.live-1 },c.slots.reverse++st,0):=by
    rw[Hp.step,if_pos C,hx];simp[I]
   rw[r];refine⟨rfl,H.swap o (y:=Qk.zero) (Z8 o J) (λt f=>?_) (λi hi=>?_) ?_ (λi _=>Iff.rfl) ?_ (λ_=>rfl) ?_ ?_,l Qk.zero _ (Z8 o J) (.inl rfl)⟩
   ·refine .inl ?_;simp only[Qk.zero,List.nil_append,List.append_assoc,List.mem_append,List.mem_reverse,List.mem_cons]at f⊢;rcases f with f|f|f|f
    ·exact .inl f
    ·exact .inr (.inl (.inr (.inl f)))
    ·exact .inr (.inl (.inr (.inr f)))
    ·exact .inr (.inr f)
   ·rw[Z9 x,Rk (s:=x) oM];simp only[Qk.zero,Qw,UI,Kv];omega
   ·rw[Z9 x,hz,I];simp only[Qk.zero,Qw,UI,Kv];rw[Tq (by decide),Tq (by decide)];omega
   ·rw[<-P,I];simp[Qk.zero]
   ·rw[Dz (n:=Qk.zero.count) rfl,Yj (n:=c.count) oM];dsimp only;omega
   ·exact YG.sub (by rw[<-o];exact H.acyc) λ_ h=>by simp[Qk.zero]at h
  ·have r:h.step x st=(h.put x.n { c with count:=c.count-1 },st,0):=by
    rw[Hp.step,if_pos C,hx];simp[hc,I]
   rw[r];refine⟨rfl,H.swap o (Z8 o J) (λt f=>?_) (λi hi=>?_) ?_ (λi _=>Iff.rfl) ?_ (λh0=>?_) ?_ ?_,l _ _ (Z8 o J) (.inr ⟨by dsimp only;omega,rfl,rfl⟩)⟩
   ·refine .inl ?_;dsimp only at f;simp only[List.mem_append,List.mem_cons]at f⊢;rcases f with f|(f|f)|f
    ·exact .inl f
    ·exact .inr (.inl (.inr (.inl f)))
    ·exact .inr (.inl (.inr (.inr f)))
    ·exact .inr (.inr f)
   ·rw[Z9 x,Rk (s:=x) oM];dsimp only;omega
   ·dsimp only;rw[Z9 x,hz,Tq (n:=c.count-1) oM,Tq (n:=c.count) oM];omega
   ·rw[<-P];dsimp only;omega
   ·dsimp only at h0;omega
   ·dsimp only[Hp.put];rw[Yj oM,Yj oM];omega
   ·exact YG.sub (x:=c) (by rw[<-o];exact H.acyc) λ_ h=>h
 ·have r:h.step x st=(h,st,0):=by rw[Hp.step,if_neg C]
  rw[r];exact⟨rfl,H.perm (λt f=>.inl (List.mem_cons_of_mem _ f)) (λi=>by rw[Z9 x,ZG C];dsimp only;omega),λi c hc=>⟨c,hc,.inr ⟨rfl,rfl,id,λ_=>rfl⟩⟩⟩
theorem RK.drops:∀(n:Nat) {h:Hp} {st R T:List Qx},st.length+tot h.cells<=n->RK h (st++R) T->(h.drops st).2=0/\RK (h.drops st).1 R T/\∀(i:Nat) (c:Qk),h.cells[i]? =some c->∃f:Qk,(h.drops st).1.cells[i]? =some f/\(f.count=0\/(f.tag=c.tag/\f.slots=c.slots/\(1<=c.count->1<=f.count)/\(c.count<1->f.count=c.count)))
 |_,h,[],R,T,_,H=>by rw[Hp.Pj];exact⟨rfl,H,λi c l=>⟨c,l,.inr ⟨rfl,rfl,id,λ_=>rfl⟩⟩⟩
 |0,h,x::st,R,T,o,_=>by simp at o
 |n+1,h,x::st,R,T,o,H=>by
  obtain⟨t,I,J⟩:=RK.step H;have P:=Hp.Zf t;rw[Hp.N9,if_pos t];obtain⟨U,k1,k2⟩:=RK.drops n (by simp only[List.length_cons]at o P;omega) I;refine⟨U,k1,λi c l=>?_⟩;obtain⟨f,e1,j⟩:=J i c l;obtain⟨d,f1,g⟩:=k2 i f e1;refine⟨d,f1,?_⟩;rcases j with j|⟨j,e3,e4,C⟩
  ·rcases g with g|⟨-,-,-,r⟩
   ·exact .inl g
   ·exact .inl (by rw[r oM];exact j)
  ·rcases g with g|⟨g,f3,f4,r⟩
   ·exact .inl g
   ·exact .inr ⟨g.trans j,f3.trans e3,λq=>f4 (e4 q),λq=>by rw[r (by rw[C q];exact q),C q]⟩
theorem RK.drop{h:Hp}{s:Qx}{R T:List Qx}(H:RK h (s::R) T):(h.drop s).2=0/\RK (h.drop s).1 R T/\Kp h (h.drop s).1:=by
 obtain⟨g,j,l⟩:=RK.drops _ (st:=[s]) (Nat.le_refl _) H;refine⟨g,j,λi c o r=>?_⟩;obtain⟨d,f1,f⟩:=l i c o;refine⟨d,f1,?_⟩;rcases f with f|⟨f,t,C,I⟩
 ·exact .inl f
 ·exact .inr (.inr ⟨C r,f,t⟩)
theorem RK.get{h:Hp}{s:Qx}{R T:List Qx}(H:RK h R T)(f:s∈R\/s∈Tx h.cells)(g:s.kind=2):∃c:Qk,h.cells[s.n.toNat]? =some c/\1<=c.count/\h.get s=(c.tag,c.slots,0):=by
 obtain⟨a,x,b,i,r,t,j,l⟩:=H.has f g;have o:=H.there f g;refine⟨x,by rw[show s.n.toNat=a.length by omega];exact l,j,?_⟩;rw[Hp.get,if_pos o,i]
theorem RK.open{h:Hp}{s:Qx}{R T:List Qx}(H:RK h (s::R) T)(hk:s.kind=2)(keep:Bool):∃c:Qk,h.cells[s.n.toNat]? =some c/\(h.open s keep).2.2=0/\
  RK (h.open s keep).1 (c.slots++R) ((if keep=true/\(h.open s keep).2.1=true then[s]else[])++T)/\Kp h (h.open s keep).1:=by
 obtain⟨a,x,b,hx,g,l,hc,hg⟩:=H.has (.inl (List.mem_cons_self ..)) hk;have ht:=H.there (.inl (List.mem_cons_self ..)) hk;have hz:=Oq hk l.symm;have a2:=H.kept _ _ hg;have a4:=H.cnt _ _ hg;have C:J5 T a.length=0:=by
  rcases Nat.eq_zero_or_pos (J5 T a.length)with I|I
  ·exact I
  ·have:=a2.2 I;omega
 refine⟨x,by rw[show s.n.toNat=a.length by omega];exact hg,?_⟩;by_cases J:x.count=1
 ·cases keep with
  |true=>
   have P:h.open s true=(h.put s.n { Qk.zero with count:=-1 },true,0):=by
    rw[Hp.open,if_pos ht,hx];simp[J]
   rw[P,if_pos ⟨rfl,rfl⟩];refine⟨rfl,H.swap g (y:={ Qk.zero with count:=-1 }) (Z8 g l) (λt f=>?_) (λi j=>?_) ?_ (λi j=>?_) ?_ (λ_=>rfl) ?_ ?_,Kp.swap g (Z8 g l) λ_=>.inr (.inl rfl)⟩
   ·refine .inl ?_;simp only[Qk.zero,List.nil_append,List.mem_append,List.mem_cons,List.not_mem_nil,or_false]at f⊢;rcases f with(q|q)|q|q
    ·exact .inl q
    ·exact .inr (.inl (.inr q))
    ·exact .inr (.inl (.inl q))
    ·exact .inr (.inr q)
   ·rw[Z9 s R,Qw [s] T,Rk (s:=s) oM];simp only[Qk.zero,Qw,Kv];omega
   ·rw[Z9 s R,Qw [s] T,hz];simp only[Qk.zero,Qw,Kv];rw[Ka,J,Tq (by decide)];omega
   ·rw[Qw [s] T,Rk (s:=s) oM,Nat.zero_add]
   ·rw[Qw [s] T,hz];simp
   ·dsimp only[Hp.put];rw[Yj oM,Yj oM];omega
   ·exact YG.sub (by rw[<-g];exact H.acyc) λ_ h=>by simp[Qk.zero]at h
  |false=>
   have P:h.open s false=({ h.put s.n Qk.zero with live:=h.live-1 },true,0):=by
    rw[Hp.open,if_pos ht,hx];simp[J]
   rw[P,if_neg (by simp)];refine⟨rfl,H.swap g (y:=Qk.zero) (Z8 g l) (λt f=>?_) (λi j=>?_) ?_ (λi j=>?_) ?_ (λ_=>rfl) ?_ ?_,Kp.swap g (Z8 g l) λ_=>.inl rfl⟩
   ·refine .inl ?_;simp only[Qk.zero,List.nil_append,List.mem_append,List.mem_cons]at f⊢;rcases f with(q|q)|q
    ·exact .inl q
    ·exact .inr (.inl (.inr q))
    ·exact .inr (.inr q)
   ·rw[Z9 s R,Rk (s:=s) oM];simp only[Qk.zero,Qw,Kv,List.nil_append];omega
   ·rw[Z9 s R,hz];simp only[Qk.zero,Qw,Kv,List.nil_append];rw[J,Tq (by decide),Tq (by decide)];omega
   ·rw[List.nil_append]
   ·rw[List.nil_append,C];simp[Qk.zero]
   ·rw[Dz (n:=Qk.zero.count) rfl,Yj (n:=x.count) oM];dsimp only;omega
   ·exact YG.sub (by rw[<-g];exact H.acyc) λ_ h=>by simp[Qk.zero]at h
 ·have hp:RK (h.put s.n { x with count:=x.count-1 }) R T:=by
   refine H.swap g (y:={ x with count:=x.count-1 }) (Z8 g l) (λt f=>?_) (λi j=>?_) ?_ (λi j=>Iff.rfl) ?_ (λI=>?_) ?_ ?_
   ·refine .inl ?_;dsimp only at f;simp only[List.mem_append,List.mem_cons]at f⊢;rcases f with q|q|q
    ·exact .inl q
    ·exact .inr (.inl (.inr q))
    ·exact .inr (.inr q)
   ·rw[Z9 s R,Rk (s:=s) oM];dsimp only;omega
   ·dsimp only;rw[Z9 s R,hz,Tq (n:=x.count-1) oM,Tq (n:=x.count) oM];omega
   ·rw[C];dsimp only;omega
   ·dsimp only at I;omega
   ·dsimp only[Hp.put];rw[Yj oM,Yj oM];omega
   ·exact YG.sub (x:=x) (by rw[<-g];exact H.acyc) λ_ h=>h
  have U:({ x with count:=x.count-1 }:Qk)∈(h.put s.n { x with count:=x.count-1 }).cells:=by rw[Z8 g l];simp
  obtain⟨d0,d1,d2⟩:=RK.L9 x.slots hp λt f=>.inr (.inl (Gw.2 ⟨_,U,f⟩))
  have P:h.open s keep=(((h.put s.n { x with count:=x.count-1 }).L9 x.slots).1,false,0):=by
   rw[Hp.open,if_pos ht,hx];dsimp only;rw[if_neg J,if_pos d0]
  rw[P,if_neg (by simp)];refine⟨rfl,d1,λi c j a3=>?_⟩;have o:∃r:Qk,(h.put s.n { x with count:=x.count-1 }).cells[i]? =some r/\1<=r.count/\r.tag=c.tag/\r.slots=c.slots:=by
   rw[Z8 g l,Yk];rw[g,Yk]at j;by_cases a1:i=a.length
   ·rw[if_pos a1]at j⊢;cases j;exact⟨_,rfl,by dsimp only;omega,rfl,rfl⟩
   ·rw[if_neg a1]at j⊢;exact⟨c,j,a3,rfl,rfl⟩
  obtain⟨r,e1,e2,e3,e4⟩:=o;obtain⟨d,f1,f2,f3,f4,-⟩:=d2 i r e1;exact⟨d,f1,.inr (.inr ⟨f4 e2,f2.trans e3,f3.trans e4⟩)⟩
theorem RK.more{h:Hp}{R T:List Qx}(H:RK h R T):RK { h with cells:=h.cells++[Qk.zero] } R T:=by
 have U:Tx (h.cells++[Qk.zero])=Tx h.cells:=by simp[Tx,Qk.zero]
 have t:∀i c,(h.cells++[Qk.zero])[i]? =some c->h.cells[i]? =some c\/(i=h.cells.length/\c=Qk.zero):=λi c f=>by
  rw[List.getElem?_append]at f;split at f
  ·exact .inl f
  ·rename_i hn;have:i-h.cells.length=0:=by
    rcases Nat.eq_zero_or_pos (i-h.cells.length)with q|q
    ·exact q
    ·rw[List.getElem?_eq_none (by simp;omega)]at f;cases f
   rw[this]at f;cases f;exact .inr ⟨oM,rfl⟩
 have j:∀s:Qx,II h.cells.length s->II (h.cells++[Qk.zero]).length s:=λs g C=>by
  have:=g C;simp;omega
 have r:∀l:List Qx,(∀s∈l,II h.cells.length s)->J5 l h.cells.length=0:=λl hl=>by
  rcases Nat.eq_zero_or_pos (J5 l h.cells.length)with q|q
  ·exact q
  ·obtain⟨s,I,J,h3⟩:=YA q;have:=hl s I J;omega
 have hA:J5 (Tx h.cells) h.cells.length=0:=r _ λs g=>by
  obtain⟨c,I,J⟩:=Gw.1 g;exact H.rngC c I s J
 have hR:=r R λs g=>H.rngR s (List.mem_append_left _ g)
 have P:=r T λs g=>H.rngR s (List.mem_append_right _ g)
 refine⟨λc o s g=>?_,λs g=>j s (H.rngR s g),λi c f=>?_,λi c f=>?_,λc o h0=>?_,?_,?_⟩
 ·rcases List.mem_append.1 o with o|o
  ·exact j s (H.rngC c o s g)
  ·rw[List.mem_singleton.1 o]at g;simp[Qk.zero]at g
 ·dsimp only;rw[U];rcases t i c f with f|⟨rfl,rfl⟩
  ·exact H.cnt i c f
  ·rw[hA,hR,P];rfl
 ·rcases t i c f with f|⟨rfl,rfl⟩
  ·exact H.kept i c f
  ·rw[P];simp[Qk.zero]
 ·rcases List.mem_append.1 o with o|o
  ·exact H.zero c o h0
  ·rw[List.mem_singleton.1 o];rfl
 ·dsimp only;rw[XD,H.live,Dz (n:=Qk.zero.count) rfl];simp[nz]
 ·obtain⟨rk,hr⟩:=H.acyc;refine⟨rk,λi c f s g C=>?_⟩;rcases t i c f with f|⟨rfl,rfl⟩
  ·exact hr i c f s g C
  ·simp[Qk.zero]at g
theorem RK.fill{h h':Hp}{l R T T':List Qx}(H:RK h (l++R) T){a b:List Qk}{x:Qk}{t:Int}(o:h.cells=a++x::b)(g:x.count=0\/x.count= -1)(r:h'.cells=a++⟨1,t,l⟩::b)(hv:h'.live=h.live+1-Py x.count)
  (a1:∀s∈T',s∈T) (I:∀i,i≠a.length->J5 T' i=J5 T i) (J:J5 T' a.length=0):RK h' (⟨2,a.length⟩::R) T':=by
 have hg:h.cells[a.length]? =some x:=by rw[o];simp
 have P:=H.zero x (by rw[o];simp) g;have j:=H.cnt a.length x hg;have a2:=H.kept a.length x hg;rw[Qw]at j;have a3:J5 (Tx h.cells) a.length=0/\J5 l a.length=0/\J5 R a.length=0:=by
  rcases g with g|g
  ·rw[g,Tq (by decide)]at j;omega
  ·have:=a2.1 g;rw[g,Ka]at j;omega
 have a4:ec x.count=(J5 T a.length:Int):=oM;have no:∀s:Qx,(s∈Tx h.cells\/s∈l)->s.kind=2->II h.cells.length s->s.n.toNat≠a.length:=λs f C hr he=>by
  have h0:=hr C;have hn:s.n=(a.length:Int):=oM;rcases f with f|f<;> (have:=Yy f C hn;omega)
 refine H.swap o r (λs f=>?_) (λi hi=>?_) ?_ (λi hi=>by rw[I i hi]) ?_ (λh0=>?_) ?_ ?_
 ·dsimp only at f;simp only[List.mem_append,List.mem_cons]at f⊢;rcases f with f|(rfl|f)|f
  ·exact .inl (.inr (.inl (.inl f)))
  ·refine .inr λ_=>?_
   have:h.cells.length=a.length+b.length+1:=by rw[o];simp;omega
   dsimp only;omega
  ·exact .inl (.inr (.inl (.inr f)))
  ·exact .inl (.inr (.inr (a1 s f)))
 ·rw[P,Kv,Qw,Z9 _ R,Rk (by dsimp only;omega),I i hi];dsimp only;omega
 ·rw[P,Kv,Qw,Z9 _ R,Oq rfl rfl,J,Tq (by dsimp only;omega)];dsimp only;omega
 ·rw[J];dsimp only;omega
 ·dsimp only at h0;omega
 ·dsimp only;rw[Yj oM,hv];omega
 ·refine YG.new (x:=x) (by rw[<-o];exact H.acyc) (λc r s f C=>?_) (λs f C=>?_)
  ·have U:c∈h.cells:=by rw[o];rcases List.mem_append.1 r with r|r<;> simp[r]
   exact no s (.inl (Gw.2 ⟨c,U,f⟩)) C (H.rngC c U s f)
  ·exact no s (.inr f) C (H.rngR s (List.mem_append_left _ (List.mem_append_left _ f)))
theorem RK.make{h:Hp}{l R T:List Qx}(H:RK h (l++R) T)(t:Int)(hv:h.live<200):(h.make t l).2.2=0/\RK (h.make t l).1 ((h.make t l).2.1::R) T/\Kp h (h.make t l).1/\(h.make t l).2.1.kind=2/\(h.make t l).1.cells[(h.make t l).2.1.n.toNat]? =some ⟨1,t,l⟩:=by
 have J:h.make t l=(⟨h.cells.take (room h.cells)++⟨1,t,l⟩::h.cells.drop (room h.cells+1),h.made+1,h.used,h.live+1,max h.peak (h.live+1)⟩,⟨2,room h.cells⟩,0):=by
  rw[Hp.make,if_neg oM]
 rw[J];dsimp only;rcases BD h.cells with⟨g,_⟩|⟨a,x,b,g,r,C⟩
 ·rw[g];have e:h.cells.take h.cells.length++(⟨1,t,l⟩:Qk)::h.cells.drop (h.cells.length+1)=h.cells++[⟨1,t,l⟩]:=by
   rw[List.take_length,List.drop_eq_nil_of_le oM]
  have f:J5 T h.cells.length=0:=by
   rcases Nat.eq_zero_or_pos (J5 T h.cells.length)with q|q
   ·exact q
   ·obtain⟨s,P,U,q3⟩:=YA q;have:=H.rngR s (List.mem_append_right _ P) U;omega
  rw[e];refine⟨rfl,?_,λi c I j=>⟨c,?_,.inr (.inr ⟨j,rfl,rfl⟩)⟩,rfl,by simp⟩
  ·refine RK.fill H.more (a:=h.cells) (x:=Qk.zero) (b:=[]) (t:=t) rfl (.inl rfl) rfl ?_ (λs o=>o) (λi _=>rfl) f;dsimp only;rw[Dz (n:=Qk.zero.count) rfl];omega
  ·dsimp only;rw[List.getElem?_append_left (List.getElem?_eq_some_iff.1 I).1];exact I
 ·have e:h.cells.take (room h.cells)++(⟨1,t,l⟩:Qk)::h.cells.drop (room h.cells+1)=a++⟨1,t,l⟩::b:=by
   rw[<-r,g];simp
  have hg:h.cells[a.length]? =some x:=by rw[g];simp
  have f:J5 T a.length=0:=by
   rcases Nat.eq_zero_or_pos (J5 T a.length)with q|q
   ·exact q
   ·have:=(H.kept _ _ hg).2 q;omega
  rw[e,<-r];refine⟨rfl,?_,Kp.swap g rfl λq=>oM,rfl,by simp⟩;refine RK.fill H g (.inl C) (t:=t) rfl ?_ (λs o=>o) (λi _=>rfl) f;dsimp only;rw[Dz C];omega
theorem RK.use{h:Hp}{s:Qx}{l R T:List Qx}(H:RK h (l++R) (s::T))(g:s.kind=2)(t:Int):(h.use s t l).2.2=0/\RK (h.use s t l).1 ((h.use s t l).2.1::R) T/\Kp h (h.use s t l).1/\(h.use s t l).2.1.kind=2/\(h.use s t l).1.cells[(h.use s t l).2.1.n.toNat]? =some ⟨1,t,l⟩:=by
 obtain⟨h0,h1⟩:=H.rngR s (by simp) g;have r:s.n.toNat<h.cells.length:=oM;have o:h.cells[s.n.toNat]? =some h.cells[s.n.toNat]:=List.getElem?_eq_getElem r;obtain⟨a,b,C,I⟩:=JO o;have J:=H.kept _ _ o;have P:=H.cnt _ _ o;have hT:=Yy (l:=s::T) (List.mem_cons_self ..) g (i:=s.n.toNat) oM;generalize h.cells[s.n.toNat]=x at *;have j:=J.2 hT;rw[j,Ka,Z9 s T,Oq g (by omega:s.n=(s.n.toNat:Int))]at P;have U:h.at s.n=some x:=by rw[Hp.at,if_pos h0];exact o
 have a1:h.kept s=true:=by unfold Hp.kept;rw[U];simp[j]
 have he:h.use s t l=({ h.put s.n ⟨1,t,l⟩with used:=h.used+1 },s,0):=by rw[Hp.use,if_pos g,if_pos a1]
 have a2:s=⟨2,(a.length:Int)⟩:=by
  obtain⟨k,n⟩:=s;dsimp only at g h0 I r;subst g;congr 1;omega
 rw[he];have f:(h.put s.n ⟨1,t,l⟩).cells=a++⟨1,t,l⟩::b:=Z8 C oM;refine⟨rfl,?_,Kp.swap C f λq=>oM,g,by dsimp only;rw[f,I.symm];simp⟩;dsimp only;have hf:=RK.fill (h':={ h.put s.n ⟨1,t,l⟩with used:=h.used+1 }) (T':=T) H C (.inr j) (t:=t) f (by dsimp only[Hp.put];rw[Yj oM];omega) (λu hu=>List.mem_cons_of_mem _ hu) (λi r=>by rw[Z9 s T,Rk oM,Nat.zero_add]) (by rw[I];omega);have e:(⟨2,(a.length:Int)⟩:Qx)=s:=a2.symm;rw[e]at hf;exact hf
theorem RK.free{h:Hp}{s:Qx}{R T:List Qx}(H:RK h R (s::T)):(h.free s).2=0/\RK (h.free s).1 R T/\Kp h (h.free s).1:=by
 by_cases j:s.kind=2
 ·obtain⟨h0,h1⟩:=H.rngR s (by simp) j;have r:s.n.toNat<h.cells.length:=oM;have C:h.cells[s.n.toNat]? =some h.cells[s.n.toNat]:=List.getElem?_eq_getElem r;obtain⟨a,b,I,h3⟩:=JO C;have P:=H.kept _ _ C;have U:=H.cnt _ _ C;have hT:=Yy (l:=s::T) (List.mem_cons_self ..) j (i:=s.n.toNat) oM;have o:=H.zero h.cells[s.n.toNat] (List.getElem_mem r);generalize h.cells[s.n.toNat]=x at *;have f:=P.2 hT;rw[f,Ka,Z9 s T,Oq j (by omega:s.n=(s.n.toNat:Int))]at U;have a1:h.at s.n=some x:=by rw[Hp.at,if_pos h0];exact C
  have a2:h.kept s=true:=by unfold Hp.kept;rw[a1];simp[f]
  have he:h.free s=({ h.put s.n Qk.zero with live:=h.live-1 },0):=by rw[Hp.free,if_pos j,if_pos a2]
  have g:(h.put s.n Qk.zero).cells=a++Qk.zero::b:=Z8 I oM;rw[he];refine⟨rfl,H.swap I (y:=Qk.zero) g (λt J=>?_) (λi r=>?_) ?_ (λi r=>?_) ?_ (λ_=>rfl) ?_ ?_,Kp.swap I g λ_=>.inl rfl⟩
  ·refine .inl ?_;simp only[Qk.zero,List.nil_append,List.mem_append,List.mem_cons]at J⊢;rcases J with q|q
   ·exact .inr (.inl q)
   ·exact .inr (.inr (.inr q))
  ·rw[Z9 s T,Rk (s:=s) oM,o (.inr f)];simp only[Qk.zero,Kv];omega
  ·rw[Z9 s T,Oq j oM,o (.inr f),f,Ka];simp only[Qk.zero,Kv];rw[Tq (by decide)];omega
  ·rw[Z9 s T,Rk (s:=s) oM,Nat.zero_add]
  ·have:J5 T a.length=0:=by rw[h3];omega
   rw[this];simp[Qk.zero]
  ·rw[Dz (n:=Qk.zero.count) rfl,Yj (n:=x.count) oM];dsimp only;omega
  ·exact YG.sub (by rw[<-I];exact H.acyc) λ_ h=>by simp[Qk.zero]at h
 ·have he:h.free s=(h,0):=by rw[Hp.free,if_neg j]
  rw[he];exact⟨rfl,H.SF (λt J=>.inl (List.mem_cons_of_mem _ J)) (λi=>by rw[Z9 s T,ZG j];omega),Kp.refl h⟩
theorem RK.start:RK Hp.zero [] []:=⟨by simp[Hp.zero],by simp,by simp[Hp.zero],by simp[Hp.zero],by simp[Hp.zero],rfl,⟨λ_=>0,by simp[Hp.zero]⟩⟩
theorem RK.none{h:Hp}(H:RK h [] []):h.live=0:=by
 have g:∀(i:Nat) (c:Qk),h.cells[i]? =some c->c.count≠-1:=λi c f e=>by
  have:=(H.kept i c f).1 e;rw[Kv]at this;omega
 refine VF.none ⟨H.rngC,by simp,λi c f=>?_,λc f j=>H.zero c f (.inl j),H.live,H.acyc⟩;have:=H.cnt i c f;rw[Tq (g i c f),Kv]at this;rw[this,Kv]
end
section
open Classical Go.RowKit
theorem PN{s:LS}(h:s.Ok)(g:∀n,s.c n=0)(i:s.tk=[]):s.left=false:=by
 unfold LS.left;rw[i,Bool.or_eq_false_iff];refine⟨List.any_eq_false.2 λp hp=>?_,rfl⟩;have j:=Vb h.kc (s:=p.1) (v:=p.2) hp;have f:=g p.1;unfold LS.c at f;rw[j]at f;simp at f;simp[f]
theorem Wh{s:LS}{n:ByteArray}(h:1<=s.c n):(s.Vz n).1=0:=by
 unfold LS.Vz;unfold LS.c at h;cases hk:J3 s.ct n with
 |none=>rw[hk]at h;simp at h
 |some k=>
  rw[hk]at h;dsimp only;rw[if_neg (by simp at h;omega)]
theorem Be:∀(xs:List Tm) {s:LS},s.Ok->(∀x∈xs,x.tk=1)->(∀m,TA xs m<=s.c m)->(s.F6 xs).1=0
 |[],s,_,_,_=>rfl
 |x::r,s,j,f,g=>by
  have l:=g x.nm;rw[Yb,if_pos rfl]at l;have I:0<=TA r x.nm:=by unfold TA;omega
  have i:=Wh (s:=s) (n:=x.nm) oM;obtain⟨o,t,-⟩:=LS.D5 j i;rw[LS.F6,if_neg (by simpa using f x (by simp)),if_neg (by simpa using i)];refine Be r o (λy C=>f y (by simp[C])) λm=>?_
  have:=g m;rw[Yb]at this;rw[t];split at this<;> rename_i e
  ·rw[if_pos e];omega
  ·rw[if_neg e];omega
theorem PK{n:Int}{a b:ByteArray}{vs:List ByteArray}{x:Tm}{cs:List Cs}{s:LS}(h:s.there a=true)(f:x.Y0 (s.inc a)=0):(Tm.mk 8 n a b vs [x] cs).Y0 s=0:=by
 rw[Tm.Y0,if_neg oM,if_neg oM,if_neg oM,if_neg oM,if_neg oM,if_neg oM,if_pos oM,if_neg (by simp),if_pos rfl,if_pos h];exact V3 f
theorem PI{n:Int}{a b:ByteArray}{vs:List ByteArray}{x:Tm}{cs:List Cs}{s:LS}(h:(s.Vz a).1=0)(f:x.Y0 (s.Vz a).2=0):(Tm.mk 9 n a b vs [x] cs).Y0 s=0:=by
 rw[Tm.Y0,if_neg oM,if_neg oM,if_neg oM,if_neg oM,if_neg oM,if_neg oM,if_pos oM,if_neg (by simp),if_neg oM,if_pos rfl,if_neg (by simpa using h)];exact V3 f
theorem YV{n:Int}{a b:ByteArray}{vs:List ByteArray}{x y:Tm}{cs:List Cs}{s:LS}(h:J3 s.ct a=none)(f:x.Y0 (s.fst x)=0)(g:y.Y0 { s.Nz x with ct:=Jz (s.Nz x).ct a 1 }=0):(Tm.mk 6 n a b vs [x,y] cs).Y0 s=0:=by
 rw[Tm.Y0,if_neg oM,if_neg oM,if_neg oM,if_neg oM,if_pos rfl,if_neg (by simp),if_neg (by simp[h])];exact Ir f g
theorem Uo{n:Int}{a b:ByteArray}{vs:List ByteArray}{x:Tm}{cs:List Cs}{s:LS}(g:x.tk=1)(h:1<=s.c x.nm)(i:∀c∈cs,c.Y0 s x.nm=0):(Tm.mk 7 n a b vs [x] cs).Y0 s=0:=by
 rw[Tm.Y0,if_neg oM,if_neg oM,if_neg oM,if_neg oM,if_neg oM,if_pos rfl,if_neg (by simp[QK,g]),if_neg (show¬s.c (QK [x]).nm<1 from λf=>by have f:s.c x.nm<1:=f;omega)];exact Mh i
theorem UJ:∀(l:List ByteArray) (t:Tm) {s:LS},s.Ok->l.Nodup->(∀n∈l,1<=s.c n)->∃s':LS,s'.Ok/\(∀m,s'.c m=if m∈l then s.c m-1 else s.c m)/\s'.tk=s.tk/\s'.inn=s.inn/\(∀m,(J3 s'.ct m).isSome=(J3 s.ct m).isSome)/\(t.Y0 s'=0->(cnt 9 l t).Y0 s=0)
 |[],t,s,i,_,_=>⟨s,i,λm=>by simp,rfl,rfl,λm=>rfl,λh=>h⟩
 |a::r,t,s,i,g,j=>by
  rw[List.nodup_cons]at g;have o:=Wh (j a (by simp));obtain⟨I,C,J,P,T,-⟩:=LS.D5 i o;obtain⟨s',U,k2,k3,k4,k5,k6⟩:=UJ r t I g.2 λn f=>by
   rw[C,if_neg (λe=>g.1 (by rw[e];exact f))];exact j n (by simp[f])
  refine⟨s',U,λm=>?_,k3.trans J,k4.trans P,λm=>(k5 m).trans (T m),λh=>?_⟩
  ·rw[k2,C];by_cases e:a=m
   ·subst e;rw[if_neg g.1,if_pos rfl,if_pos (by simp)]
   ·rw[if_neg e];by_cases f:m∈r
    ·rw[if_pos f,if_pos (by simp[f])]
    ·rw[if_neg f,if_neg (by simp[f];exact λh=>e h.symm)]
  ·rw[cnt];exact PI o (k6 h)
theorem AC{s:LS}(g:s.Ok){n:ByteArray}(a:ByteArray)(h:s.there n=true):(s.inc a).there n=true:=by
 have f:∀m,s.c m<=(s.inc a).c m:=λm=>by
  rw[(LS.Qp g a).2];split<;> omega
 unfold LS.there at h⊢;have i:(s.inc a).inn=s.inn:=rfl;rw[i];rw[Bool.or_eq_true]at h⊢;rcases h with h|h
 ·left;have:=of_decide_eq_true h;have:=f n;exact decide_eq_true oM
 ·right;cases hk:J3 s.inn n with
  |none=>rw[hk]at h;simp at h
  |some up=>
   rw[hk]at h;dsimp only at h⊢;have:=of_decide_eq_true h;have:=f up;exact decide_eq_true oM
theorem UK:∀(l:List ByteArray) (t:Tm) {s:LS},s.Ok->(∀n∈l,s.there n=true)->∃s':LS,s'.Ok/\(∀m,s'.c m=s.c m+M4 l m)/\s'.tk=s.tk/\s'.inn=s.inn/\(∀m,(J3 s'.ct m).isSome=((J3 s.ct m).isSome||decide (m∈l)))/\(t.Y0 s'=0->(cnt 8 l t).Y0 s=0)
 |[],t,s,f,_=>⟨s,f,λm=>by simp[M4],rfl,rfl,λm=>by simp,λh=>h⟩
 |a::r,t,s,f,g=>by
  obtain⟨i,j⟩:=LS.Qp f a;obtain⟨s',o,C,I,J,P,T⟩:=UK r t i λn U=>AC f a (g n (by simp[U]))
  refine⟨s',o,λm=>?_,I,J,λm=>?_,λh=>?_⟩
  ·rw[C,j,R3];split<;> omega
  ·rw[P];unfold LS.inc;dsimp only;rw[Xj];by_cases e:a=m
   ·subst e;simp
   ·rw[if_neg e];have e':m≠a:=λh=>e h.symm
    simp[e']
  ·rw[cnt];exact PK (g a (by simp)) (T h)
theorem E8{l:List ByteArray}(h:l.Nodup)(n:ByteArray):M4 l n=if n∈l then 1 else 0:=by
 induction l with
 |nil=>simp[M4]
 |cons a r f=>
  rw[List.nodup_cons]at h;rw[R3,f h.2];by_cases e:a=n
  ·subst e;rw[if_pos rfl,if_neg h.1,if_pos (by simp)];rfl
  ·rw[if_neg e];have g:n≠a:=λh=>e h.symm
   simp[g]
theorem ND:∀(xs:List Tm) (f:List ByteArray) (n:ByteArray),M4 (Dx f xs) n=TA xs n-if n ∉ f/\∃x∈xs,x.nm=n then 1 else 0
 |[],f,n=>by simp[Dx,M4,TA]
 |x::r,f,n=>by
  have t:=ND r (f++[x.nm]) n;rw[Dx,Yb];by_cases i:hasB f x.nm=true
  ·have j:=X9.1 i;rw[if_pos i,R3,t];by_cases e:x.nm=n
   ·subst e;rw[if_pos rfl,if_neg (λh=>h.1 (by simp)),if_neg (λh=>h.1 j)];omega
   ·rw[if_neg e];have g:(n ∉ f++[x.nm]/\∃y∈r,y.nm=n)<->(n ∉ f/\∃y∈x::r,y.nm=n):=by
     have l:n≠x.nm:=λh=>e h.symm
     simp[e,l]
    by_cases h:n ∉ f++[x.nm]/\∃y∈r,y.nm=n
    ·rw[if_pos h,if_pos (g.1 h)];omega
    ·rw[if_neg h,if_neg (λo=>h (g.2 o))];omega
  ·rw[if_neg i,t];have j:x.nm ∉ f:=λh=>i (X9.2 h)
   by_cases e:x.nm=n
   ·subst e;rw[if_pos rfl,if_neg (λh=>h.1 (by simp)),if_pos ⟨j,x,by simp,rfl⟩];omega
   ·rw[if_neg e];have g:(n ∉ f++[x.nm]/\∃y∈r,y.nm=n)<->(n ∉ f/\∃y∈x::r,y.nm=n):=by
     have l:n≠x.nm:=λh=>e h.symm
     simp[e,l]
    by_cases h:n ∉ f++[x.nm]/\∃y∈r,y.nm=n
    ·rw[if_pos h,if_pos (g.1 h)];omega
    ·rw[if_neg h,if_neg (λo=>h (g.2 o))];omega
theorem Zv4{xs:List Tm}{n:ByteArray}(h:∃x∈xs,x.nm=n):1<=TA xs n:=by
 obtain⟨x,f,e⟩:=h;unfold TA;have:x∈xs.filter λx=>decide (x.nm=n):=List.mem_filter.2 ⟨f,by simpa using e⟩
 have:=List.length_pos_of_mem this;omega
theorem Qv0{xs:List Tm}{n:ByteArray}(h:¬∃x∈xs,x.nm=n):TA xs n=0:=by
 unfold TA;rw[List.filter_eq_nil_iff.2 λx f=>by simp;exact λe=>h ⟨x,f,e⟩];rfl
theorem Uh(nm:ByteArray):∀(ws:List ByteArray) {s:LS},ws.Nodup->(∀v∈ws,J3 s.ct v=none)->(s.U1 nm ws).1=0/\(∀m,(J3 (s.U1 nm ws).2.ct m).isSome=((J3 s.ct m).isSome||decide (m∈ws)))/\(∀m,J3 (s.U1 nm ws).2.inn m=if m∈ws then some nm else J3 s.inn m)
 |[],s,_,_=>⟨rfl,λm=>by simp[LS.U1],λm=>by simp[LS.U1]⟩
 |v::r,s,g,i=>by
  rw[List.nodup_cons]at g;rw[LS.U1,if_neg (by rw[i v (by simp)];simp)];obtain⟨l,o,t⟩:=Uh nm r (s:={ s with ct:=Jz s.ct v 0,inn:=Jz s.inn v nm }) g.2 λu j=>by
   dsimp only;rw[Xj,if_neg (λe=>g.1 (by rw[e];exact j))];exact i u (by simp[j])
  refine⟨l,λm=>?_,λm=>?_⟩
  ·rw[o];dsimp only;rw[Xj];by_cases e:v=m
   ·subst e;simp
   ·rw[if_neg e];have C:m≠v:=λh=>e h.symm
    simp[C]
  ·rw[t];dsimp only;rw[Xj];by_cases f:m∈r
   ·rw[if_pos f,if_pos (by simp[f])]
   ·rw[if_neg f];by_cases e:v=m
    ·subst e;rw[if_pos rfl,if_pos (by simp)]
    ·rw[if_neg e,if_neg (by simp[f];exact λh=>e h.symm)]
theorem Yg{s:LS}{n:ByteArray}(h:s.c n≠0):(J3 s.ct n).isSome=true:=by
 unfold LS.c at h;cases hk:J3 s.ct n with
 |none=>rw[hk]at h;simp at h
 |some k=>rfl
theorem Xj6:∀(d:Nat) (t:Tm) (has:List ByteArray) (s:LS),t.Rt d->t.Gp=true->t.bd.Nodup->(∀n∈t.bd,J3 s.ct n=none)->has.Nodup->(∀n∈t.free,n∈has)->s.Ok->(∀n,s.c n=if n∈has then 1 else 0)->s.tk=[]->(t.ow has).Y0 s=0:=by
 intro d;induction d with
 |zero=>intro t _ _ h;exact h.elim
 |succ d ih=>
  intro t has s hR hP b2 e9 c6 a2 hs hc f0;obtain⟨k,o,a,b,vs,xs,cs⟩:=t
  -- drops
  have f1:(Rv has (Tm.mk k o a b vs xs cs).free).Nodup:=c6.sublist List.filter_sublist;obtain⟨s1,o1,c1,t1,i1,k1,step⟩:=UJ (Rv has (Tm.mk k o a b vs xs cs).free) (if k=3\/k=4\/k=5 then cnt 8 (Dx [] xs) (.mk k o a b vs xs cs)
   else if k=6 then cnt 8 (PM a (Uq has (Tm.mk k o a b vs xs cs).free) xs) (.mk 6 0 a .empty [] (Tm.VH xs (Dr a (Uq has (Tm.mk k o a b vs xs cs).free) xs)) [])
   else if k=7 then .mk 7 0 .empty .empty [] xs (Cs.RU cs (Uq has (Tm.mk k o a b vs xs cs).free) (Xn xs))
   else .mk k o a b vs xs cs) hs f1 λn f=>by
   rw[hc,if_pos (J8.1 f).1];omega
  have j:∀m,s1.c m=if m∈(Tm.mk k o a b vs xs cs).free then 1 else 0:=λm=>by
   rw[c1,hc];by_cases hf:m∈(Tm.mk k o a b vs xs cs).free
   ·rw[if_neg (λh=>(J8.1 h).2 hf),if_pos (a2 m hf),if_pos hf]
   ·rw[if_neg hf];by_cases hh:m∈has
    ·rw[if_pos (J8.2 ⟨hh,hf⟩),if_pos hh];rfl
    ·rw[if_neg (λh=>hh (J8.1 h).1),if_neg hh]
  have a5:∀n∈(Tm.mk k o a b vs xs cs).bd,J3 s1.ct n=none:=λn f=>by
   have:=k1 n;rw[e9 n f]at this;simpa using this
  have C:s1.tk=[]:=t1.trans f0;have a9:=hR;obtain⟨hk,-,-,hx,f2⟩:=hR;have i0:=hP;rw[Tm.Gp,Bool.and_eq_true]at hP;obtain⟨c7,f3⟩:=hP;rw[Tm.ow];refine step ?_;clear step;by_cases h6:k=6
  ·subst h6;obtain⟨x,y,rfl,rfl,d3,b6⟩:=WF a9;have d4:=Jm c7 x (by simp);have f4:=Jm c7 y (by simp);have b3:(Tm.mk 6 o a b vs [x,y] []).bd=a::(x.bd++y.bd):=by rw[Tm.bd];simp[Tm.V6,Cs.V6]
   have i:∀n,n∈(Tm.mk 6 o a b vs [x,y] []).free<->n∈x.free\/(n∈y.free/\n≠a):=λn=>by
    rw[Tm.free,if_neg oM,if_pos ⟨rfl,rfl⟩,Tm.UB,Tm.RD,Qe,Qe,J8];simp
   rw[b3]at b2 a5;rw[List.nodup_cons,List.nodup_append]at b2;obtain⟨f5,f6,f7,h9⟩:=b2;rw[if_neg oM,if_pos rfl];generalize hF:(Tm.mk 6 o a b vs [x,y] []).free=F at *;obtain⟨O,hO⟩:∃O,O=Uq has F:=⟨_,rfl⟩
   rw[<-hO];have I:∀n,n∈O<->n∈F:=λn=>by
    rw[hO,U3];exact⟨λh=>h.2,λh=>⟨a2 n h,h⟩⟩
   have b7:O.Nodup:=by rw[hO];exact c6.sublist List.filter_sublist
   rw[PM,Dr,Tm.VH,Tm.VH,Tm.VH];simp only[List.headD_cons,List.tail_cons];obtain⟨A,hA⟩:∃A,A=Uq O x.free:=⟨_,rfl⟩
   obtain⟨B,hB⟩:∃B,B=Uq O (Rv y.free [a]):=⟨_,rfl⟩
   obtain⟨D,hD⟩:∃D,D=Uq A (Rv y.free [a]):=⟨_,rfl⟩
   rw[<-hA,<-hB,<-hD];have a3:∀n,n∈A<->n∈x.free:=λn=>by
    rw[hA,U3,I,i];exact⟨λh=>h.2,λh=>⟨.inl h,h⟩⟩
   have b0:∀n,n∈B<->n∈y.free/\n≠a:=λn=>by
    rw[hB,U3,I,i,J8];simp;exact λg T=>.inr ⟨g,T⟩
   have b4:∀n,n∈D<->n∈A/\n∈B:=λn=>by
    rw[hD,U3,b0,J8];simp
   have d5:A.Nodup:=by rw[hA];exact b7.sublist List.filter_sublist
   have f8:B.Nodup:=by rw[hB];exact b7.sublist List.filter_sublist
   have f9:D.Nodup:=by rw[hD];exact d5.sublist List.filter_sublist
   have c8:∀n∈F,(J3 s1.ct n).isSome=true:=λn f=>Yg (by rw[j,if_pos f];omega)
   obtain⟨s2,o2,c2,t2,i2,k2,step⟩:=UK D (.mk 6 0 a .empty [] [x.ow A,y.ow (B++[a])] []) o1 λn f=>by
    have:n∈F:=by rw[b4,a3]at f;exact(i n).2 (.inl f.1)
    unfold LS.there;rw[j,if_pos this];rfl
   refine step ?_;clear step;have a6:∀n,n∈a::(x.bd++y.bd)->J3 s2.ct n=none:=λn f=>by
    have g:=k2 n;have T:=a5 n f;rw[T]at g;have h3:n ∉ D:=λh=>by
     rw[b4,a3]at h;have:=c8 n ((i n).2 (.inl h.1));rw[T]at this;simp at this
    simpa[h3]using g
   have a4:∀m,s2.c m=(if m∈F then 1 else 0)+if m∈D then 1 else 0:=λm=>by rw[c2,j,E8 f9]
   obtain⟨x1,x2,x3,x4,x5,x6,x7⟩:=Qq6 d x A d3 d4;have a7:∀n,J3 s2.ct n≠none->((x.ow A).P5 n=true<->n∈A):=λn hk=>by
    unfold Tm.P5;rw[Bool.and_eq_true,X9,x3];have c9:n ∉ x.bd:=λh=>hk (a6 n (by simp[h]))
    refine⟨λ⟨g,_⟩=>?_,λh=>⟨x1 n (x4 n ((a3 n).1 h)),by rw[Av.2 c9];rfl⟩⟩;rcases x2 n g with h|h|h
    ·rcases x5 n h with h|h
     ·exact(a3 n).2 h
     ·exact absurd h c9
    ·exact h
    ·exact absurd h c9
   have d6:∀n,J3 s2.ct n=none->s2.c n=0:=λn h=>by unfold LS.c;rw[h];rfl
   have d0:∀n∈A,n∈F:=λn h=>(i n).2 (.inl ((a3 n).1 h))
   refine YV (a6 a (by simp)) ?_ ?_
   ·refine ih x A _ d3 d4 f6 (λn f=>?_) d5 (λn h=>(a3 n).2 h) (LS.Qr o2 _) (λn=>?_) ?_
    ·unfold LS.fst;dsimp only;rw[Fv (λ_ k=>Mk k),Zq,a6 n (by simp[f])];split<;> rfl
    ·rw[LS.Ab];by_cases hk:J3 s2.ct n=none
     ·have h0:=d6 n hk;rw[h0];have:n ∉ A:=λh=>by
       have:=a4 n;rw[h0,if_pos (d0 n h)]at this;split at this<;> omega
      rw[if_neg this];split<;> rfl
     ·by_cases h:n∈A
      ·rw[if_pos ((a7 n hk).2 h),if_pos h,a4,if_pos (d0 n h)];unfold Mk;split<;> split<;> omega
      ·rw[if_neg (λhh=>h ((a7 n hk).1 hh)),if_neg h]
    ·unfold LS.fst;dsimp only;rw[t2,C];rfl
   ·refine ih y (B++[a]) _ b6 f4 f7 (λn f=>?_) ?_ (λn h=>?_) (LS.O3 (LS.Zi o2 _) a oM) (λn=>?_) ?_
    ·dsimp only;have g0:a≠n:=λe=>f5 (by subst e;simp[f])
     rw[Xj,if_neg g0];unfold LS.Nz;dsimp only;rw[Fv (λk v=>if (x.ow A).P5 k then v-Mk v else v),a6 n (by simp[f])];rfl
    ·rw[List.nodup_append];refine⟨f8,by simp,λu hu v hv=>?_⟩;simp only[List.mem_singleton]at hv;subst hv;exact((b0 u).1 hu).2
    ·by_cases e:n=a
     ·simp[e]
     ·simp only[List.mem_append];exact .inl ((b0 n).2 ⟨h,e⟩)
    ·rw[LS.Mi];by_cases e:a=n
     ·subst e;rw[if_pos rfl,if_pos (by simp)]
     ·rw[if_neg e,LS.BB];have e':n≠a:=λh=>e h.symm
      have a1:n∈B++[a]<->n∈B:=by simp[e']
      by_cases hk:J3 s2.ct n=none
      ·have h0:=d6 n hk;have g:=a4 n;rw[h0]at g;have:n ∉ B:=λh=>by
        have:n∈F:=(i n).2 (.inr ((b0 n).1 h));rw[if_pos this]at g;split at g<;> omega
       rw[if_neg (λhh=>this (a1.1 hh)),h0];split<;> rfl
      ·have g:=a4 n;by_cases b1:n∈A
       ·rw[if_pos ((a7 n hk).2 b1),g,if_pos (d0 n b1)];by_cases J:n∈B
        ·rw[if_pos ((b4 n).2 ⟨b1,J⟩),if_pos (a1.2 J)];rfl
        ·rw[if_neg (λh=>J ((b4 n).1 h).2),if_neg (λh=>J (a1.1 h))];rfl
       ·rw[if_neg (λh=>b1 ((a7 n hk).1 h)),g,if_neg (λh=>b1 ((b4 n).1 h).1)];by_cases J:n∈B
        ·rw[if_pos ((i n).2 (.inr ((b0 n).1 J))),if_pos (a1.2 J)];rfl
        ·have:n ∉ F:=λh=>by
          rcases(i n).1 h with h|h
          ·exact b1 ((a3 n).2 h)
          ·exact J ((b0 n).2 h)
         rw[if_neg this,if_neg (λh=>J (a1.1 h))];rfl
    ·show(s2.Nz (x.ow A)).tk=[]
     unfold LS.Nz;dsimp only;rw[t2,C];rfl
  ·have a8:=Uu h6 c7;have g4:∀n,(∃x∈xs,n∈x.free)<->∃x∈xs,x.nm=n:=λn=>by
    refine⟨λ⟨x,g,T⟩=>⟨x,g,?_⟩,λ⟨x,g,T⟩=>⟨x,g,?_⟩⟩
    ·rw[(JV (hx x g) (a8 x g)).2.1]at T;exact(List.mem_singleton.1 T).symm
    ·rw[(JV (hx x g) (a8 x g)).2.1];simp[T]
   have i:∀n,n∈(Tm.mk k o a b vs xs cs).free<->(k=1/\n=a)\/(∃x∈xs,x.nm=n)\/∃c∈cs,n∈c.QC:=λn=>by
    rw[Tm.free];by_cases e:k=1
    ·subst e;rw[if_pos rfl,MV a9 (.inl rfl),MW a9 oM];simp
    ·rw[if_neg e,if_neg oM,if_neg oM,Jf,YQ,g4];simp[e]
   by_cases h7:k=7
   ·subst h7;obtain⟨P,rfl,g5⟩:=LJ a9;have d7:=a8 P (by simp);rw[if_neg oM,if_neg oM,if_pos rfl,Hg];have g6:Xn [P]=P.nm:=rfl;rw[g6];generalize hF:(Tm.mk 7 o a b vs [P] cs).free=F at *;obtain⟨O,hO⟩:∃O,O=Uq has F:=⟨_,rfl⟩
    rw[<-hO];have I:∀n,n∈O<->n∈F:=λn=>by
     rw[hO,U3];exact⟨λh=>h.2,λh=>⟨a2 n h,h⟩⟩
    have b7:O.Nodup:=by rw[hO];exact c6.sublist List.filter_sublist
    have b8:P.nm∈F:=(i _).2 (.inr (.inl ⟨P,by simp,rfl⟩));have c8:∀n∈F,J3 s1.ct n≠none:=λn f h=>by
     have:=Yg (s:=s1) (n:=n) (by rw[j,if_pos f];omega);rw[h]at this;simp at this
    have b3:(Tm.mk 7 o a b vs [P] cs).bd=Cs.V6 cs:=by
     rw[Tm.bd,if_neg oM,Tm.V6,Tm.V6,(JV g5 d7).2.2.1];simp
    rw[b3]at b2 a5;refine Uo d7 (by rw[j,if_pos b8];omega) λc g7=>?_
    obtain⟨c0,b5,rfl⟩:=List.mem_map.1 g7;obtain⟨tg,ws,y⟩:=c0;have b6:y.Rt d:=(f2 _ b5).2;have d8:=UL f3 tg ws y b5;have d9:(ws++y.bd).Nodup:=by
     have:∀l:List Cs,(Cs.V6 l).Nodup->Cs.mk tg ws y∈l->(ws++y.bd).Nodup:=by
      intro l;induction l with
      |nil=>intro _ h;cases h
      |cons c r g8=>
       intro g T;rw[Cs.V6,List.nodup_append]at g;rcases List.mem_cons.1 T with e|T
       ·subst e;exact g.1
       ·exact g8 g.2.1 T
     exact this cs b2 b5
    have d1:∀n∈ws++y.bd,J3 s1.ct n=none:=λn f=>a5 n (ZJ.2 ⟨_,b5,by rw[Cs.bd];exact f⟩)
    rw[List.nodup_append]at d9;obtain⟨e1,e2,g9⟩:=d9;obtain⟨e0,kd,ki⟩:=Uh P.nm ws e1 λv hv=>d1 v (by simp[hv])
    obtain⟨q1,q2,q3⟩:=LS.Xe P.nm ws o1 e0;rw[Cs.ow,Cs.Y0,if_neg (by simpa using e0)];generalize s1.U1 P.nm ws=S at e0 kd ki q1 q2 q3;obtain⟨U,hU⟩:∃U,U=Uq ws y.free:=⟨_,rfl⟩
    rw[<-hU];have b9:∀n,n∈U<->n∈ws/\n∈y.free:=λn=>by rw[hU,U3]
    have e3:U.Nodup:=by rw[hU];exact e1.sublist List.filter_sublist
    obtain⟨s3,o3,c3,t3,i3,k3,step⟩:=UK U (cnt 9 (if hasB y.free P.nm then[]else[P.nm]) (y.ow (if hasB y.free P.nm then O++U else Rv (O++U) [P.nm]))) q1 λn f=>by
     unfold LS.there;rw[ki,if_pos ((b9 n).1 f).1];dsimp only;rw[q2,q2,j,j,if_pos b8];simp
    refine step ?_;clear step;have e4:∀n∈U,n ∉ F:=λn h hf=>c8 n hf (d1 n (by simp[((b9 n).1 h).1]))
    have d2:∀m,s3.c m=if m∈O++U then 1 else 0:=λm=>by
     rw[c3,q2,j,E8 e3];by_cases g:m∈F
     ·rw[if_pos g,if_neg (λh=>e4 m h g),if_pos (by simp[I,g])];rfl
     ·rw[if_neg g];by_cases T:m∈U
      ·rw[if_pos T,if_pos (by simp[T])];rfl
      ·rw[if_neg T,if_neg (by simp[I,g,T])];rfl
    have e5:(O++U).Nodup:=by
     rw[List.nodup_append];exact⟨b7,e3,λu hu v hv e=>e4 v hv (by rw[<-e];exact(I u).1 hu)⟩
    have c5:∀n∈y.bd,J3 s3.ct n=none:=λn f=>by
     have g:=k3 n;rw[kd,d1 n (by simp[f])]at g;have hw:n ∉ ws:=λh=>g9 n h n f rfl
     have hu:n ∉ U:=λh=>hw ((b9 n).1 h).1
     simpa[hw,hu]using g
    have e6:∀n∈y.free,n∈O++U:=λn f=>by
     by_cases hw:n∈ws
     ·simp only[List.mem_append];exact .inr ((b9 n).2 ⟨hw,f⟩)
     ·simp only[List.mem_append];exact .inl ((I n).2 ((i n).2 (.inr (.inr ⟨_,b5,by rw[Cs.QC,J8];exact⟨f,hw⟩⟩))))
    have e7:s3.tk=[]:=by rw[t3,q3,C]
    by_cases hb:hasB y.free P.nm=true
    ·rw[if_pos hb,if_pos hb];show(y.ow (O++U)).Y0 s3=0;exact ih y (O++U) s3 b6 d8 e2 c5 e5 e6 o3 d2 e7
    ·rw[if_neg hb,if_neg hb];have h4:P.nm ∉ y.free:=λh=>hb (X9.2 h)
     obtain⟨s4,o4,c4,t4,i4,k4,step⟩:=UJ [P.nm] (y.ow (Rv (O++U) [P.nm])) o3 (by simp) λn f=>by
      simp only[List.mem_singleton]at f;subst f;rw[d2,if_pos (by simp[I,b8])];omega
     refine step (ih y _ s4 b6 d8 e2 (λn f=>?_) (e5.sublist List.filter_sublist) (λn f=>?_) o4 (λn=>?_) (t4.trans e7))
     ·have:=k4 n;rw[c5 n f]at this;simpa using this
     ·exact J8.2 ⟨e6 n f,by simp;exact λe=>h4 (by rw[<-e];exact f)⟩
     ·rw[c4,d2];by_cases e:n=P.nm
      ·subst e;rw[if_pos (by simp),if_pos (by simp[I,b8]),if_neg (λh=>(J8.1 h).2 (by simp))];rfl
      ·rw[if_neg (by simp[e])];by_cases h:n∈O++U
       ·rw[if_pos h,if_pos (J8.2 ⟨h,by simp[e]⟩)]
       ·rw[if_neg h,if_neg (λhh=>h (J8.1 hh).1)]
   ·have h5:=MW a9 h7;subst h5;rw[if_neg h6,if_neg h7];by_cases h3:k=3\/k=4\/k=5
    ·rw[if_pos h3];have hF:∀n,n∈(Tm.mk k o a b vs xs []).free<->∃x∈xs,x.nm=n:=λn=>by
      rw[i];refine⟨λh=>?_,λh=>.inr (.inl h)⟩;rcases h with h|h|⟨c,h,_⟩
      ·omega
      ·exact h
      ·cases h
     obtain⟨s2,o2,c2,t2,i2,k2,step⟩:=UK (Dx [] xs) (.mk k o a b vs xs []) o1 λn f=>by
      unfold LS.there;rw[j,if_pos ((hF n).2 (Zp xs [] n f))];rfl
     refine step ?_;have a4:∀m,s2.c m=TA xs m:=λm=>by
      rw[c2,j,ND];by_cases h:∃x∈xs,x.nm=m
      ·rw[if_pos ((hF m).2 h),if_pos ⟨by simp,h⟩];omega
      ·rw[if_neg (λhh=>h ((hF m).1 hh)),if_neg (λhh=>h hh.2),Qv0 h];rfl
     have hu:=Be xs o2 a8 λm=>by rw[a4];exact Int.le_refl _
     obtain⟨g1,g2,g3⟩:=LS.MF xs o2 hu;rw[ZA h3,hu];unfold LS.Qg;rw[PN g1 (λm=>by rw[g2,a4];omega) (by rw[g3,t2,C])];simp
    ·rw[if_neg h3];have e8:k=1\/k=2:=oM;have h8:=MV a9 e8;subst h8;rcases e8 with rfl|rfl
     ·have hF:∀n,n∈(Tm.mk 1 o a b vs [] []).free<->n=a:=λn=>by rw[i];simp
      have hu:=Wh (s:=s1) (n:=a) (by rw[j,if_pos ((hF a).2 rfl)];omega);obtain⟨g1,g2,g3,-⟩:=LS.D5 o1 hu;rw[Qw4,hu];unfold LS.Qg;rw[PN g1 (λm=>by
       rw[g2,j];by_cases e:a=m
       ·subst e;rw[if_pos rfl,if_pos ((hF a).2 rfl)];rfl
       ·rw[if_neg e,if_neg (λh=>e ((hF m).1 h).symm)]) (by rw[g3,C])]
      simp
     ·have hF:∀n,n ∉ (Tm.mk 2 o a b vs [] []).free:=λn=>by rw[i];simp
      rw[Qw2];unfold LS.Qg;rw[PN o1 (λm=>by rw[j,if_neg (hF m)]) C];simp
end
section
open Go.RowKit
structure LS.ZP (s s':LS):Prop where
 c:∀n,J3 s.ct n=J3 s'.ct n
 i:∀n,J3 s.inn n=J3 s'.inn n
 t:∀b,J3 s.tk b=J3 s'.tk b
theorem LS.ZP.cc{s s':LS}(h:s.ZP s')(n:ByteArray):s.c n=s'.c n:=by unfold LS.c;rw[h.c]
theorem En{s:LS}(h:s.Ok):s.left=true<->(∃n k,J3 s.ct n=some k/\0<k)\/∃b k,J3 s.tk b=some k:=by
 unfold LS.left;rw[Bool.or_eq_true,List.any_eq_true];refine or_congr ⟨λ⟨p,f,g⟩=>⟨p.1,p.2,Vb h.kc f,by simpa using g⟩,λ⟨n,k,f,g⟩=>⟨(n,k),WO f,by simpa using g⟩⟩ ⟨λf=>?_,λ⟨b,k,f⟩=>?_⟩
 ·cases ht:s.tk with
  |nil=>rw[ht]at f;simp at f
  |cons p r=>exact⟨p.1,p.2,by obtain⟨x,y⟩:=p;rw[J3,if_pos rfl]⟩
 ·cases ht:s.tk with
  |nil=>rw[ht]at f;simp[J3]at f
  |cons p r=>simp
theorem LS.ZP.left{s s':LS}(h:s.ZP s')(g:s.Ok)(f:s'.Ok):s.left=s'.left:=by
 rw[Bool.eq_iff_iff,En g,En f];simp only[h.c,h.t]
theorem LS.ZP.Qg{s s':LS}(h:s.ZP s')(g:s.Ok)(f:s'.Ok)(e:Int):s.Qg e=s'.Qg e:=by
 unfold LS.Qg;rw[h.left g f]
theorem LS.ZP.use{s s':LS}(h:s.ZP s')(n:ByteArray):(s.Vz n).1=(s'.Vz n).1/\(s.Vz n).2.ZP (s'.Vz n).2:=by
 unfold LS.Vz;rw[h.c n];cases J3 s'.ct n with
 |none=>exact⟨rfl,h⟩
 |some k=>
  dsimp only;split
  ·exact⟨rfl,h⟩
  ·exact⟨rfl,⟨λm=>by dsimp only;rw[Xj,Xj,h.c],h.i,h.t⟩⟩
theorem LS.ZP.F6:∀(xs:List Tm) {s s':LS},s.ZP s'->(s.F6 xs).1=(s'.F6 xs).1/\(s.F6 xs).2.ZP (s'.F6 xs).2
 |[],s,s',h=>⟨rfl,h⟩
 |x::r,s,s',h=>by
  obtain⟨f,g⟩:=h.use x.nm;rw[LS.F6,LS.F6];split
  ·exact⟨rfl,h⟩
  ·rw[f];split
   ·exact⟨f,g⟩
   ·exact LS.ZP.F6 r g
theorem Qb{s:LS}(h:s.Ok)(n:ByteArray):(s.Vz n).2.Ok:=by
 by_cases f:(s.Vz n).1=0
 ·exact(LS.D5 h f).1
 ·unfold LS.Vz at f⊢;cases hk:J3 s.ct n with
  |none=>exact h
  |some k=>
   rw[hk]at f;dsimp only at f⊢;by_cases g:k<1
   ·rw[if_pos g];exact h
   ·rw[if_neg g]at f;exact absurd rfl f
theorem Zc:∀(xs:List Tm) {s:LS},s.Ok->(s.F6 xs).2.Ok
 |[],s,h=>h
 |x::r,s,h=>by
  rw[LS.F6];split
  ·exact h
  ·split
   ·exact Qb h _
   ·exact Zc r (Qb h _)
theorem LS.ZP.inc{s s':LS}(h:s.ZP s')(n:ByteArray):(s.inc n).ZP (s'.inc n):=
 ⟨λm=>by unfold LS.inc;dsimp only;rw[Xj,Xj,h.c,h.cc],h.i,h.t⟩
theorem LS.ZP.K8(nm:ByteArray):∀(vs:List ByteArray) {s s':LS},s.ZP s'->(s.K8 nm vs).1=(s'.K8 nm vs).1/\(s.K8 nm vs).2.ZP (s'.K8 nm vs).2
 |[],s,s',h=>⟨rfl,h⟩
 |v::r,s,s',h=>by
  rw[LS.K8,LS.K8,h.i];split
  ·exact⟨rfl,h⟩
  ·exact LS.ZP.K8 nm r (h.inc v)
theorem XC(nm:ByteArray):∀(vs:List ByteArray) {s:LS},s.Ok->(s.K8 nm vs).2.Ok
 |[],s,h=>h
 |v::r,s,h=>by
  rw[LS.K8];split
  ·exact h
  ·exact XC nm r (LS.Qp h v).1
theorem LS.ZP.Xq{s s':LS}(h:s.ZP s')(nm:ByteArray)(vs:List ByteArray):(s.Xq nm vs).1=(s'.Xq nm vs).1/\(s.Xq nm vs).2.ZP (s'.Xq nm vs).2:=by
 obtain⟨f,g⟩:=LS.ZP.K8 nm vs h;unfold LS.Xq;rw[f];split
 ·exact⟨f,g⟩
 ·exact g.use nm
theorem Px{s:LS}(h:s.Ok)(nm:ByteArray)(vs:List ByteArray):(s.Xq nm vs).2.Ok:=by
 unfold LS.Xq;split
 ·exact XC nm vs h
 ·exact Qb (XC nm vs h) nm
theorem LS.ZP.U1(nm:ByteArray):∀(vs:List ByteArray) {s s':LS},s.ZP s'->(s.U1 nm vs).1=(s'.U1 nm vs).1/\(s.U1 nm vs).2.ZP (s'.U1 nm vs).2
 |[],s,s',h=>⟨rfl,h⟩
 |v::r,s,s',h=>by
  rw[LS.U1,LS.U1,h.c];split
  ·exact⟨rfl,h⟩
  ·exact LS.ZP.U1 nm r ⟨λm=>by dsimp only;rw[Xj,Xj,h.c],λm=>by dsimp only;rw[Xj,Xj,h.i],h.t⟩
theorem LS.ZP.there{s s':LS}(h:s.ZP s')(n:ByteArray):s.there n=s'.there n:=by
 unfold LS.there;rw[h.cc,h.i];cases J3 s'.inn n with
 |none=>rfl
 |some up=>dsimp only;rw[h.cc]
theorem LS.ZP.fst{s s':LS}(h:s.ZP s')(t:Tm):(s.fst t).ZP (s'.fst t):=by
 unfold LS.fst;refine⟨λn=>?_,h.i,λb=>?_⟩
 ·dsimp only;rw[Fv (λ_ k=>Mk k),Fv (λ_ k=>Mk k),Zq,Zq,h.c]
 ·dsimp only;rw[Zq,Zq,h.t]
theorem LS.ZP.Nz{s s':LS}(h:s.ZP s')(t:Tm)(a:ByteArray):({ s.Nz t with ct:=Jz (s.Nz t).ct a 1 }:LS).ZP { s'.Nz t with ct:=Jz (s'.Nz t).ct a 1 }:=by
 unfold LS.Nz;refine⟨λn=>?_,h.i,λb=>?_⟩
 ·dsimp only;rw[Xj,Xj,Fv (λk v=>if t.P5 k then v-Mk v else v),Fv (λk v=>if t.P5 k then v-Mk v else v),h.c]
 ·dsimp only;rw[Zq (λk=>!t.Tz k),Zq (λk=>!t.Tz k),h.t]
theorem QJ:∀(N:Nat) (t:Tm),t.sz<=N->∀s s':LS,s.Ok->s'.Ok->s.ZP s'->t.Y0 s=0->t.Y0 s'=0:=by
 intro N;induction N with
 |zero=>intro t h;have:=t.P8;omega
 |succ N P=>
  intro t hN s s' l f j h;obtain⟨k,n,a,b,vs,xs,cs⟩:=t;rw[Tm.sz]at hN;rcases XG h with rfl|rfl|U|rfl|rfl|rfl|U
  ·obtain⟨r,C⟩:=j.use a;rw[Qw4]at h⊢;rw[<-r,<-C.Qg (Qb l a) (Qb f a)];exact h
  ·rw[Qw2]at h⊢;rw[<-j.Qg l f];exact h
  ·obtain⟨r,C⟩:=LS.ZP.F6 xs j;rw[ZA U]at h⊢;rw[<-r,<-C.Qg (Zc xs l) (Zc xs f)];exact h
  ·obtain⟨r,C⟩:=Em h;have a1:({ s with tk:=Pk s.tk b }:LS).ZP { s' with tk:=Pk s'.tk b }:=⟨j.c,j.i,λd=>by dsimp only;rw[Zy,Zy,j.t]⟩
   obtain⟨h3,h4⟩:=LS.ZP.F6 xs a1;rw[Tm.Y0,if_neg oM,if_neg oM,if_neg oM,if_pos rfl,if_neg (by rw[<-j.t,r];simp)];rw[<-h3,<-h4.Qg (Zc xs (LS.I8 l (l.kt.filter _))) (Zc xs (LS.I8 f (f.kt.filter _)))];exact C
  ·obtain⟨x,y,rfl,r,C,h3⟩:=IA h;simp only[Tm.Xv]at hN;have a6:=x.P8;have a7:=y.P8;exact YV (by rw[<-j.c];exact r) (P x oM _ _ (LS.Qr l x) (LS.Qr f x) (j.fst x) C) (P y oM _ _ (LS.O3 (LS.Zi l x) a oM) (LS.O3 (LS.Zi f x) a oM) (j.Nz x a) h3)
  ·obtain⟨x,rfl,hx,r,C⟩:=Iu h;refine Uo hx (by rw[<-j.cc];exact r) λc hc=>?_
   obtain⟨tg,ws,y⟩:=c;obtain⟨g1,g2⟩:=XR (C _ hc);obtain⟨T,I⟩:=LS.ZP.U1 x.nm ws j;have a2:y.sz<=N:=by
    have:(Cs.mk tg ws y).sz<=Cs.Xv cs:=Cs.Z4 hc;rw[Cs.sz]at this;omega
   rw[Cs.Y0,if_neg (by rw[<-T];simpa using g1)];exact P y a2 _ _ (LS.Xe _ ws l g1).1 (LS.Xe _ ws f (by rw[<-T];exact g1)).1 I g2
  ·obtain⟨x,rfl,p8,p9,a3,a4,a5⟩:=Ei U h;have o:x.sz<=N:=by
    simp only[Tm.Xv]at hN;omega
   rw[Tm.Y0,if_neg oM,if_neg oM,if_neg oM,if_neg oM,if_neg oM,if_neg oM,if_pos U,if_neg (by simp)];rcases U with rfl|rfl|rfl|rfl|rfl
   ·obtain⟨J,g⟩:=p8 rfl;rw[if_pos rfl,if_pos (by rw[<-j.there];exact J)];exact V3 (P x o _ _ (LS.Qp l a).1 (LS.Qp f a).1 (j.inc a) g)
   ·obtain⟨J,g⟩:=p9 rfl;obtain⟨T,I⟩:=j.use a;rw[if_neg oM,if_pos rfl,if_neg (by rw[<-T];simpa using J)];exact V3 (P x o _ _ (Qb l a) (Qb f a) I g)
   ·obtain⟨J,g⟩:=a4 rfl;obtain⟨T,I⟩:=j.Xq a vs;rw[if_neg oM,if_neg oM,if_neg oM,if_neg (by rw[<-T];simpa using J),if_neg oM];exact V3 (P x o _ _ (Px l a vs) (Px f a vs) I g)
   ·obtain⟨J,gn,gb,g⟩:=a5 rfl;obtain⟨T,I⟩:=j.Xq a vs;rw[if_neg oM,if_neg oM,if_neg oM,if_neg (by rw[<-T];simpa using J),if_pos rfl,if_neg (by rw[<-j.t,gn];simp[gb])];refine V3 (P x o _ _ (LS.I8 (Px l a vs) ((Px l a vs).kt.put _ _)) (LS.I8 (Px f a vs) ((Px f a vs).kt.put _ _)) ⟨I.c,I.i,λd=>?_⟩ g);dsimp only;rw[Xj,Xj,I.t]
   ·obtain⟨J,g⟩:=a3 rfl;rw[if_neg oM,if_neg oM,if_pos rfl,if_pos (by rw[<-j.t];exact J)];exact V3 (P x o _ _ (LS.I8 l (l.kt.filter _)) (LS.I8 f (f.kt.filter _)) ⟨j.c,j.i,λd=>(show J3 (Pk s.tk b) d=J3 (Pk s'.tk b) d by rw[Zy,Zy,j.t])⟩ g)
end
section
open Classical Go.RowKit
mutual
def Tm.S1:Tm->Prop
 | .mk k n a b vs xs cs=>(k=8\/k=9\/k=10->(∃x,xs=[x])/\cs=[])/\Tm.FD xs/\Cs.FD cs
def Tm.FD:List Tm->Prop
 |[]=>True
 |x::r=>x.S1/\Tm.FD r
def Cs.FD:List Cs->Prop
 |[]=>True
 |c::r=>c.S1/\Cs.FD r
def Cs.S1:Cs->Prop
 | .mk t ws y=>y.S1
end
theorem Ow:∀{l:List Tm},Tm.FD l<->∀x∈l,x.S1
 |[]=>by simp[Tm.FD]
 |x::r=>by simp[Tm.FD,Ow (l:=r)]
theorem F5:∀{l:List Cs},Cs.FD l<->∀x∈l,x.S1
 |[]=>by simp[Cs.FD]
 |x::r=>by simp[Cs.FD,F5 (l:=r)]
theorem WB:∀(N:Nat) (t:Tm) (f:List ByteArray),t.sz<=N->t.S1->∃used,(t.sr f).2.S1/\(∀n∈used,n∈f)/\(t.sr f).1=Rv f used/\(f.Nodup->used.Nodup)/\t.Ux=used++(t.sr f).2.Ux/\t.J9=(t.sr f).2.J9/\t.Uk=(t.sr f).2.Uk/\
  ∀s:LS,s.Ok->t.Y0 s=0->∃s',s'.Ok/\(∀m,s'.c m=s.c m+M4 used m)/\s'.tk=s.tk/\s'.inn=s.inn/\(∀m,(J3 s'.ct m).isSome=((J3 s.ct m).isSome||decide (m∈used)))/\(t.sr f).2.Y0 s'=0:=by
 intro N;induction N with
 |zero=>intro t _ h;have:=t.P8;omega
 |succ N T=>
  intro t f J j;obtain⟨k,n,a,b,vs,xs,cs⟩:=t;rw[Tm.sr];by_cases i:k=8/\hasB f a=true
  ·rw[if_pos i];obtain⟨⟨x,rfl⟩,rfl⟩:=j.1 (.inl i.1);obtain⟨rfl,l⟩:=i;have l:=X9.1 l;rw[Tm.Bl];have o:x.sz<=N:=by
    rw[Tm.sz]at J;simp only[Tm.Xv]at J;omega
   obtain⟨used,U,P,u3,u4,u5,u6,u7,u8⟩:=T x (Rv f [a]) o j.2.1.1;have r:a ∉ used:=λh=>(J8.1 (P a h)).2 (by simp)
   refine⟨a::used,U,λm C=>?_,?_,λhn=>?_,?_,?_,?_,λs I h=>?_⟩
   ·rcases List.mem_cons.1 C with rfl|C
    ·exact l
    ·exact(J8.1 (P m C)).1
   ·rw[u3];unfold Rv;rw[List.filter_filter];refine List.filter_congr λm _=>?_
    rw[Bool.eq_iff_iff];simp[Av,and_comm,not_or]
   ·rw[List.nodup_cons];exact⟨r,u4 (hn.sublist List.filter_sublist)⟩
   ·rw[Tm.Ux,if_pos oM,Tm.Y6,Tm.Y6,Cs.Y6,u5];simp
   ·rw[Tm.J9,if_neg oM,if_neg oM,Tm.Y7,Tm.Y7,Cs.Y7,u6];simp
   ·rw[Tm.Uk,if_neg oM,Tm.Yq,Tm.Yq,Cs.Yq,u7];simp
   ·obtain⟨x',e,p8,-⟩:=Ei oM h;injection e with e _;subst e;obtain⟨-,g⟩:=p8 rfl;obtain⟨q1,q2⟩:=LS.Qp I a;obtain⟨s',r1,r2,r3,r4,r5,r6⟩:=u8 _ q1 g;refine⟨s',r1,λm=>?_,r3,r4,λm=>?_,r6⟩
    ·rw[r2,q2,R3];split<;> omega
    ·rw[r5];unfold LS.inc;dsimp only;rw[Xj];by_cases e:a=m
     ·subst e;simp
     ·rw[if_neg e];have e':m≠a:=λh=>e h.symm
      simp[e']
  ·rw[if_neg i];refine⟨[],j,by simp,?_,λ_=>List.nodup_nil,rfl,rfl,rfl,λs I h=>⟨s,I,λm=>by simp[M4],rfl,rfl,λm=>by simp,h⟩⟩;unfold Rv;exact(List.filter_eq_self.2 λm _=>by simp[hasB]).symm
theorem Ui(nm:ByteArray):∀(ws:List ByteArray) {s:LS},(s.U1 nm ws).1=0->ws.Nodup/\∀v∈ws,J3 s.ct v=none
 |[],s,_=>⟨List.nodup_nil,by simp⟩
 |v::r,s,h=>by
  rw[LS.U1]at h;by_cases f:(J3 s.ct v).isSome=true
  ·rw[if_pos f]at h;simp at h
  ·rw[if_neg f]at h;obtain⟨j,i⟩:=Ui nm r h;have l:J3 s.ct v=none:=by simpa using f
   refine⟨List.nodup_cons.2 ⟨λo=>?_,j⟩,λu g=>?_⟩
   ·have:=i v o;dsimp only at this;rw[Xj,if_pos rfl]at this;simp at this
   ·rcases List.mem_cons.1 g with rfl|g
    ·exact l
    ·have:=i u g;dsimp only at this;rw[Xj]at this;split at this
     ·simp at this
     ·exact this
theorem SK(nm:ByteArray):∀(vs:List ByteArray) {s:LS},(∀v∈vs,J3 s.inn v=some nm)->(s.K8 nm vs).1=0/\∀m,(J3 (s.K8 nm vs).2.ct m).isSome=((J3 s.ct m).isSome||decide (m∈vs))
 |[],s,_=>⟨rfl,λm=>by simp[LS.K8]⟩
 |v::r,s,h=>by
  obtain⟨f,g⟩:=SK nm r (s:=s.inc v) λu i=>h u (by simp[i])
  rw[LS.K8,if_neg (by rw[h v (by simp)];simp)];refine⟨f,λm=>?_⟩;rw[g];unfold LS.inc;dsimp only;rw[Xj];by_cases e:v=m
  ·subst e;simp
  ·rw[if_neg e];have j:m≠v:=λh=>e h.symm
   simp[j]
theorem Dp{n:Int}{a b:ByteArray}{vs:List ByteArray}{x:Tm}{cs:List Cs}{s:LS}(h:(s.Xq a vs).1=0)(f:x.Y0 (s.Xq a vs).2=0):(Tm.mk 10 n a b vs [x] cs).Y0 s=0:=by
 rw[Tm.Y0,if_neg oM,if_neg oM,if_neg oM,if_neg oM,if_neg oM,if_neg oM,if_pos oM,if_neg (by simp),if_neg oM,if_neg oM,if_neg oM,if_neg (by simpa using h),if_neg oM];exact V3 f
theorem Xz8{s s':LS}(i:∀n,s.c n=s'.c n)(l:∀n,(J3 s.ct n).isSome=(J3 s'.ct n).isSome)(o:s.inn=s'.inn)(r:s.tk=s'.tk):s.ZP s':=by
 refine⟨λn=>?_,λn=>by rw[o],λb=>by rw[r]⟩;have f:=i n;have g:=l n;unfold LS.c at f;cases h3:J3 s.ct n with
 |none=>
  cases h4:J3 s'.ct n with
  |none=>rfl
  |some k=>rw[h3,h4]at g;simp at g
 |some j=>
  cases h4:J3 s'.ct n with
  |none=>rw[h3,h4]at g;simp at g
  |some k=>rw[h3,h4]at f;simp at f;rw[f]
theorem IQ{nm:ByteArray}{ws:List ByteArray}{y:Tm}(hS:y.S1){s:LS}(hs:s.Ok)(r:ws.Nodup)(hi:∀v∈ws,J3 s.inn v=some nm)(hc:∀v∈ws,s.c v=0)(P:∀v∈ws,(J3 s.ct v).isSome=true)(t:nm ∉ ws)(h:y.Y0 s=0):(Rq 7 1 nm ws y).Y0 s=0:=by
 unfold Rq;split
 ·rename_i j;obtain⟨-,-,-,h9,C⟩:=j;obtain⟨used,u1,T,u3,u4,-,-,-,u8⟩:=WB y.sz y ws (Nat.le_refl _) hS;obtain⟨s1,o1,c1,t1,i1,k1,l1⟩:=u8 s hs h;generalize(y.sr ws).2=z at *;rw[u3];obtain⟨k,n,a,b,vs,xs,cs⟩:=z;rw[Tm.tk]at h9;rw[Tm.nm]at C;subst h9 C;obtain⟨⟨x,rfl⟩,rfl⟩:=u1.1 (.inr (.inl rfl));have U:(Tm.mk 9 n a b vs [x] []).a0=x:=rfl;rw[U];obtain⟨x',e,-,p9,-⟩:=Ei oM l1;injection e with e _;subst e;obtain⟨g0,g⟩:=p9 rfl;obtain⟨q1,q2,q3,q4,q5,q6⟩:=LS.D5 o1 g0;have I:a ∉ used:=λhm=>t (T a hm)
  have J:=u4 r;have a1:1<=s.c a:=by
   have:=c1 a;rw[E8 J,if_neg I]at this;omega
  obtain⟨r1,r2⟩:=SK a ws (s:=s) hi;obtain⟨v1,v2,v3,v4⟩:=LS.Ho a ws hs r1;have hu:((s.K8 a ws).2.Vz a).1=0:=Wh (by rw[v2,E8 r,if_neg t];omega);obtain⟨w1,w2,w3,w4,w5,-⟩:=LS.D5 v1 hu;have he:s.Xq a ws=(s.K8 a ws).2.Vz a:=by unfold LS.Xq;rw[if_neg (by simpa using r1)]
  refine Dp (by rw[he];exact hu) ?_;rw[he];obtain⟨s2,o2,c2,t2,i2,k2,step⟩:=UJ (Rv ws used) x w1 (r.sublist List.filter_sublist) λm hm=>by
   have l:=(J8.1 hm).1;rw[w2,v2,E8 r,if_pos l,hc m l,if_neg (λe=>t (by rw[e];exact l))];omega
  refine step (QJ x.sz x (Nat.le_refl _) _ _ q1 o2 (Xz8 (λm=>?_) (λm=>?_) ?_ ?_) g)
  ·rw[q2,c1,c2,w2,v2,E8 J,E8 r];by_cases e:a=m
   ·subst e;rw[if_pos rfl,if_neg I,if_neg (λi=>t (J8.1 i).1),if_pos rfl,if_neg t]
   ·rw[if_neg e,if_neg e];by_cases f:m∈ws
    ·by_cases o:m∈used
     ·rw[if_pos o,if_neg (λi=>(J8.1 i).2 o),if_pos f]
     ·rw[if_neg o,if_pos (J8.2 ⟨f,o⟩),if_pos f];omega
    ·rw[if_neg (λi=>f (T m i)),if_neg (λi=>f (J8.1 i).1),if_neg f]
  ·rw[q5,k1,k2,w5,r2];by_cases f:m∈ws
   ·rw[P m f];rfl
   ·have o:m ∉ used:=λi=>f (T m i)
    simp[f,o]
  ·rw[q4,i1,i2,w4,v4]
  ·rw[q3,t1,t2,w3,v3]
 ·exact h
theorem Tm.BZ(t:Tm):t.fu.tk=t.tk:=by
 obtain⟨k,n,a,b,vs,xs,cs⟩:=t;rw[Tm.fu];rfl
theorem MG:∀(xs:List Tm) (s:LS),s.F6 (Tm.I9 xs)=s.F6 xs
 |[],s=>rfl
 |x::r,s=>by
  rw[Tm.I9,LS.F6,LS.F6,Tm.BZ,Tm.Aa,MG r]
theorem Vh:∀xs:List Tm,(Tm.I9 xs).length=xs.length
 |[]=>rfl
 |x::r=>by rw[Tm.I9,List.length_cons,List.length_cons,Vh r]
theorem Zq3{k:Int}:∀(l:List ByteArray) {t:Tm},t.S1->(cnt k l t).S1
 |[],_,h=>h
 |s::r,t,h=>⟨λ_=>⟨⟨_,rfl⟩,rfl⟩,⟨Zq3 r h,trivial⟩,trivial⟩
theorem Qg5{k:Int}{na:Nat}{nm:ByteArray}{ws:List ByteArray}{y:Tm}(l:y.S1):(Rq k na nm ws y).S1/\(∀n,n∈(Rq k na nm ws y).Ux->n∈y.Ux\/n∈ws)/\(∀n,n∈y.Ux->n∈(Rq k na nm ws y).Ux\/n∈ws)/\(Rq k na nm ws y).J9=y.J9/\(Rq k na nm ws y).Uk=y.Uk:=by
 unfold Rq;split
 ·rename_i f;obtain⟨-,-,-,o,i⟩:=f;obtain⟨used,r,I,J,u4,P,T,U,-⟩:=WB y.sz y ws (Nat.le_refl _) l;generalize(y.sr ws).2=z at *;rw[J,P,T,U];obtain⟨k,n,a,b,vs,xs,cs⟩:=z;rw[Tm.tk]at o;rw[Tm.nm]at i;subst o i;obtain⟨⟨x,rfl⟩,rfl⟩:=r.1 (.inr (.inl rfl));have j:(Tm.mk 9 n a b vs [x] []).a0=x:=rfl;rw[j];have t:(Tm.mk 10 0 a .empty ws [cnt 9 (Rv ws used) x] []).Ux=a::(Rv ws used++x.Ux):=by
   rw[Tm.Ux,if_pos oM,Tm.Y6,Tm.Y6,Cs.Y6,Ov (.inr rfl)];simp
  have C:(Tm.mk 9 n a b vs [x] []).Ux=a::x.Ux:=by
   rw[Tm.Ux,if_pos oM,Tm.Y6,Tm.Y6,Cs.Y6];simp
  refine⟨⟨λ_=>⟨⟨_,rfl⟩,rfl⟩,⟨Zq3 _ r.2.1.1,trivial⟩,trivial⟩,λm g=>?_,λm g=>?_,?_,?_⟩
  ·rw[t]at g;rw[C];simp only[List.mem_cons,List.mem_append]at g⊢;rcases g with h|h|h
   ·exact .inl (.inr (.inl h))
   ·exact .inr (J8.1 h).1
   ·exact .inl (.inr (.inr h))
  ·rw[C]at g;rw[t];simp only[List.mem_cons,List.mem_append]at g⊢;rcases g with h|h|h
   ·exact .inr (I m h)
   ·exact .inl (.inl h)
   ·exact .inl (.inr (.inr h))
  ·rw[Tm.J9,Tm.J9,if_neg oM,if_neg oM,if_neg oM,if_neg oM,Tm.Y7,Tm.Y7,Tm.Y7,Tm.Y7,Tv (.inr rfl)]
  ·rw[Tm.Uk,Tm.Uk,if_neg oM,if_neg oM,Tm.Yq,Tm.Yq,Tm.Yq,Tm.Yq,Oj (.inr rfl)]
 ·exact⟨l,λn h=>.inl h,λn h=>.inl h,rfl,rfl⟩
theorem DL:∀(N:Nat) (t:Tm),t.sz<=N->t.S1->t.fu.S1/\(∀n,n∈t.fu.Ux->n∈t.Ux\/n∈t.J9)/\(∀n,n∈t.Ux->n∈t.fu.Ux\/n∈t.J9)/\t.fu.J9=t.J9/\t.fu.Uk=t.Uk:=by
 intro N;induction N with
 |zero=>intro t h;have:=t.P8;omega
 |succ N ih=>
  intro t hN hS;obtain⟨k,n,a,b,vs,xs,cs⟩:=t;obtain⟨h1,h2,h3⟩:=hS;rw[Tm.sz]at hN;have hX:∀l:List Tm,(∀x∈l,x∈xs)->Tm.FD (Tm.I9 l)/\(∀n,n∈Tm.Y6 (Tm.I9 l)->n∈Tm.Y6 l\/n∈Tm.Y7 l)/\(∀n,n∈Tm.Y6 l->n∈Tm.Y6 (Tm.I9 l)\/n∈Tm.Y7 l)/\Tm.Y7 (Tm.I9 l)=Tm.Y7 l/\Tm.Yq (Tm.I9 l)=Tm.Yq l:=by
   intro l;induction l with
   |nil=>intro _;exact⟨trivial,by simp[Tm.I9,Tm.Y6],by simp[Tm.Y6],rfl,rfl⟩
   |cons x r f=>
    intro g;have hx:=g x (by simp);obtain⟨i,j,o,C,I⟩:=ih x (by have:=Tm.Z4 hx;omega) (Ow.1 h2 x hx);obtain⟨J,P,T,U,b5⟩:=f λz hz=>g z (by simp[hz])
    refine⟨⟨i,J⟩,λm h=>?_,λm h=>?_,by rw[Tm.I9,Tm.Y7,Tm.Y7,C,U],by rw[Tm.I9,Tm.Yq,Tm.Yq,I,b5]⟩
    ·rw[Tm.I9,Tm.Y6,List.mem_append]at h;rw[Tm.Y6,Tm.Y7,List.mem_append,List.mem_append];rcases h with h|h
     ·exact(j m h).elim (λh=>.inl (.inl h)) λh=>.inr (.inl h)
     ·exact(P m h).elim (λh=>.inl (.inr h)) λh=>.inr (.inr h)
    ·rw[Tm.Y6,List.mem_append]at h;rw[Tm.I9,Tm.Y6,Tm.Y7,List.mem_append,List.mem_append];rcases h with h|h
     ·exact(o m h).elim (λh=>.inl (.inl h)) λh=>.inr (.inl h)
     ·exact(T m h).elim (λh=>.inl (.inr h)) λh=>.inr (.inr h)
  have hC:∀l:List Cs,(∀x∈l,x∈cs)->Cs.FD (Cs.I9 k xs.length (Xn xs) l)/\(∀n,n∈Cs.Y6 (Cs.I9 k xs.length (Xn xs) l)->n∈Cs.Y6 l\/n∈Cs.Y7 l)/\(∀n,n∈Cs.Y6 l->n∈Cs.Y6 (Cs.I9 k xs.length (Xn xs) l)\/n∈Cs.Y7 l)/\Cs.Y7 (Cs.I9 k xs.length (Xn xs) l)=Cs.Y7 l/\Cs.Yq (Cs.I9 k xs.length (Xn xs) l)=Cs.Yq l:=by
   intro l;induction l with
   |nil=>intro _;exact⟨trivial,by simp[Cs.I9,Cs.Y6],by simp[Cs.Y6],rfl,rfl⟩
   |cons c r f=>
    intro g;have hc:=g c (by simp);obtain⟨J,P,T,U,b5⟩:=f λz hz=>g z (by simp[hz])
    obtain⟨t,ws,y⟩:=c;have a6:(Cs.mk t ws y).sz<=Cs.Xv cs:=Cs.Z4 hc;rw[Cs.sz]at a6;obtain⟨i,j,o,C,I⟩:=ih y oM (F5.1 h3 _ hc);obtain⟨c1,c2,c3,c4,c5⟩:=Qg5 (k:=k) (na:=xs.length) (nm:=Xn xs) (ws:=ws) i;have e:(Cs.mk t ws y).fu k xs.length (Xn xs)= .mk t ws (Rq k xs.length (Xn xs) ws y.fu):=by rw[Cs.fu]
    refine⟨⟨by rw[e];exact c1,J⟩,λm h=>?_,λm h=>?_,by rw[Cs.I9,Cs.Y7,Cs.Y7,e,U,Cs.J9,Cs.J9,c4,C],by rw[Cs.I9,Cs.Yq,Cs.Yq,e,b5,Cs.Uk,Cs.Uk,c5,I]⟩
    ·rw[Cs.I9,Cs.Y6,List.mem_append,e,Cs.Ux]at h;rw[Cs.Y6,Cs.Y7,List.mem_append,List.mem_append,Cs.Ux,Cs.J9,List.mem_append];rcases h with h|h
     ·rcases c2 m h with h|h
      ·exact(j m h).elim (λh=>.inl (.inl h)) λh=>.inr (.inl (.inr h))
      ·exact .inr (.inl (.inl h))
     ·exact(P m h).elim (λh=>.inl (.inr h)) λh=>.inr (.inr h)
    ·rw[Cs.Y6,List.mem_append,Cs.Ux]at h;rw[Cs.I9,Cs.Y6,Cs.Y7,List.mem_append,List.mem_append,e,Cs.Ux,Cs.J9,List.mem_append];rcases h with h|h
     ·rcases o m h with h|h
      ·rcases c3 m h with h|h
       ·exact .inl (.inl h)
       ·exact .inr (.inl (.inl h))
      ·exact .inr (.inl (.inr h))
     ·exact(T m h).elim (λh=>.inl (.inr h)) λh=>.inr (.inr h)
  obtain⟨x1,x2,x3,x4,x5⟩:=hX xs λ_ h=>h
  obtain⟨c1,c2,c3,c4,c5⟩:=hC cs λ_ h=>h
  rw[Tm.fu];refine⟨⟨λhk=>?_,x1,c1⟩,λm h=>?_,λm h=>?_,by rw[Tm.J9,Tm.J9,x4,c4],by rw[Tm.Uk,Tm.Uk,x5,c5]⟩
  ·obtain⟨⟨x,rfl⟩,rfl⟩:=h1 hk;exact⟨⟨_,rfl⟩,rfl⟩
  ·rw[Tm.Ux,List.mem_append,List.mem_append]at h;rw[Tm.Ux,Tm.J9,List.mem_append,List.mem_append,List.mem_append,List.mem_append,List.mem_append];rcases h with h|h|h
   ·exact .inl (.inl h)
   ·exact(x2 m h).elim (λh=>.inl (.inr (.inl h))) λh=>.inr (.inr (.inr (.inl h)))
   ·exact(c2 m h).elim (λh=>.inl (.inr (.inr h))) λh=>.inr (.inr (.inr (.inr h)))
  ·rw[Tm.Ux,List.mem_append,List.mem_append]at h;rw[Tm.Ux,Tm.J9,List.mem_append,List.mem_append,List.mem_append,List.mem_append,List.mem_append];rcases h with h|h|h
   ·exact .inl (.inl h)
   ·exact(x3 m h).elim (λh=>.inl (.inr (.inl h))) λh=>.inr (.inr (.inr (.inl h)))
   ·exact(c3 m h).elim (λh=>.inl (.inr (.inr h))) λh=>.inr (.inr (.inr (.inr h)))
theorem Xg5{t:Tm}(j:t.S1):t.fu.P5=t.P5/\t.fu.Tz=t.Tz:=by
 obtain⟨-,l,o,i,r⟩:=DL t.sz t (Nat.le_refl _) j;refine⟨funext λn=>?_,funext λb=>?_⟩
 ·unfold Tm.P5;rw[i,Bool.eq_iff_iff,Bool.and_eq_true,Bool.and_eq_true,X9,X9];constructor
  ·rintro⟨h,f⟩;refine⟨(l n h).resolve_right λg=>?_,f⟩;rw[X9.2 g]at f;simp at f
  ·rintro⟨h,f⟩;refine⟨(o n h).resolve_right λg=>?_,f⟩;rw[X9.2 g]at f;simp at f
 ·unfold Tm.Tz;rw[i,r]
theorem Xg4:∀(N:Nat) (t:Tm),t.sz<=N->t.S1->∀s:LS,s.Ok->t.Y0 s=0->t.fu.Y0 s=0:=by
 intro N;induction N with
 |zero=>intro t h;have:=t.P8;omega
 |succ N o=>
  intro t hN hS s j h;obtain⟨k,n,a,b,vs,xs,cs⟩:=t;obtain⟨s1,U,s3⟩:=hS;rw[Tm.sz]at hN;rw[Tm.fu];rcases XG h with rfl|rfl|I|rfl|rfl|rfl|I
  ·rw[Qw4]at h⊢;exact h
  ·rw[Qw2]at h⊢;exact h
  ·rw[ZA I]at h⊢;rw[MG];exact h
  ·obtain⟨r,J⟩:=Em h;rw[Tm.Y0,if_neg oM,if_neg oM,if_neg oM,if_pos rfl,Vh,if_neg (by rw[r];simp),MG];exact J
  ·obtain⟨x,y,rfl,r,J,h3⟩:=IA h;simp only[Tm.Xv]at hN;have a7:=x.P8;have a8:=y.P8;obtain⟨e1,e2⟩:=Xg5 U.1;have e3:∀s:LS,s.fst x.fu=s.fst x:=λs=>by unfold LS.fst;rw[e1,e2]
   have e4:∀s:LS,s.Nz x.fu=s.Nz x:=λs=>by unfold LS.Nz;rw[e1,e2]
   refine YV r ?_ ?_
   ·rw[e3];exact o x oM U.1 _ (LS.Qr j x) J
   ·rw[e4];exact o y oM U.2.1 _ (LS.O3 (LS.Zi j x) a oM) h3
  ·obtain⟨x,rfl,hx,r,J⟩:=Iu h;have e:Xn [x]=x.nm:=rfl;rw[Cs.Aw,e];refine Uo (by rw[Tm.BZ];exact hx) (by rw[Tm.Aa];exact r) λc hc=>?_
   obtain⟨c0,C,rfl⟩:=List.mem_map.1 hc;obtain⟨tg,ws,y⟩:=c0;obtain⟨g1,g2⟩:=XR (J _ C);obtain⟨n1,n2⟩:=Ui x.nm ws g1;obtain⟨-,m2,m3⟩:=Uh x.nm ws (s:=s) n1 n2;obtain⟨q1,q2,q3⟩:=LS.Xe _ ws j g1;have a1:y.sz<=N:=by
    have:(Cs.mk tg ws y).sz<=Cs.Xv cs:=Cs.Z4 C;rw[Cs.sz]at this;omega
   have P:y.S1:=F5.1 s3 _ C;have a2:=o y a1 P _ q1 g2;rw[Cs.fu,Cs.Y0,Tm.Aa,if_neg (by simpa using g1)];have a3:x.nm ∉ ws:=λhm=>by
    have:=n2 _ hm;unfold LS.c at r;rw[this]at r;simp at r
   refine IQ (DL y.sz y (Nat.le_refl _) P).1 q1 n1 (λv T=>by rw[m3,if_pos T]) (λv T=>?_) (λv T=>by rw[m2];simp[T]) a3 a2;rw[q2];unfold LS.c;rw[n2 v T];rfl
  ·obtain⟨x,rfl,p8,p9,a4,a5,a6⟩:=Ei I h;have f:x.sz<=N:=by
    simp only[Tm.Xv]at hN;omega
   have i:=U.1;rw[Tm.I9,Tm.I9,Tm.Y0,if_neg oM,if_neg oM,if_neg oM,if_neg oM,if_neg oM,if_neg oM,if_pos I,if_neg (by simp)];rcases I with rfl|rfl|rfl|rfl|rfl
   ·obtain⟨l,g⟩:=p8 rfl;rw[if_pos rfl,if_pos l];exact V3 (o x f i _ (LS.Qp j a).1 g)
   ·obtain⟨l,g⟩:=p9 rfl;rw[if_neg oM,if_pos rfl,if_neg (by simpa using l)];exact V3 (o x f i _ (Qb j a) g)
   ·obtain⟨l,g⟩:=a5 rfl;rw[if_neg oM,if_neg oM,if_neg oM,if_neg (by simpa using l),if_neg oM];exact V3 (o x f i _ (Px j a vs) g)
   ·obtain⟨l,gn,gb,g⟩:=a6 rfl;rw[if_neg oM,if_neg oM,if_neg oM,if_neg (by simpa using l),if_pos rfl,if_neg (by rw[gn];simp[gb])];exact V3 (o x f i _ (LS.I8 (Px j a vs) ((Px j a vs).kt.put _ _)) g)
   ·obtain⟨l,g⟩:=a4 rfl;rw[if_neg oM,if_neg oM,if_pos rfl,if_pos l];exact V3 (o x f i _ (LS.I8 j (j.kt.filter _)) g)
def JK(c:Int):ByteArray:=⟨#[107]⟩++Mv c
mutual
def Tm.fits(m:Nat):Tm->Bool
 | .mk k n a b vs xs cs=>if k=3 then decide (xs.length=m)else if k=6 then Tm.Jk1 m xs else if k=7 then Cs.Zg2 m cs else if 8<=k/\k≠12 then Tm.PZ m xs else false
def Tm.Jk1(m:Nat):List Tm->Bool
 |[]=>false
 |x::r=>(decide (x.tk=3) && decide (x.xs.length=m))||Tm.PZ m r
def Tm.PZ(m:Nat):List Tm->Bool
 |[]=>false
 |x::_=>x.fits m
def Cs.Zg2(m:Nat):List Cs->Bool
 |[]=>false
 |c::r=>c.fits m||Cs.Zg2 m r
def Cs.fits(m:Nat):Cs->Bool
 | .mk t ws y=>y.fits m
end
mutual
def Tm.put(tok:ByteArray)(m:Nat):Tm->Tm
 | .mk k n a b vs xs cs=>
  if (Tm.mk k n a b vs xs cs).fits m=false then .mk 13 0 .empty tok [] [.mk k n a b vs xs cs] []
  else if k=3 then .mk 12 n a tok vs xs cs
  else if k=6 then .mk k n a b vs (Tm.Qd tok m xs) cs
  else if k=7 then .mk k n a b vs xs (Cs.Jz tok m cs)
  else .mk k n a b vs (Tm.H8 tok m xs) cs
def Tm.Qd(tok:ByteArray)(m:Nat):List Tm->List Tm
 |[]=>[]
 |x::r=>if x.tk=3/\x.xs.length=m then x.put tok m::r else x::Tm.H8 tok m r
def Tm.H8(tok:ByteArray)(m:Nat):List Tm->List Tm
 |[]=>[]
 |x::r=>x.put tok m::r
def Cs.Jz(tok:ByteArray)(m:Nat):List Cs->List Cs
 |[]=>[]
 |c::r=>c.put tok m::Cs.Jz tok m r
def Cs.put(tok:ByteArray)(m:Nat):Cs->Cs
 | .mk t ws y=>.mk t ws (y.put tok m)
end
theorem Xb(tok:ByteArray)(m:Nat):∀l:List Cs,Cs.Jz tok m l=l.map (Cs.put tok m)
 |[]=>rfl
 |c::r=>by rw[Cs.Jz,Xb tok m r];rfl
mutual
def Tm.NH:Tm->Prop
 | .mk k n a b vs xs cs=>k≠11/\Tm.FZ xs/\Cs.FZ cs
def Tm.FZ:List Tm->Prop
 |[]=>True
 |x::r=>x.NH/\Tm.FZ r
def Cs.FZ:List Cs->Prop
 |[]=>True
 |c::r=>c.NH/\Cs.FZ r
def Cs.NH:Cs->Prop
 | .mk t ws y=>y.NH
end
theorem Kg:∀{l:List Tm},Tm.FZ l<->∀x∈l,x.NH
 |[]=>by simp[Tm.FZ]
 |x::r=>by simp[Tm.FZ,Kg (l:=r)]
theorem I7:∀{l:List Cs},Cs.FZ l<->∀x∈l,x.NH
 |[]=>by simp[Cs.FZ]
 |x::r=>by simp[Cs.FZ,I7 (l:=r)]
theorem Xu{n:ByteArray}:∀{l:List Tm},n∈Tm.Yq l<->∃x∈l,n∈x.Uk
 |[]=>by simp[Tm.Yq]
 |x::r=>by simp[Tm.Yq,Xu (l:=r)]
theorem QW{n:ByteArray}:∀{l:List Cs},n∈Cs.Yq l<->∃x∈l,n∈x.Uk
 |[]=>by simp[Cs.Yq]
 |x::r=>by simp[Cs.Yq,QW (l:=r)]
abbrev LS.tok(s:LS)(b:ByteArray)(m:Nat):LS:={ s with tk:=Jz s.tk b (m:Int) }
theorem LS.Gy{s:LS}(h:s.Ok)(b:ByteArray)(m:Nat):(s.tok b m).Ok:=LS.I8 h (h.kt.put _ _)
theorem MH(s:LS)(T:List (ByteArray×Int))(n:ByteArray):({ s with tk:=T }:LS).Vz n=((s.Vz n).1,{ (s.Vz n).2 with tk:=T }):=by
 unfold LS.Vz;dsimp only;cases J3 s.ct n with
 |none=>rfl
 |some k=>
  dsimp only;split<;> rfl
theorem Xw5(s:LS)(T:List (ByteArray×Int))(n:ByteArray):({ s with tk:=T }:LS).inc n={ s.inc n with tk:=T }:=rfl
theorem SH(nm:ByteArray)(T:List (ByteArray×Int)):∀(vs:List ByteArray) (s:LS),({ s with tk:=T }:LS).K8 nm vs=((s.K8 nm vs).1,{ (s.K8 nm vs).2 with tk:=T })
 |[],s=>rfl
 |v::r,s=>by
  rw[LS.K8,LS.K8];dsimp only;split
  ·rfl
  ·rw[Xw5,SH nm T r (s.inc v)]
theorem SL(s:LS)(T:List (ByteArray×Int))(nm:ByteArray)(vs:List ByteArray):({ s with tk:=T }:LS).Xq nm vs=((s.Xq nm vs).1,{ (s.Xq nm vs).2 with tk:=T }):=by
 unfold LS.Xq;rw[SH];dsimp only;split
 ·rfl
 ·rw[MH]
theorem BR(nm:ByteArray)(T:List (ByteArray×Int)):∀(vs:List ByteArray) (s:LS),({ s with tk:=T }:LS).U1 nm vs=((s.U1 nm vs).1,{ (s.U1 nm vs).2 with tk:=T })
 |[],s=>rfl
 |v::r,s=>by
  rw[LS.U1,LS.U1];dsimp only;split
  ·rfl
  ·exact BR nm T r { s with ct:=Jz s.ct v 0,inn:=Jz s.inn v nm }
theorem Dn{n:Int}{a b:ByteArray}{vs:List ByteArray}{x:Tm}{cs:List Cs}{s:LS}(h:(J3 s.tk b).isSome=true)(f:x.Y0 { s with tk:=Pk s.tk b }=0):(Tm.mk 13 n a b vs [x] cs).Y0 s=0:=by
 rw[Tm.Y0,if_neg oM,if_neg oM,if_neg oM,if_neg oM,if_neg oM,if_neg oM,if_pos oM,if_neg (by simp),if_neg oM,if_neg oM,if_pos rfl,if_pos h];exact V3 f
theorem Ah{s:LS}{b:ByteArray}{m:Nat}(h:J3 s.tk b=none):({ s.tok b m with tk:=Pk (s.tok b m).tk b }:LS).ZP s:=
 ⟨λ_=>rfl,λ_=>rfl,λd=>by
  dsimp only;rw[Zy,Xj];by_cases e:b=d
  ·subst e;rw[if_pos rfl,h]
  ·rw[if_neg e,if_neg e]⟩
theorem Zk8(b:ByteArray)(m:Nat):∀(N:Nat) (t:Tm),t.sz<=N->t.NH->t.Sh->b ∉ t.Uk->∀s:LS,s.Ok->J3 s.tk b=none->t.Y0 s=0->(t.put b m).Y0 (s.tok b m)=0:=by
 intro N;induction N with
 |zero=>intro t h;have:=t.P8;omega
 |succ N ih=>
  intro t hN hH a1 hb s P hk h;obtain⟨k,n,a,b0,vs,xs,cs⟩:=t;obtain⟨b4,a9,c3⟩:=hH;have d4:=hN;rw[Tm.sz]at hN;have C:=LS.Gy P b m;rw[Tm.put];split
  ·refine Dn (by rw[Xj,if_pos rfl];rfl) ?_;exact QJ _ _ (Nat.le_refl _) _ _ P (LS.I8 C (C.kt.filter _)) ⟨λ_=>rfl,λ_=>rfl,λd=>((Ah (m:=m) hk).t d).symm⟩ h
  ·rename_i f;have f:(Tm.mk k n a b0 vs xs cs).fits m=true:=by simpa using f
   rw[Tm.fits]at f;split
   ·rename_i h3;subst h3;rw[if_pos rfl]at f;have hm:=of_decide_eq_true f;rw[ZA (.inl rfl)]at h;rw[Tm.Y0,if_neg oM,if_neg oM,if_neg oM,if_pos rfl,if_neg (by rw[Xj,if_pos rfl,hm];simp)];have b5:=Ah (m:=m) hk;obtain⟨e1,e2⟩:=LS.ZP.F6 xs b5;rw[e1,e2.Qg (Zc xs (LS.I8 C (C.kt.filter _))) (Zc xs P)];exact h
   ·rename_i h3;rw[if_neg h3]at f;split
    ·rename_i h6;subst h6;rw[if_pos rfl]at f;obtain⟨x,y,rfl,h1,h2,h4⟩:=IA h;simp only[Tm.Xv]at hN;have d5:=x.P8;have d6:=y.P8;have J:b ∉ x.Uk:=λhh=>hb (by rw[Tm.Uk];simp only[List.mem_append,Xu];exact .inr (.inl ⟨x,by simp,hh⟩))
     have b1:b ∉ y.Uk:=λhh=>hb (by rw[Tm.Uk];simp only[List.mem_append,Xu];exact .inr (.inl ⟨y,by simp,hh⟩))
     have a5:x.Tz b=false:=by unfold Tm.Tz;rw[Av.2 J];rfl
     have a2:=LS.Qr P x;have a3:=LS.O3 (LS.Zi P x) a (show(0:Int)<=1 by omega);have c4:J3 (s.fst x).tk b=none:=by unfold LS.fst;dsimp only;rw[Zq,a5];rfl
     have c5:J3 (s.Nz x).tk b=none:=by unfold LS.Nz;dsimp only;rw[Zq (λk=>!x.Tz k),a5,hk];rfl
     rw[Tm.Qd];split
     ·rename_i b2
      -- in the first term
      have I:=ih x oM a9.1 a1.2.2.2.1.1 J _ a2 c4 h2;have c6:x.fits m=true:=by
       obtain⟨xk,T,U,xb,j,i,o⟩:=x;obtain⟨e1,e2⟩:=b2;rw[Tm.tk]at e1;subst e1;rw[Tm.fits,if_pos rfl];exact decide_eq_true e2
      have b6:(x.put b m).P5=x.P5/\∀d,(x.put b m).Tz d=(x.Tz d||(decide (d=b) && !hasB x.J9 (excl b))):=by
       obtain⟨xk,T,U,xb,j,i,o⟩:=x;obtain⟨e1,e2⟩:=b2;rw[Tm.tk]at e1;subst e1;rw[Tm.put,if_neg (by rw[c6];simp),if_pos rfl];have o1:(Tm.mk 12 T U b j i o).J9=(Tm.mk 3 T U xb j i o).J9:=by rw[Tm.J9,Tm.J9];rfl
       have o2:(Tm.mk 12 T U b j i o).Ux=(Tm.mk 3 T U xb j i o).Ux:=by rw[Tm.Ux,Tm.Ux];rfl
       have o3:(Tm.mk 12 T U b j i o).Uk=b::(Tm.mk 3 T U xb j i o).Uk:=by rw[Tm.Uk,Tm.Uk];rfl
       refine⟨funext λd=>by unfold Tm.P5;rw[o1,o2],λd=>?_⟩;unfold Tm.Tz;rw[o1,o3];have:hasB (b::(Tm.mk 3 T U xb j i o).Uk) d=(decide (d=b)||hasB (Tm.mk 3 T U xb j i o).Uk d):=by
        rw[Bool.eq_iff_iff,X9,Bool.or_eq_true,X9];simp
       rw[this];by_cases e:d=b
       ·subst e;cases hasB (Tm.mk 3 T U xb j i o).Uk d<;> cases hasB (Tm.mk 3 T U xb j i o).J9 (excl d)<;> simp
       ·simp[e]
      obtain⟨q1,q2⟩:=b6;have b7:x.J9=[]:=by
       have c7:=(QN.1 a1.2.2.2.1 x (by simp))
       obtain⟨xk,T,U,xb,j,i,o⟩:=x;obtain⟨e1,e2⟩:=b2;rw[Tm.tk]at e1;subst e1;rw[ZA (.inl rfl)]at h2;have c8:=Oz (LS.R4 h2).1;obtain⟨-,z2,-,z4,-⟩:=c7;rw[z2 oM,Tm.J9,if_neg oM,if_neg oM,Cs.Y7];have:∀l:List Tm,(∀x∈l,x∈i)->Tm.Y7 l=[]:=by
        intro l;induction l with
        |nil=>intro _;rfl
        |cons w r c9=>
         intro hm;have b8:=c8 w (hm w (by simp));have b9:=QN.1 z4 w (hm w (by simp));obtain⟨wk,wn,wa,wb,d7,d8,d9⟩:=w;rw[Tm.tk]at b8;subst b8;rw[Tm.Y7,c9 λz hz=>hm z (by simp[hz]),b9.1 (.inl rfl),b9.2.1 oM,Tm.J9,if_neg oM,if_neg oM];rfl
       rw[this i λ_ h=>h];rfl
      have c1:∀d,(x.put b m).Tz d=(x.Tz d||decide (d=b)):=λd=>by rw[q2,b7];simp[hasB]
      refine YV h1 ?_ ?_
      ·refine QJ _ _ (Nat.le_refl _) _ _ (LS.Gy a2 b m) (LS.Qr C _) ⟨λd=>?_,λd=>rfl,λd=>?_⟩ I
       ·unfold LS.fst;rw[q1]
       ·unfold LS.fst;dsimp only;rw[Xj,Zq x.Tz,Zq (x.put b m).Tz,Xj,c1];by_cases e:b=d
        ·subst e;rw[if_pos rfl,if_pos rfl];simp
        ·rw[if_neg e,if_neg e];have e':¬d=b:=λh=>e h.symm
         simp[e']
      ·refine QJ _ _ (Nat.le_refl _) _ _ a3 (LS.O3 (LS.Zi C _) a oM) ⟨λd=>?_,λd=>rfl,λd=>?_⟩ h4
       ·unfold LS.Nz;rw[q1]
       ·unfold LS.Nz;dsimp only;rw[Zq (λk=>!x.Tz k),Zq (λk=>!(x.put b m).Tz k),Xj,c1];by_cases e:b=d
        ·subst e;rw[hk];simp
        ·rw[if_neg e];have e':¬d=b:=λh=>e h.symm
         simp[e']
     ·rw[Tm.H8];refine YV h1 ?_ ?_
      ·refine QJ _ _ (Nat.le_refl _) _ _ a2 (LS.Qr C _) ⟨λd=>rfl,λd=>rfl,λd=>?_⟩ h2;unfold LS.fst;dsimp only;rw[Zq x.Tz,Zq x.Tz,Xj];by_cases e:b=d
       ·subst e;rw[a5];rfl
       ·rw[if_neg e]
      ·have I:=ih y oM a9.2.1 a1.2.2.2.1.2.1 b1 _ a3 c5 h4;refine QJ _ _ (Nat.le_refl _) _ _ (LS.Gy a3 b m) (LS.O3 (LS.Zi C _) a oM) ⟨λd=>rfl,λd=>rfl,λd=>?_⟩ I;unfold LS.Nz;dsimp only;rw[Xj,Zq (λk=>!x.Tz k),Zq (λk=>!x.Tz k),Xj];by_cases e:b=d
       ·subst e;rw[if_pos rfl,if_pos rfl,a5];rfl
       ·rw[if_neg e,if_neg e]
    ·rename_i h6;rw[if_neg h6]at f;split
     ·rename_i h7;subst h7;obtain⟨x,rfl,hx,h1,h2⟩:=Iu h;rw[Xb];refine Uo hx h1 λc hc=>?_
      obtain⟨c0,a4,rfl⟩:=List.mem_map.1 hc;obtain⟨tg,ws,y⟩:=c0;obtain⟨g1,g2⟩:=XR (h2 _ a4);obtain⟨q1,q2,q3⟩:=LS.Xe _ ws P g1;have d0:y.sz<=N:=by
       have:(Cs.mk tg ws y).sz<=Cs.Xv cs:=Cs.Z4 a4;rw[Cs.sz]at this;omega
      have b1:b ∉ y.Uk:=λhh=>hb (by rw[Tm.Uk];simp only[List.mem_append,QW];exact .inr (.inr ⟨_,a4,by rw[Cs.Uk];exact hh⟩))
      have I:=ih y d0 (I7.1 c3 _ a4) (P6.1 a1.2.2.2.2 _ a4) b1 _ q1 (by rw[q3];exact hk) g2;rw[Cs.put,Cs.Y0,BR];dsimp only;rw[if_neg (by simpa using g1)];unfold LS.tok at I;rw[q3]at I;exact I
     ·rename_i h7;rw[if_neg h7]at f;by_cases d1:8<=k/\k≠12
      ·have c2:k=8\/k=9\/k=10\/k=11\/k=13:=by
        rcases XG h with e|e|e|e|e|e|e<;> omega
       obtain⟨x,rfl,p8,p9,d2,d3,-⟩:=Ei c2 h;have a6:x.sz<=N:=by
        simp only[Tm.Xv]at hN;omega
       have J:b ∉ x.Uk:=λhh=>hb (by rw[Tm.Uk];simp only[List.mem_append,Xu];exact .inr (.inl ⟨x,by simp,hh⟩))
       have a7:=a1.2.2.2.1.1;have a8:=a9.1;rw[Tm.H8];rcases c2 with rfl|rfl|rfl|rfl|rfl
       ·obtain⟨g0,g⟩:=p8 rfl;exact PK g0 (ih x a6 a8 a7 J _ (LS.Qp P a).1 hk g)
       ·obtain⟨g0,g⟩:=p9 rfl;obtain⟨q1,-,q3,-⟩:=LS.D5 P g0;have I:=ih x a6 a8 a7 J _ q1 (by rw[q3];exact hk) g;refine PI (by rw[MH];exact g0) ?_;rw[MH];unfold LS.tok at I;rw[q3]at I;exact I
       ·obtain⟨g0,g⟩:=d3 rfl;obtain⟨q1,-,q3⟩:=LS.Ud P g0;have I:=ih x a6 a8 a7 J _ q1 (by rw[q3];exact hk) g;refine Dp (by rw[SL];exact g0) ?_;rw[SL];unfold LS.tok at I;rw[q3]at I;exact I
       ·exact absurd rfl b4
       ·obtain⟨g0,g⟩:=d2 rfl;have b3:b≠b0:=λe=>hb (by rw[Tm.Uk,if_pos oM,e];simp)
        have I:=ih x a6 a8 a7 J _ (LS.I8 P (P.kt.filter _)) (show J3 (Pk s.tk b0) b=none by rw[Zy,if_neg (λe=>b3 e.symm)];exact hk) g;refine Dn (by rw[Xj,if_neg b3];exact g0) ?_;refine QJ _ _ (Nat.le_refl _) _ _ (LS.Gy (LS.I8 P (P.kt.filter _)) b m) (LS.I8 C (C.kt.filter _)) ⟨λd=>rfl,λd=>rfl,λd=>?_⟩ I;show J3 (Jz (Pk s.tk b0) b (m:Int)) d=J3 (Pk (Jz s.tk b (m:Int)) b0) d;rw[Xj,Zy,Zy,Xj];by_cases e:b0=d
        ·subst e;rw[if_neg b3,if_pos rfl,if_pos rfl]
        ·rw[if_neg e,if_neg e]
      ·rw[if_neg d1]at f;simp at f
section
variable (f:Tm->Int->Tm×Int)
def Cw:List Tm->Int->List Tm×Int
 |[],c=>([],c)
 |x::r,c=>((f x c).1::(Cw r (f x c).2).1,(Cw r (f x c).2).2)
def QQ:List Cs->Int->List Cs×Int
 |[],c=>([],c)
 | .mk t ws y::r,c=>(.mk t ws (f y c).1::(QQ r (f y c).2).1,(QQ r (f y c).2).2)
end
def Tm.ru:Nat->Tm->Int->Tm×Int
 |0,t,c=>(t,c)
 |N+1,.mk k n a b vs xs cs,c=>
  if k=10/\Tm.PZ vs.length xs=true then
   (.mk 11 0 a (JK (wr (c+1))) vs (Cw (Tm.ru N) (Tm.H8 (JK (wr (c+1))) vs.length xs) (wr (c+1))).1 [],(Cw (Tm.ru N) (Tm.H8 (JK (wr (c+1))) vs.length xs) (wr (c+1))).2)
  else (.mk k n a b vs (Cw (Tm.ru N) xs c).1 (QQ (Tm.ru N) cs (Cw (Tm.ru N) xs c).2).1,(QQ (Tm.ru N) cs (Cw (Tm.ru N) xs c).2).2)
mutual
def Tm.dp:Tm->Nat
 | .mk k n a b vs xs cs=>(if k=10 then 2 else 1)+max (Tm.UG xs) (Cs.UG cs)
def Tm.UG:List Tm->Nat
 |[]=>0
 |x::r=>max x.dp (Tm.UG r)
def Cs.UG:List Cs->Nat
 |[]=>0
 |c::r=>max c.dp (Cs.UG r)
def Cs.dp:Cs->Nat
 | .mk t ws y=>y.dp
end
mutual
def Tm.nt:Tm->Nat
 | .mk k n a b vs xs cs=>(if k=10 then 1 else 0)+(Tm.H9 xs+Cs.H9 cs)
def Tm.H9:List Tm->Nat
 |[]=>0
 |x::r=>x.nt+Tm.H9 r
def Cs.H9:List Cs->Nat
 |[]=>0
 |c::r=>c.nt+Cs.H9 r
def Cs.nt:Cs->Nat
 | .mk t ws y=>y.nt
end
theorem UF{x:Tm}:∀{l:List Tm},x∈l->x.dp<=Tm.UG l
 |y::r,h=>by
  rw[Tm.UG];rcases List.mem_cons.1 h with rfl|h
  ·omega
  ·have:=UF h;omega
theorem UN{x:Cs}:∀{l:List Cs},x∈l->x.dp<=Cs.UG l
 |y::r,h=>by
  rw[Cs.UG];rcases List.mem_cons.1 h with rfl|h
  ·omega
  ·have:=UN h;omega
mutual
def Tm.Nx:Tm->Prop
 | .mk k n a b vs xs cs=>(k=1\/k=6\/k=8->∀d,a≠excl d)/\(k=10->∀v∈vs,∀d,v≠excl d)/\Tm.Tp xs/\Cs.Tp cs
def Tm.Tp:List Tm->Prop
 |[]=>True
 |x::r=>x.Nx/\Tm.Tp r
def Cs.Tp:List Cs->Prop
 |[]=>True
 |c::r=>c.Nx/\Cs.Tp r
def Cs.Nx:Cs->Prop
 | .mk t ws y=>(∀v∈ws,∀d,v≠excl d)/\y.Nx
end
theorem Ke:∀{l:List Tm},Tm.Tp l<->∀x∈l,x.Nx
 |[]=>by simp[Tm.Tp]
 |x::r=>by simp[Tm.Tp,Ke (l:=r)]
theorem S9:∀{l:List Cs},Cs.Tp l<->∀x∈l,x.Nx
 |[]=>by simp[Cs.Tp]
 |x::r=>by simp[Cs.Tp,S9 (l:=r)]
theorem Zg4:∀d,ByteArray.empty≠excl d:=λd e=>by
 have:=congrArg ByteArray.size e;unfold excl at this;rw[ByteArray.size_append]at this;have f:(⟨#[33]⟩:ByteArray).size=1:=rfl;have g:(ByteArray.empty).size=0:=rfl;omega
theorem EJ{a b:ByteArray}(h:excl a=excl b):a=b:=Sw h
theorem BU{a b:Int}(f:0<=a)(g:0<=b)(h:JK a=JK b):a=b:=WS f g (Sw h)
theorem Xw3(c:Int):JK c≠.empty:=λe=>by
 have:=congrArg ByteArray.size e;unfold JK at this;rw[ByteArray.size_append]at this;have f:(⟨#[107]⟩:ByteArray).size=1:=rfl;have g:(ByteArray.empty).size=0:=rfl;omega
structure Jv3 (b:ByteArray) (t u:Tm):Prop where
 dp:u.dp<=t.dp+1
 nt:u.nt=t.nt
 nx:t.Nx->u.Nx
 nh:t.NH->u.NH
 sh:t.Sh->u.Sh
 sn:∀n,n∈u.Ux<->n∈t.Ux
 ow:∀n,n∈u.J9<->n∈t.J9
 st:∀d,d∈u.Uk->d∈t.Uk\/d=b
theorem SC(b:ByteArray)(m:Nat):∀(N:Nat) (t:Tm),t.sz<=N->Jv3 b t (t.put b m):=by
 intro N;induction N with
 |zero=>intro t h;have:=t.P8;omega
 |succ N ih=>
  intro t hN;obtain⟨k,n,a,U,vs,xs,cs⟩:=t;rw[Tm.sz]at hN
  -- a list one of whose terms is put
  have i:∀(x u:Tm) (r:List Tm),Jv3 b x u->Tm.UG (u::r)<=Tm.UG (x::r)+1/\Tm.H9 (u::r)=Tm.H9 (x::r)/\(Tm.Tp (x::r)->Tm.Tp (u::r))/\(Tm.FZ (x::r)->Tm.FZ (u::r))/\(Tm.RL (x::r)->Tm.RL (u::r))/\(∀n,n∈Tm.Y6 (u::r)<->n∈Tm.Y6 (x::r))/\(∀n,n∈Tm.Y7 (u::r)<->n∈Tm.Y7 (x::r))/\∀d,d∈Tm.Yq (u::r)->d∈Tm.Yq (x::r)\/d=b:=λx u r h=>by
   refine⟨?_,?_,λg=>⟨h.nx g.1,g.2⟩,λg=>⟨h.nh g.1,g.2⟩,λg=>⟨h.sh g.1,g.2⟩,λn=>?_,λn=>?_,λd f=>?_⟩
   ·have:=h.dp;rw[Tm.UG,Tm.UG];omega
   ·rw[Tm.H9,Tm.H9,h.nt]
   ·rw[Tm.Y6,Tm.Y6,List.mem_append,List.mem_append,h.sn]
   ·rw[Tm.Y7,Tm.Y7,List.mem_append,List.mem_append,h.ow]
   ·rw[Tm.Yq,List.mem_append]at f⊢;rcases f with f|f
    ·exact(h.st d f).elim (λh=>.inl (.inl h)) .inr
    ·exact .inl (.inr f)
  rw[Tm.put];split
  ·refine⟨?_,?_,λh=>⟨λ_=>Zg4,λ_=>by simp,⟨h,trivial⟩,trivial⟩,λh=>⟨oM,⟨h,trivial⟩,trivial⟩,λh=>⟨oM,λ_=>rfl,oM,⟨h,trivial⟩,trivial⟩,λm=>?_,λm=>?_,λd f=>?_⟩
   ·generalize Tm.mk k n a U vs xs cs=t;rw[Tm.dp,if_neg oM,Tm.UG,Tm.UG,Cs.UG];omega
   ·generalize Tm.mk k n a U vs xs cs=t;rw[Tm.nt,if_neg oM,Tm.H9,Tm.H9,Cs.H9];omega
   ·generalize Tm.mk k n a U vs xs cs=t;rw[Tm.Ux,if_neg oM,Tm.Y6,Tm.Y6,Cs.Y6];simp
   ·generalize Tm.mk k n a U vs xs cs=t;rw[Tm.J9,if_neg oM,if_neg oM,Tm.Y7,Tm.Y7,Cs.Y7];simp
   ·generalize Tm.mk k n a U vs xs cs=t at f⊢;rw[Tm.Uk,if_pos oM,Tm.Yq,Tm.Yq,Cs.Yq]at f;simp at f;exact f.elim .inr .inl
  split
  ·rename_i h3;subst h3;refine⟨?_,?_,λh=>⟨oM,oM,h.2.2⟩,λh=>⟨oM,h.2⟩,λh=>⟨oM,λ_=>h.2.1 oM,oM,h.2.2.2⟩,λm=>?_,λm=>?_,λd f=>?_⟩
   ·rw[Tm.dp,Tm.dp,if_neg oM,if_neg oM];omega
   ·rw[Tm.nt,Tm.nt];rfl
   ·rw[Tm.Ux,Tm.Ux];rfl
   ·rw[Tm.J9,Tm.J9];rfl
   ·rw[Tm.Uk,if_pos oM]at f;rw[Tm.Uk,if_neg oM];simp only[List.mem_append,List.mem_singleton,List.nil_append]at f⊢;rcases f with f|f|f
    ·exact .inr f
    ·exact .inl (.inl f)
    ·exact .inl (.inr f)
  split
  ·rename_i h6;subst h6
   -- one of the terms is put
   have hL:∀l:List Tm,(∀x∈l,x.sz<=N)->Tm.UG (Tm.Qd b m l)<=Tm.UG l+1/\Tm.H9 (Tm.Qd b m l)=Tm.H9 l/\(Tm.Tp l->Tm.Tp (Tm.Qd b m l))/\(Tm.FZ l->Tm.FZ (Tm.Qd b m l))/\(Tm.RL l->Tm.RL (Tm.Qd b m l))/\(∀n,n∈Tm.Y6 (Tm.Qd b m l)<->n∈Tm.Y6 l)/\(∀n,n∈Tm.Y7 (Tm.Qd b m l)<->n∈Tm.Y7 l)/\∀d,d∈Tm.Yq (Tm.Qd b m l)->d∈Tm.Yq l\/d=b:=by
    intro l hl;cases l with
    |nil=>exact⟨by simp[Tm.Qd,Tm.UG],rfl,λ_=>trivial,λ_=>trivial,λ_=>trivial,λ_=>Iff.rfl,λ_=>Iff.rfl,λd h=>.inl h⟩
    |cons x r=>
     rw[Tm.Qd];split
     ·exact i x _ r (ih x (hl x (by simp)))
     ·cases r with
      |nil=>exact⟨by rw[Tm.H8];omega,rfl,id,id,id,λ_=>Iff.rfl,λ_=>Iff.rfl,λd h=>.inl h⟩
      |cons y r=>
       rw[Tm.H8];obtain⟨a1,j,o,C,I,J,P,T⟩:=i y _ r (ih y (hl y (by simp)));generalize Tm.put b m y::r=L2 at *;generalize y::r=L1 at *;refine⟨by rw[Tm.UG,Tm.UG];omega,by rw[Tm.H9,Tm.H9,j],λh=>⟨h.1,o h.2⟩,λh=>⟨h.1,C h.2⟩,λh=>⟨h.1,I h.2⟩,λn=>?_,λn=>?_,λd f=>?_⟩
       ·rw[Tm.Y6,Tm.Y6,List.mem_append,List.mem_append,J]
       ·rw[Tm.Y7,Tm.Y7,List.mem_append,List.mem_append,P]
       ·rw[Tm.Yq,List.mem_append]at f⊢;rcases f with f|f
        ·exact .inl (.inl f)
        ·exact(T d f).elim (λh=>.inl (.inr h)) .inr
   obtain⟨a1,j,o,C,I,J,P,T⟩:=hL xs λx hx=>by have:=Tm.Z4 hx;omega
   refine⟨?_,?_,λh=>⟨h.1,h.2.1,o h.2.2.1,h.2.2.2⟩,λh=>⟨h.1,C h.2.1,h.2.2⟩,λh=>⟨oM,h.2.1,h.2.2.1,I h.2.2.2.1,h.2.2.2.2⟩,λn=>?_,λn=>?_,λd f=>?_⟩
   ·rw[Tm.dp,Tm.dp];omega
   ·rw[Tm.nt,Tm.nt,j]
   ·rw[Tm.Ux,Tm.Ux];simp only[List.mem_append,J]
   ·rw[Tm.J9,Tm.J9];simp only[List.mem_append,P]
   ·rw[Tm.Uk]at f⊢;simp only[List.mem_append]at f⊢;rcases f with f|f|f
    ·exact .inl (.inl f)
    ·exact(T d f).elim (λh=>.inl (.inr (.inl h))) .inr
    ·exact .inl (.inr (.inr f))
  split
  ·rename_i h7;subst h7;have hL:∀l:List Cs,(∀x∈l,x.sz<=N)->Cs.UG (Cs.Jz b m l)<=Cs.UG l+1/\Cs.H9 (Cs.Jz b m l)=Cs.H9 l/\(Cs.Tp l->Cs.Tp (Cs.Jz b m l))/\(Cs.FZ l->Cs.FZ (Cs.Jz b m l))/\(Cs.RL l->Cs.RL (Cs.Jz b m l))/\(∀n,n∈Cs.Y6 (Cs.Jz b m l)<->n∈Cs.Y6 l)/\(∀n,n∈Cs.Y7 (Cs.Jz b m l)<->n∈Cs.Y7 l)/\(∀d,d∈Cs.Yq (Cs.Jz b m l)->d∈Cs.Yq l\/d=b)/\(Cs.Jz b m l=[]->l=[]):=by
    intro l;induction l with
    |nil=>intro _;exact⟨by simp[Cs.Jz,Cs.UG],rfl,λ_=>trivial,λ_=>trivial,λ_=>trivial,λ_=>Iff.rfl,λ_=>Iff.rfl,λd h=>.inl h,λ_=>rfl⟩
    |cons c r b1=>
     intro hl;obtain⟨a1,j,o,C,I,J,P,T,-⟩:=b1 λz hz=>hl z (by simp[hz])
     obtain⟨t,ws,y⟩:=c;have hy:=hl (Cs.mk t ws y) (by simp);rw[Cs.sz]at hy;have h:=ih y hy;have e:(Cs.mk t ws y).put b m= .mk t ws (y.put b m):=by rw[Cs.put]
     rw[Cs.Jz,e];refine⟨?_,?_,λg=>⟨⟨g.1.1,h.nx g.1.2⟩,o g.2⟩,λg=>⟨h.nh g.1,C g.2⟩,λg=>⟨h.sh g.1,I g.2⟩,λn=>?_,λn=>?_,λd f=>?_,by simp⟩
     ·have:=h.dp;rw[Cs.UG,Cs.UG,Cs.dp,Cs.dp];omega
     ·rw[Cs.H9,Cs.H9,Cs.nt,Cs.nt,h.nt,j]
     ·rw[Cs.Y6,Cs.Y6,List.mem_append,List.mem_append,Cs.Ux,Cs.Ux,h.sn,J]
     ·rw[Cs.Y7,Cs.Y7,List.mem_append,List.mem_append,Cs.J9,Cs.J9,List.mem_append,List.mem_append,h.ow,P]
     ·rw[Cs.Yq,List.mem_append,Cs.Uk]at f⊢;rcases f with f|f
      ·exact(h.st d f).elim (λh=>.inl (.inl h)) .inr
      ·exact(T d f).elim (λh=>.inl (.inr h)) .inr
   obtain⟨a1,j,o,C,I,J,P,T,a9⟩:=hL cs λx hx=>by have:=Cs.Z4 hx;omega
   refine⟨?_,?_,λh=>⟨h.1,h.2.1,h.2.2.1,o h.2.2.2⟩,λh=>⟨h.1,h.2.1,C h.2.2⟩,λh=>⟨h.1,oM,λ_ e=>h.2.2.1 rfl (a9 e),h.2.2.2.1,I h.2.2.2.2⟩,λn=>?_,λn=>?_,λd f=>?_⟩
   ·rw[Tm.dp,Tm.dp];omega
   ·rw[Tm.nt,Tm.nt,j]
   ·rw[Tm.Ux,Tm.Ux];simp only[List.mem_append,J]
   ·rw[Tm.J9,Tm.J9];simp only[List.mem_append,P]
   ·rw[Tm.Uk]at f⊢;simp only[List.mem_append]at f⊢;rcases f with f|f|f
    ·exact .inl (.inl f)
    ·exact .inl (.inr (.inl f))
    ·exact(T d f).elim (λh=>.inl (.inr (.inr h))) .inr
  ·rename_i b2 h3 h6 h7;cases xs with
   |nil=>rw[Tm.H8];exact⟨oM,rfl,id,id,id,λ_=>Iff.rfl,λ_=>Iff.rfl,λd h=>.inl h⟩
   |cons x r=>
    have hx:x.sz<=N:=by simp only[Tm.Xv]at hN;omega
    rw[Tm.H8];obtain⟨a1,j,o,C,I,J,P,T⟩:=i x _ r (ih x hx);refine⟨?_,?_,λh=>⟨h.1,h.2.1,o h.2.2.1,h.2.2.2⟩,λh=>⟨h.1,C h.2.1,h.2.2⟩,λh=>⟨λg=>by have:=h.1 g;simp at this,h.2.1,h.2.2.1,I h.2.2.2.1,h.2.2.2.2⟩,λn=>?_,λn=>?_,λd f=>?_⟩
    ·rw[Tm.dp,Tm.dp];omega
    ·rw[Tm.nt,Tm.nt,j]
    ·rw[Tm.Ux,Tm.Ux];simp only[List.mem_append,J]
    ·rw[Tm.J9,Tm.J9];simp only[List.mem_append,P]
    ·rw[Tm.Uk]at f⊢;simp only[List.mem_append]at f⊢;rcases f with f|f|f
     ·exact .inl (.inl f)
     ·exact(T d f).elim (λh=>.inl (.inr (.inl h))) .inr
     ·exact .inl (.inr (.inr f))
end
end Go.Proofs.YtnddiddkmhiclaaGreatDoor
