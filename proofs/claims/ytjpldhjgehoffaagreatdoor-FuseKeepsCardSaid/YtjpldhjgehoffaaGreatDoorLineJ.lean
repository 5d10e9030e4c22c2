import Derived.Test.YtjpldhjgehoffaaGreatDoorLineB
import Derived.Test.YtjpldhjgehoffaaGreatDoorLineG
import Derived.Test.YtjpldhjgehoffaaGreatDoorPlainX
import Derived.Test.YtjpldhjgehoffaaGreatDoorOwnE
import Derived.Test.YtjpldhjgehoffaaGreatDoorParseF
import Derived.Test.YtjpldhjgehoffaaGreatDoorNameO
import Derived.Test.YtjpldhjgehoffaaGreatDoorFreeA
set_option maxRecDepth 20000
set_option maxHeartbeats 16000000
namespace Go.Proofs.YtjpldhjgehoffaaGreatDoor
open Classical Go.RowKit
set_option linter.unusedVariables false
set_option linter.unusedSimpArgs false
mutual
def Tm.nc:Tm→Nat
 | .mk k n a b vs xs cs=>Tm.ncL xs+Cs.ncL cs
def Tm.ncL:List Tm→Nat
 |[]=>0
 |x::r=>x.nc+Tm.ncL r
def Cs.ncL:List Cs→Nat
 |[]=>0
 |c::r=>c.nc+Cs.ncL r
def Cs.nc:Cs→Nat
 | .mk t ws y=>1+y.nc
end
mutual
theorem Tm.nc_sz:∀t:Tm,t.nc+1≤t.sz
 | .mk k n a b vs xs cs=>by
  have h1:=Tm.ncL_sz xs;have h2:=Cs.ncL_sz cs;rw[Tm.nc,Tm.sz];omega
theorem Tm.ncL_sz:∀l:List Tm,Tm.ncL l≤Tm.szs l
 |[]=>Nat.le_refl _
 |x::r=>by
  have h1:=Tm.nc_sz x;have h2:=Tm.ncL_sz r;rw[Tm.ncL,Tm.szs];omega
theorem Cs.ncL_sz:∀l:List Cs,Cs.ncL l≤Cs.szs l
 |[]=>Nat.le_refl _
 |c::r=>by
  have h1:=Cs.nc_sz c;have h2:=Cs.ncL_sz r;rw[Cs.ncL,Cs.szs];omega
theorem Cs.nc_sz:∀c:Cs,c.nc≤c.sz
 | .mk t ws y=>by
  have h1:=Tm.nc_sz y;rw[Cs.nc,Cs.sz];omega
end
theorem Pk {k:Int} (hk:k=8∨k=9):∀(l:List ByteArray) (t:Tm),(cnt k l t).nt=t.nt∧(cnt k l t).nc=t.nc
 |[],_=>⟨rfl,rfl⟩
 |s::r,t=>by
  obtain⟨h1,h2⟩:=Pk hk r t;refine⟨?_,?_⟩
  ·rw[cnt,Tm.nt,if_neg (by omega),Tm.ntL,Tm.ntL,Cs.ntL,h1];omega
  ·rw[cnt,Tm.nc,Tm.ncL,Tm.ncL,Cs.ncL,h2];omega
theorem rt_nt:∀(d:Nat) (t:Tm) (has:List ByteArray),t.Rt d→t.nt=0∧(t.ow has).nt=0∧(t.ow has).nc=t.nc:=by
 intro d;induction d with
 |zero=>intro t _ h;exact h.elim
 |succ d ih=>
  intro t has hR;obtain⟨k,n0,a,b,vs,xs,cs⟩:=t;have hR':=hR;obtain⟨hk,-,-,hx,hc⟩:=hR;have hX:∀l:List Tm,(∀x∈l,x∈xs)→Tm.ntL l=0:=by
   intro l;induction l with
   |nil=>intro _;rfl
   |cons x r ih2=>
    intro hm;rw[Tm.ntL,(ih x [] (hx x (hm x (by simp)))).1,ih2 fun z hz=>hm z (by simp[hz])]
  have hC:∀l:List Cs,(∀x∈l,x∈cs)→Cs.ntL l=0:=by
   intro l;induction l with
   |nil=>intro _;rfl
   |cons c r ih2=>
    intro hm;have hcc:=(hc c (hm c (by simp))).2;obtain⟨t,ws,y⟩:=c;rw[Cs.ntL,Cs.nt,(ih y [] hcc).1,ih2 fun z hz=>hm z (by simp[hz])]
  have hself:(Tm.mk k n0 a b vs xs cs).nt=0:=by rw[Tm.nt,if_neg (by omega),hX xs fun _ h=>h,hC cs fun _ h=>h]
  refine⟨hself,?_⟩;rw[Tm.ow,(Pk (.inr rfl) _ _).1,(Pk (.inr rfl) _ _).2];split
  ·rw[(Pk (.inl rfl) _ _).1,(Pk (.inl rfl) _ _).2];exact⟨hself,rfl⟩
  split
  ·rename_i h6;subst h6;obtain⟨x,y,rfl,rfl,hxR,hyR⟩:=rt_two hR';generalize inN has (Tm.mk 6 n0 a b vs [x,y] []).free=O;rw[(Pk (.inl rfl) _ _).1,(Pk (.inl rfl) _ _).2,letH,Tm.owZ,Tm.owZ,Tm.owZ];simp only[List.headD_cons,List.tail_cons];obtain⟨-,x1,x2⟩:=ih x (inN O x.free) hxR;obtain⟨-,y1,y2⟩:=ih y (inN O (woN y.free [a])++[a]) hyR;refine⟨?_,?_⟩
   ·rw[Tm.nt,if_neg (by omega),Tm.ntL,Tm.ntL,Tm.ntL,Cs.ntL,x1,y1]
   ·rw[Tm.nc,Tm.nc,Tm.ncL,Tm.ncL,Tm.ncL,Cs.ncL,Tm.ncL,Tm.ncL,Tm.ncL,x2,y2]
  split
  ·rename_i h7;subst h7;generalize inN has (Tm.mk 7 n0 a b vs xs cs).free=O;have hD:∀l:List Cs,(∀x∈l,x∈cs)→Cs.ntL (Cs.owL l O (nmH xs))=0∧Cs.ncL (Cs.owL l O (nmH xs))=Cs.ncL l:=by
    intro l;induction l with
    |nil=>intro _;exact⟨rfl,rfl⟩
    |cons c r ih2=>
     intro hm;have hcc:=(hc c (hm c (by simp))).2;obtain⟨e1,e2⟩:=ih2 fun z hz=>hm z (by simp[hz])
     obtain⟨t,ws,y⟩:=c;obtain⟨-,y1,y2⟩:=ih y (if hasB y.free (nmH xs)then O++inN ws y.free else woN (O++inN ws y.free) [nmH xs]) hcc;rw[Cs.owL,Cs.ow,Cs.ntL,Cs.nt,Cs.ncL,Cs.nc,Cs.ncL,Cs.nc,(Pk (.inl rfl) _ _).1,(Pk (.inl rfl) _ _).2,(Pk (.inr rfl) _ _).1,(Pk (.inr rfl) _ _).2,y1,y2,e1,e2];exact⟨rfl,rfl⟩
   obtain⟨e1,e2⟩:=hD cs fun _ h=>h
   refine⟨?_,?_⟩
   ·rw[Tm.nt,if_neg (by omega),hX xs fun _ h=>h,e1]
   ·rw[Tm.nc,Tm.nc,e2]
  ·exact⟨hself,rfl⟩
theorem sr_nt:∀(N:Nat) (t:Tm) (rest:List ByteArray),t.sz≤N→t.S1→(t.sr rest).2.nt=t.nt:=by
 intro N;induction N with
 |zero=>intro t _ h;have:=t.sz_1;omega
 |succ N ih=>
  intro t rest hN hS;obtain⟨k,n,a,b,vs,xs,cs⟩:=t;rw[Tm.sr];by_cases hc:k=8∧hasB rest a=true
  ·rw[if_pos hc];obtain⟨⟨x,rfl⟩,rfl⟩:=hS.1 (.inl hc.1);obtain⟨rfl,-⟩:=hc;rw[Tm.srL];have hxN:x.sz≤N:=by
    rw[Tm.sz]at hN;simp only[Tm.szs]at hN;omega
   rw[ih x _ hxN hS.2.1.1,Tm.nt,if_neg (by omega),Tm.ntL,Tm.ntL,Cs.ntL];omega
  ·rw[if_neg hc]
theorem fuOne_nt {k:Int} {na:Nat} {nm:ByteArray} {ws:List ByteArray} {y:Tm} (hS:y.S1):(Yv k na nm ws y).nt≤y.nt+1:=by
 unfold Yv;split
 ·rename_i hcond;obtain⟨-,-,-,h9,hnm⟩:=hcond;have h1:=sr_nt y.sz y ws (Nat.le_refl _) hS;obtain⟨used,u1,-⟩:=sr_all y.sz y ws (Nat.le_refl _) hS;generalize y.sr ws=Z at *;obtain⟨rest,z⟩:=Z;dsimp only at *;obtain⟨k,n,a,b,vs,xs,cs⟩:=z;rw[Tm.tk]at h9;subst h9;obtain⟨⟨x,rfl⟩,rfl⟩:=u1.1 (.inr (.inl rfl));have ha0:(Tm.mk 9 n a b vs [x] []).a0=x:=rfl;rw[ha0,←h1,Tm.nt,Tm.nt,if_pos rfl,if_neg (by omega),Tm.ntL,Tm.ntL,Tm.ntL,Tm.ntL,(Pk (.inr rfl) _ _).1];omega
 ·omega
theorem fu_nt:∀(N:Nat) (t:Tm),t.sz≤N→t.S1→t.fu.nt≤t.nt+t.nc:=by
 intro N;induction N with
 |zero=>intro t h;have:=t.sz_1;omega
 |succ N ih=>
  intro t hN hS;obtain⟨k,n,a,b,vs,xs,cs⟩:=t;rw[Tm.sz]at hN;have hX:∀l:List Tm,(∀x∈l,x∈xs)→Tm.ntL (Tm.fuL l)≤Tm.ntL l+Tm.ncL l:=by
   intro l;induction l with
   |nil=>intro _;exact Nat.le_refl _
   |cons x r ih2=>
    intro hm;have hx:=hm x (by simp);have h1:=ih x (by have:=Tm.X0 hx;omega) (Ox.1 hS.2.1 x hx);have h2:=ih2 fun z hz=>hm z (by simp[hz])
    rw[Tm.fuL,Tm.ntL,Tm.ntL,Tm.ncL];omega
  have hC:∀l:List Cs,(∀x∈l,x∈cs)→Cs.ntL (Cs.fuL k xs.length (nmH xs) l)≤Cs.ntL l+Cs.ncL l:=by
   intro l;induction l with
   |nil=>intro _;exact Nat.le_refl _
   |cons c r ih2=>
    intro hm;have hc:=hm c (by simp);have h2:=ih2 fun z hz=>hm z (by simp[hz])
    obtain⟨t,ws,y⟩:=c;have hs:(Cs.mk t ws y).sz≤Cs.szs cs:=Cs.X0 hc;rw[Cs.sz]at hs;have hy:=F4.1 hS.2.2 _ hc;have h1:=ih y (by omega) hy;have h3:=fuOne_nt (k:=k) (na:=xs.length) (nm:=nmH xs) (ws:=ws) (fu_st y.sz y (Nat.le_refl _) hy).1;rw[Cs.fuL,Cs.ntL,Cs.ntL,Cs.ncL,Cs.fu,Cs.nt,Cs.nt,Cs.nc];omega
  have h1:=hX xs fun _ h=>h
  have h2:=hC cs fun _ h=>h
  rw[Tm.fu,Tm.nt,Tm.nt,Tm.nc];omega
structure Lv (f:Fn):Prop where
 lin:f.lin=0
 shp:Shp f.body
 st:f.body.stT=[]
 nt:f.body.nt≤1048576
 nd:f.params.Nodup
 nx:∀p∈f.params,NoX p
abbrev lin0 (f:Fn):LS:=⟨f.params.map fun p=>(p,1),[],[]⟩
theorem lin0_lk (l:List ByteArray) (n:ByteArray):lkA (l.map fun p=>(p,(1:Int))) n=if n∈l then some 1 else none:=by
 induction l with
 |nil=>simp[lkA]
 |cons p r ih=>
  rw[List.map_cons,lkA,ih];by_cases e:p=n
  ·subst e;rw[if_pos rfl,if_pos (by simp)]
  ·rw[if_neg e];have e':n≠p:=fun h=>e h.symm
   simp[e']
theorem lin0_ok {f:Fn} (h:f.params.Nodup):(lin0 f).Ok:=by
 refine⟨?_,KN.nil,fun n=>?_⟩
 ·unfold KN;rw[List.map_map];have:((fun x:ByteArray×Int=>x.1) ∘ fun p:ByteArray=>(p,(1:Int)))=id:=rfl;rw[this,List.map_id];exact h
 ·unfold LS.c;dsimp only;rw[lin0_lk];split<;> simp
theorem Fn.lin_of {f:Fn} (h:f.params.Nodup):f.lin=f.body.lin (lin0 f):=by
 unfold Fn.lin;rw[if_pos h]
theorem lv0 {l:List Fn} (hl:M9 l) (hc:Kz l=0):∀f∈mk0 l,Lv f∧f.body.nc≤1048576:=fun f hf=>by
 unfold mk0 at hf;obtain⟨g,hg,rfl⟩:=List.mem_map.1 hf;have hPt:=Cv hl hc g hg;obtain⟨x,hx,rfl⟩:=List.mem_map.1 hg;have hR:=(Qv1 hc).2.2.2 x hx;have hr:=(P9 hl hc x hx).2.1;have hbd:=hR.pl_bd hr;have hfree:=hR.pl_free hr;obtain⟨-,hrt,hisP⟩:=pl_body hl hc x.pl hg;have hRr:=hR.rn hr;have hw:=pl_wrong _ 25 x.rn.body x.rn.params x.rn.params 0 0 (-151) (x.O6 hr) hRr.wrong (fun _ h=>h) (by omega) (by have:=hRr.sz;omega) (by omega);have hpx:∀p∈x.pl.params,NoX p:=fun p hp=>nameB_noX (badB_no hRr.bad p hp)
 obtain⟨hS,hT⟩:=wrong_shp _ _ x.pl.body x.pl.params (-151) (Nat.lt_succ_self _) hw hpx;unfold Fn.bd at hbd;rw[List.nodup_append]at hbd;obtain⟨n1,n2,n3⟩:=hbd;have hlin:(x.pl.body.ow x.pl.params).lin (lin0 x.pl.ow)=0:=by
  refine ow_lin 175 x.pl.body x.pl.params _ hrt hisP n2 (fun n hn=>?_) n1 hfree (lin0_ok (f:=x.pl.ow) n1) (fun n=>?_) rfl
  ·show lkA (x.pl.params.map fun p=>(p,(1:Int))) n=none;rw[lin0_lk,if_neg (fun h=>n3 n h n hn rfl)]
  ·unfold LS.c;show(lkA (x.pl.params.map fun p=>(p,(1:Int))) n).getD 0=_;rw[lin0_lk];split<;> rfl
 have hsz:x.pl.body.sz≤1048576:=by
  have hF:=hPt.fit;generalize x.pl.body=z at hF⊢;obtain⟨k,n,a,b,vs,xs,cs⟩:=z;have:=sz_all hF;rw[Tm.sz];exact this
 obtain⟨-,e1,e2⟩:=rt_nt 175 x.pl.body x.pl.params hrt;have hnc:=x.pl.body.nc_sz;refine⟨⟨?_,ow_shp 175 _ _ hrt hisP hS hpx,(st_all 175 x.pl.body x.pl.params hrt hisP).2.2.2.2.2.1,?_,n1,hpx⟩,?_⟩
 ·rw[Fn.lin_of (f:=x.pl.ow) n1];exact hlin
 ·show(x.pl.body.ow x.pl.params).nt≤_;rw[e1];omega
 ·show(x.pl.body.ow x.pl.params).nc≤_;rw[e2];omega
theorem lv1 {l:List Fn} (hl:M9 l) (hc:Kz l=0):∀f∈mk1 l,Lv f:=fun f hf=>by
 unfold mk1 at hf;obtain⟨g,hg,rfl⟩:=List.mem_map.1 hf;obtain⟨h,hnc⟩:=lv0 hl hc g hg;have hs:=h.shp.s1;have hnt:=fu_nt g.body.sz g.body (Nat.le_refl _) hs;have hgl:=h.lin;rw[Fn.lin_of h.nd]at hgl;obtain⟨-,-,-,-,e5⟩:=fu_st g.body.sz g.body (Nat.le_refl _) hs;refine⟨?_,fu_shp g.body.sz g.body (Nat.le_refl _) h.shp,?_,?_,h.nd,h.nx⟩
 ·rw[Fn.lin_of (f:=g.fu) h.nd];exact fu_lin g.body.sz g.body (Nat.le_refl _) hs _ (lin0_ok h.nd) hgl
 ·show g.body.fu.stT=[]
  rw[e5];exact h.st
 ·show g.body.fu.nt≤_;have:=h.nt;have hz:g.body.nt=0:=by
   unfold mk0 at hg;obtain⟨z,hz,rfl⟩:=List.mem_map.1 hg;obtain⟨-,hrt,-⟩:=pl_body hl hc z hz;exact(rt_nt 175 z.body z.params hrt).2.1
  omega
theorem erL_eq:∀l:List Tm,Tm.erL l=l.map Tm.er
 |[]=>rfl
 |x::r=>by rw[Tm.erL,erL_eq r];rfl
theorem cerL_eq:∀l:List Cs,Cs.erL l=l.map Cs.er
 |[]=>rfl
 |x::r=>by rw[Cs.erL,cerL_eq r];rfl
theorem er_step {k n:Int} {a b:ByteArray} {vs:List ByteArray} {x:Tm} {cs:List Cs} (h:k=8∨k=9∨k=10∨k=11∨k=13):(Tm.mk k n a b vs [x] cs).er=x.er:=by
 rw[Tm.er,if_pos ⟨decide_eq_true h,rfl⟩,Tm.erH]
theorem er_congr {k n:Int} {a b:ByteArray} {vs:List ByteArray} {xs us:List Tm} {cs ds:List Cs} (hl:us.length=xs.length) (hx:Tm.erL us=Tm.erL xs) (hc:Cs.erL ds=Cs.erL cs):(Tm.mk k n a b vs us ds).er=(Tm.mk k n a b vs xs cs).er:=by
 rw[Tm.er,Tm.er,hl];by_cases h:erK k=true∧xs.length=1
 ·rw[if_pos h,if_pos h];cases us with
  |nil=>rw[←hl]at h;simp at h
  |cons u r=>
   cases xs with
   |nil=>simp at h
   |cons x q=>
    rw[Tm.erL,Tm.erL]at hx;rw[Tm.erH,Tm.erH];exact(List.cons.inj hx).1
 ·rw[if_neg h,if_neg h,hx,hc]
theorem sr_er:∀(N:Nat) (t:Tm) (rest:List ByteArray),t.sz≤N→t.S1→(t.sr rest).2.er=t.er:=by
 intro N;induction N with
 |zero=>intro t _ h;have:=t.sz_1;omega
 |succ N ih=>
  intro t rest hN hS;obtain⟨k,n,a,b,vs,xs,cs⟩:=t;rw[Tm.sr];by_cases hc:k=8∧hasB rest a=true
  ·rw[if_pos hc];obtain⟨⟨x,rfl⟩,rfl⟩:=hS.1 (.inl hc.1);obtain⟨rfl,-⟩:=hc;rw[Tm.srL];have hxN:x.sz≤N:=by
    rw[Tm.sz]at hN;simp only[Tm.szs]at hN;omega
   rw[ih x _ hxN hS.2.1.1,er_step (by omega)]
  ·rw[if_neg hc]
theorem fuOne_er {k:Int} {na:Nat} {nm:ByteArray} {ws:List ByteArray} {y:Tm} (hS:y.S1):(Yv k na nm ws y).er=y.er:=by
 unfold Yv;split
 ·rename_i hcond;obtain⟨-,-,-,h9,hnm⟩:=hcond;have h1:=sr_er y.sz y ws (Nat.le_refl _) hS;obtain⟨used,u1,-⟩:=sr_all y.sz y ws (Nat.le_refl _) hS;generalize y.sr ws=Z at *;obtain⟨rest,z⟩:=Z;dsimp only at *;obtain⟨k,n,a,b,vs,xs,cs⟩:=z;rw[Tm.tk]at h9;subst h9;obtain⟨⟨x,rfl⟩,rfl⟩:=u1.1 (.inr (.inl rfl));have ha0:(Tm.mk 9 n a b vs [x] []).a0=x:=rfl;rw[ha0,←h1,er_step (by omega),er_step (by omega),cnt_er (.inr rfl)]
 ·rfl
theorem fu_er:∀(N:Nat) (t:Tm),t.sz≤N→t.S1→t.fu.er=t.er:=by
 intro N;induction N with
 |zero=>intro t h;have:=t.sz_1;omega
 |succ N ih=>
  intro t hN hS;obtain⟨k,n,a,b,vs,xs,cs⟩:=t;rw[Tm.sz]at hN;rw[Tm.fu];refine er_congr (fuL_length xs) ?_ ?_
  ·rw[erL_eq,erL_eq,Tm.Ez,List.map_map];exact List.map_congr_left fun x hx=>ih x (by have:=Tm.X0 hx;omega) (Ox.1 hS.2.1 x hx)
  ·rw[cerL_eq,cerL_eq,Cs.Ez,List.map_map];refine List.map_congr_left fun c hc=>?_
   have hy:=F4.1 hS.2.2 c hc;have hs:=Cs.X0 hc;obtain⟨t,ws,y⟩:=c;rw[Cs.sz]at hs;show(Cs.fu k xs.length (nmH xs) (.mk t ws y)).er=(Cs.mk t ws y).er;rw[Cs.fu,Cs.er,Cs.er,fuOne_er (fu_st y.sz y (Nat.le_refl _) hy).1,ih y (by omega) hy]
theorem mk1_er {l:List Fn} (hl:M9 l) (hc:Kz l=0):∀f∈mk0 l,f.fu.body.er=f.body.er:=fun f hf=>fu_er f.body.sz f.body (Nat.le_refl _) (lv0 hl hc f hf).1.shp.s1
end Go.Proofs.YtjpldhjgehoffaaGreatDoor
namespace Go.Proofs.YtjpldhjgehoffaaGreatDoor
open Go.RowKit
attribute [local simp] Iz mkRc ldOf stOf stOk Nw Mv Rw Kj V9 Yj Yw J3 Y8 Bz evA Vj Dz Value.oneCell' Zj Q4 Z7 Qx1 U6 Z5 AS.after Zq Kq J8 AV.ids Mj Qz.ids frNo Nv G6 Wj H6 Y1 Y3 Vx U1 U0 Yz toD1 Sw setAt U9 Ij Dj L8 Gz L9 binI AV.cells J4 Jq Gq Wq AV.kill Qz.kill AV.has AV.K6 Op.operands Call.operands Dq Dw Zw Qv2 Zx Xq E8 moQ Mk R4 Yk AV.ren E5 Qz.ren Qz.like kept Zz Mw AV.frz Pz Ik Ak F8 Uk AS.frz Tw Rq Qz.frz Hq Hz bleF Nat.ble_eq G9 G7 Yq D.Y5 N7 R8 Vv Vw phO Ew Dk Gx Uj Kv Low Ex
set_option linter.unusedVariables false
set_option linter.unusedSimpArgs false
@[simp] theorem le_maxLen43:43≤maxLen:=by decide
@[simp] theorem le_maxLen74:74≤maxLen:=by decide
def fnH:List Fn→Fn
 |f::_=>f
 |[]=>⟨.empty,[],.mk 0 0 .empty .empty [] [] []⟩
def txF:ByteArray:=⟨#[40,102,110,32,102,32,40,120,41,32,40,109,97,116,99,104,32,120,32,40,35,49,32,40,97,32,98,41,32,97,41,32,40,35,48,32,40,41,32,48,41,41,41]⟩
def prF:List Fn:=(parseP false txF).1
theorem prF_ok:parseP false txF=(prF,0):=by kernel_rfl
theorem Qj7:M9 prF:=fnsOk_of (by kernel_rfl)
theorem prF_check:Kz prF=0:=by kernel_rfl
def bdF:Fn:=fnH (mk1 prF)
theorem prF_made:mk1 prF=[bdF]:=by kernel_rfl
theorem bdF_ok:bdF.okB=true:=by kernel_rfl
theorem bdF_wt:Nat.ble bdF.body.wt 1000000=true:=by kernel_rfl
theorem bdF_sh:bdF.body.sh=⟨#[40,109,97,116,99,104,32,118,49,32,40,35,49,32,40,118,50,32,118,51,41,32,40,116,97,107,101,32,118,49,32,40,118,50,32,118,51,41,32,40,100,114,111,112,32,118,51,32,118,50,41,41,41,32,40,35,48,32,40,41,32,40,100,114,111,112,32,118,49,32,48,41,41,41]⟩:=by kernel_rfl
theorem bdF_stp:bdF.body.stp=3:=by kernel_rfl
theorem bdF_du:bdF.body.Du:=(mk1_fits Qj7 prF_check bdF (by rw[prF_made];simp)).2.1
theorem bdF_fu:bdF.body.fu=bdF.body:=by
 have h:=mk1_fu prF;rw[prF_made]at h;injection h with h _;exact congrArg Fn.body h
theorem sp_aliveF:Z4 Tryz.prog 19 [] (fun _=>.d (.bool true)) none:=by
 have hP:=sp_Parse txF;rw[prF_ok]at hP;unfold txF at hP;have h1:=sp_EachPlain prF Qj7.len (P9 Qj7 prF_check);have h2:=sp_EachOwned (prF.map Fn.pl) (by rw[List.length_map];exact Qj7.len) (Cv Qj7 prF_check);have h3:=sp_FuAll (mk0 prF) (by unfold mk0;rw[List.length_map,List.length_map];exact Qj7.len) (mk0_fits Qj7 prF_check);rw[show(mk0 prF).map Fn.fu=mk1 prF from rfl,prF_made]at h3;rw[show(prF.map Fn.pl).map Fn.ow=mk0 prF from rfl]at h2;obtain⟨hO,hI⟩:=Fn.okB_ok bdF_ok;have hS:=sp_Show bdF.body hI (by have:=Nat.le_of_ble_eq_true bdF_wt;omega);rw[bdF_sh]at hS;have hT:=StN_all bdF.body.sz bdF.body (Nat.le_refl _) hO.body;rw[bdF_stp]at hT;have hF:=fu_all bdF.body.sz bdF.body (Nat.le_refl _) hO.body bdF_du;rw[bdF_fu]at hF;have hE:=sp_refSame bdF.body bdF.body hO.body;rw[S9]at hE;clear hO hI;generalize bdF=f at *;generalize mk0 prF=L2 at *;generalize prF.map Fn.pl=L1 at *;generalize prF=L at *;obtain⟨fg,fps,⟨fk,fn,fa,fb,fvs,fxs,fcs⟩⟩:=f;simp only[L6,List.map_cons,List.map_nil,Fn.row,Tm.row,Tm.Q3,Cs.Q3]at h3;dsimp only at *;refine Z4.of Tryz.func19 rfl rfl rfl (Nat.le_of_ble_eq_true rfl) ?_;show AWp _ _ (Z8 _ Tryz.f19 _ _ _) (Z7 43 _);refine AWp.rg [] [] ?_ (hr:=by conv=>lhs;simp[Fn.row,Tm.row,Tm.Q3,Cs.Q3]);refine AWp.rg [] [.p (fun _=>.tuple [.d (.sl (L.map Fn.row)),.d (.int 0)]) none] ?_ (hr:=by conv=>lhs;simp[Fn.row,Tm.row,Tm.Q3,Cs.Q3]);refine AWp.rg [] [.p (fun _=>.d (.sl (L1.map Fn.row))) none,.p (fun _=>.d (.sl (L2.map Fn.row))) none,.p (fun _=>.d (.sl [[.str fg,Q8 fps,.int fk,.int fn,.str fa,.str fb,Q8 fvs,.sl (fxs.map Tm.row),.sl (fcs.map Cs.row)]])) none] ?_ (hr:=by conv=>lhs;simp[Fn.row,Tm.row,Tm.Q3,Cs.Q3])
 refine AWp.dw [] [.p (fun _=>.d (.str (⟨#[40,109,97,116,99,104,32,118,49,32,40,35,49,32,40,118,50,32,118,51,41,32,40,116,97,107,101,32,118,49,32,40,118,50,32,118,51,41,32,40,100,114,111,112,32,118,51,32,118,50,41,41,41,32,40,35,48,32,40,41,32,40,100,114,111,112,32,118,49,32,48,41,41,41]⟩))) none,.p (fun _=>.d (.int 3)) none,.p (fun _=>.agg [.d (.int fk),.d (.int fn),.d (.str fa),.d (.str fb),.d (Q8 fvs),.d (.sl (fxs.map Tm.row)),.d (.sl (fcs.map Cs.row))]) none,.p (fun _=>.d (.bool true)) none] mixed ?_ (hr:=by conv=>lhs;simp[Fn.row,Tm.row,Tm.Q3,Cs.Q3]);refine AWp.ret ?_;try dsimp only[Qq,Q6]
 apply Z8.ret
 ·rfl
 ·conv=>lhs;simp[Q9,Tryz.results19]
 rfl
theorem linL_x (x:Tm) (s:LS):Tm.D8 [x] [s]=x.lin s:=by
 rw[Tm.D8,Tm.D8];show(if x.lin s≠0 then x.lin s else 0)=_;split<;> omega
def LinN (N:Nat):Prop:=∀t:Tm,t.sz≤N→t.Ok→∀s:LS,s.Wd t.wg→Qv Tryz.prog 39 [.ptr 500 0,X9 t] [(500,.blk 86 [.mp 501,.mp 502,.mp 503]),(501,lcO s.ct),(502,liO s.inn),(503,lcO s.tk)] (.d (.int (t.lin s))) []
theorem LS.openE_form (c:List (ByteArray×Int)) (inn:List (ByteArray×ByteArray)) (tk:List (ByteArray×Int)) (nm:ByteArray):∀vs:List ByteArray,∃e c2,LS.Y4 ⟨c,inn,tk⟩ nm vs=(e,⟨c2,inn,tk⟩):=fun vs=>by
 induction vs generalizing c with
 |nil=>rw[LS.openE_nil];exact LS.P5 c inn tk nm
 |cons v r ih=>
  rw[LS.openE_cons];split
  ·exact⟨_,_,rfl⟩
  ·exact ih _
theorem Qx2 (N:Nat) (ih:LinN N) (tk tn:Int) (ta tb:ByteArray) (tvs:List ByteArray) (txs:List Tm) (tcs:List Cs) (hk:tk=8∨tk=9∨tk=10∨tk=11∨tk=13) (hsz:(Tm.mk tk tn ta tb tvs txs tcs).sz≤N+1) (hO:(Tm.mk tk tn ta tb tvs txs tcs).Ok) (s:LS) (hW:s.Wd (Tm.mk tk tn ta tb tvs txs tcs).wg):
  Qv Tryz.prog 73 [.ptr 500 0,.d (.ptr [.int tk,.int tn,.str ta,.str tb,Q8 tvs,.sl (txs.map Tm.row),.sl (tcs.map Cs.row)])] [(500,.blk 86 [.mp 501,.mp 502,.mp 503]),(501,lcO s.ct),(502,liO s.inn),(503,lcO s.tk)] (.d (.int ((Tm.mk tk tn ta tb tvs txs tcs).lin s))) []:=by
 obtain⟨ct,inn,tok⟩:=s;obtain⟨R,hR⟩:∃R,R=(Tm.mk tk tn ta tb tvs txs tcs).lin ⟨ct,inn,tok⟩:=⟨_,rfl⟩
 rw[←hR];have hxO:∀x∈txs,x.Ok:=fun x hx=>Tm.X8.1 hO.2.2.1 x hx
 obtain⟨o1,o2,o3,o4,o5⟩:=hO.vars;have o1':tvs.length≤8796093022208:=by omega
 simp only[Tm.sz]at hsz;simp only[Tm.wg]at hW;have hwl:=hW.tl;have hwn:(0:Int)≤(tok.length:Int):=Int.natCast_nonneg _;dsimp only at hwl;obtain⟨A,hA⟩:∃A:Int,(txs.length:Int)=A:=⟨_,rfl⟩
 rcases hk with rfl|rfl|rfl|rfl|rfl
 ·rw[if_neg (by omega)]at hW hwl;rw[Tm.lin,if_neg (by omega),if_neg (by omega),if_neg (by omega),if_neg (by omega),if_neg (by omega),if_neg (by omega),if_pos (by omega)]at hR;refine Qv.of Tryz.func73 rfl rfl (Nat.le_of_ble_eq_true rfl) ?_;show AWp _ _ (Qk _ Tryz.f73 _ _) (Zz 137 _ _);refine AWp.rg [] [] ?_ (hr:=by conv=>lhs;simp[Q5,Q7,Tm.row,Tm.Q3,Cs.Q3,hA]);by_cases q1:A=1
  ·have q1t:=eq_true q1;refine AWp.rg [] [] ?_ (hr:=by conv=>lhs;simp[Q5,Q7,Tm.row,Tm.Q3,Cs.Q3,hA,q1t]);refine AWp.cn ?_;refine AWp.skip ?_;obtain⟨x,hxy⟩:∃x,txs=[x]:=by
    have hl1:txs.length=1:=by have:=q1;omega
    rcases txs with _|⟨y0,_|⟨y1,r⟩⟩
    ·simp at hl1
    ·exact⟨y0,rfl⟩
    ·simp at hl1
   have h0x:txs[0]? =some x:=by rw[hxy];rfl
   have hmx:x∈txs:=by rw[hxy];simp
   have hxz:=Tm.X0 hmx;have hxw:=Tm.Lx hmx;have hxk:=hxO x hmx;rw[if_neg (fun h=>h (by rw[hxy];rfl))]at hR;rw[if_pos rfl]at hR;have hth:=cs_lthere ⟨ct,inn,tok⟩ ta hW.big;obtain⟨q,hq⟩:∃q,LS.there ⟨ct,inn,tok⟩ ta=q:=⟨_,rfl⟩
   rw[hq]at hth hR;refine AWp.rg [] [] ?_ (hr:=by conv=>lhs;simp[Q5,Q7,Tm.row,Tm.Q3,Cs.Q3,hA,h0x,q1t]);refine AWp.rg [] [] ?_ (hr:=by conv=>lhs;simp[Q5,Q7,Tm.row,Tm.Q3,Cs.Q3,hA,h0x,q1t]);refine AWp.rg [] [] ?_ (hr:=by conv=>lhs;simp[Q5,Q7,Tm.row,Tm.Q3,Cs.Q3,hA,h0x,q1t]);refine AWp.cy ?_;cases q with
   |true=>
    refine AWp.rg [] [.c [(1000,500),(1001,501),(1002,502),(1003,503)] [.ptr 1000 0,.d (.str ta)] [(1000,.blk 86 [.mp 1001,.mp 1002,.mp 1003]),(1001,.map true false 1 (Qw ct)),(1002,.map true false 1 (Xx inn)),(1003,.map true false 1 (Qw tok))] (.d (.bool true)) [(1000,.blk 86 [.mp 1001,.mp 1002,.mp 1003]),(1001,.map true false 1 (Qw ct)),(1002,.map true false 1 (Xx inn)),(1003,.map true false 1 (Qw tok))]] ?_ (hr:=by conv=>lhs;simp[Q5,Q7,Tm.row,Tm.Q3,Cs.Q3,hA,h0x,q1t]);refine AWp.cn ?_;refine AWp.skip ?_;cases hk:lkA ct ta with
    |none=>
     have hkg:D.Xz (.str ta) (Qw ct)=none:=by rw[X4,hk];rfl
     have hin:LS.inc ⟨ct,inn,tok⟩ ta=⟨Xj ct ta 1,inn,tok⟩:=by unfold LS.inc LS.c;rw[hk];rfl
     rw[if_pos rfl,hin]at hR;have hWi:=LS.Wd.inc (s:=⟨ct,inn,tok⟩) (W:=x.wg) (hW.mono (by omega)) ta;rw[hin]at hWi;rw[hxy,linL_x]at hR;have hx:=ih x (by omega) hxk ⟨Xj ct ta 1,inn,tok⟩ hWi;rw[←hR]at hx;obtain⟨xk,xn,xa,xb,xvs,xxs,xcs⟩:=x;refine AWp.dw [] [] mixed ?_ (hr:=by conv=>lhs;simp[Q5,Q7,Tm.row,Tm.Q3,Cs.Q3,hA,h0x,hkg,q1t]);refine AWp.rg [] [] ?_ (hr:=by conv=>lhs;simp[Q5,Q7,Tm.row,Tm.Q3,Cs.Q3,hA,h0x,hkg,q1t]);refine AWp.cn ?_;refine AWp.skip ?_;refine AWp.rg [] [.c [] [.ptr 500 0,.agg [.d (.int xk),.d (.int xn),.d (.str xa),.d (.str xb),.d (Q8 xvs),.d (.sl (xxs.map Tm.row)),.d (.sl (xcs.map Cs.row))]] [(500,.blk 86 [.mp 501,.mp 502,.mp 503]),(501,.map true false 1 (Qw (Xj ct ta 1))),(502,.map true false 1 (Xx inn)),(503,.map true false 1 (Qw tok))] (.d (.int R)) []] ?_ (hr:=by conv=>lhs;simp[Q5,Q7,Tm.row,Tm.Q3,Cs.Q3,hA,h0x,hkg,q1t]);refine AWp.ret ?_;try dsimp only[Qq,Q6]
     apply Qk.ret
     ·rfl
     ·conv=>lhs;simp[Q9,Tryz.results73]
     ·rfl
     ·simp[Qx,Q4]
    |some k=>
     have hkg:D.Xz (.str ta) (Qw ct)=some [.int k]:=by rw[X4,hk];rfl
     have hkb:=hW.bd.at hk;have hin:LS.inc ⟨ct,inn,tok⟩ ta=⟨Xj ct ta (k+1),inn,tok⟩:=by unfold LS.inc LS.c;rw[hk];rfl
     rw[if_pos rfl,hin]at hR;have hWi:=LS.Wd.inc (s:=⟨ct,inn,tok⟩) (W:=x.wg) (hW.mono (by omega)) ta;rw[hin]at hWi;rw[hxy,linL_x]at hR;have hx:=ih x (by omega) hxk ⟨Xj ct ta (k+1),inn,tok⟩ hWi;rw[←hR]at hx;obtain⟨xk,xn,xa,xb,xvs,xxs,xcs⟩:=x;refine AWp.dw [] [] mixed ?_ (hr:=by conv=>lhs;simp[Q5,Q7,Tm.row,Tm.Q3,Cs.Q3,hA,h0x,hkg,q1t]);refine AWp.rg [] [] ?_ (hr:=by conv=>lhs;simp[Q5,Q7,Tm.row,Tm.Q3,Cs.Q3,hA,h0x,hkg,q1t]);refine AWp.cn ?_;refine AWp.skip ?_;refine AWp.rg [] [.c [] [.ptr 500 0,.agg [.d (.int xk),.d (.int xn),.d (.str xa),.d (.str xb),.d (Q8 xvs),.d (.sl (xxs.map Tm.row)),.d (.sl (xcs.map Cs.row))]] [(500,.blk 86 [.mp 501,.mp 502,.mp 503]),(501,.map true false 1 (Qw (Xj ct ta (k+1)))),(502,.map true false 1 (Xx inn)),(503,.map true false 1 (Qw tok))] (.d (.int R)) []] ?_ (hr:=by conv=>lhs;simp[Q5,Q7,Tm.row,Tm.Q3,Cs.Q3,hA,h0x,hkg,q1t]);refine AWp.ret ?_;try dsimp only[Qq,Q6]
     apply Qk.ret
     ·rfl
     ·conv=>lhs;simp[Q9,Tryz.results73]
     ·rfl
     ·simp[Qx,Q4]
   |false=>
    refine AWp.rg [] [.c [(1000,500),(1001,501),(1002,502),(1003,503)] [.ptr 1000 0,.d (.str ta)] [(1000,.blk 86 [.mp 1001,.mp 1002,.mp 1003]),(1001,.map true false 1 (Qw ct)),(1002,.map true false 1 (Xx inn)),(1003,.map true false 1 (Qw tok))] (.d (.bool false)) [(1000,.blk 86 [.mp 1001,.mp 1002,.mp 1003]),(1001,.map true false 1 (Qw ct)),(1002,.map true false 1 (Xx inn)),(1003,.map true false 1 (Qw tok))]] ?_ (hr:=by conv=>lhs;simp[Q5,Q7,Tm.row,Tm.Q3,Cs.Q3,hA,h0x,q1t]);refine AWp.cy ?_;refine AWp.rg [] [] ?_ (hr:=by conv=>lhs;simp[Q5,Q7,Tm.row,Tm.Q3,Cs.Q3,hA,h0x,q1t]);refine AWp.ret ?_;rw[if_neg (by simp)]at hR;rw[hR];try dsimp only[Qq,Q6]
    apply Qk.ret
    ·rfl
    ·conv=>lhs;simp[Q9,Tryz.results73]
    ·first|rfl|simp
    ·simp[Qx,Q4]
  refine AWp.rg [] [] ?_ (hr:=by conv=>lhs;simp[Q5,Q7,Tm.row,Tm.Q3,Cs.Q3,hA,q1]);refine AWp.cy ?_;refine AWp.rg [] [] ?_ (hr:=by conv=>lhs;simp[Q5,Q7,Tm.row,Tm.Q3,Cs.Q3,hA,q1]);refine AWp.ret ?_;rw[if_pos (fun h=>q1 (by rw[←hA,h];rfl))]at hR;rw[hR];try dsimp only[Qq,Q6]
  apply Qk.ret
  ·rfl
  ·conv=>lhs;simp[Q9,Tryz.results73]
  ·first|rfl|simp
  ·simp[Qx,Q4]
 ·rw[if_neg (by omega)]at hW hwl;rw[Tm.lin,if_neg (by omega),if_neg (by omega),if_neg (by omega),if_neg (by omega),if_neg (by omega),if_neg (by omega),if_pos (by omega)]at hR;refine Qv.of Tryz.func73 rfl rfl (Nat.le_of_ble_eq_true rfl) ?_;show AWp _ _ (Qk _ Tryz.f73 _ _) (Zz 137 _ _);refine AWp.rg [] [] ?_ (hr:=by conv=>lhs;simp[Q5,Q7,Tm.row,Tm.Q3,Cs.Q3,hA]);by_cases q2:A=1
  ·have q2t:=eq_true q2;refine AWp.rg [] [] ?_ (hr:=by conv=>lhs;simp[Q5,Q7,Tm.row,Tm.Q3,Cs.Q3,hA,q2t]);refine AWp.cn ?_;refine AWp.skip ?_;obtain⟨x,hxy⟩:∃x,txs=[x]:=by
    have hl1:txs.length=1:=by have:=q2;omega
    rcases txs with _|⟨y0,_|⟨y1,r⟩⟩
    ·simp at hl1
    ·exact⟨y0,rfl⟩
    ·simp at hl1
   have h0x:txs[0]? =some x:=by rw[hxy];rfl
   have hmx:x∈txs:=by rw[hxy];simp
   have hxz:=Tm.X0 hmx;have hxw:=Tm.Lx hmx;have hxk:=hxO x hmx;rw[if_neg (fun h=>h (by rw[hxy];rfl))]at hR;rw[if_neg (by omega),if_pos rfl]at hR;have hu:=cs_luse ⟨ct,inn,tok⟩ ta hW.big;have hWu:=LS.Wd.use (s:=⟨ct,inn,tok⟩) hW ta;obtain⟨e,c2,hue⟩:=LS.P5 ct inn tok ta;rw[hue]at hu hWu hR;dsimp only at hu hWu hR;refine AWp.rg [] [] ?_ (hr:=by conv=>lhs;simp[Q5,Q7,Tm.row,Tm.Q3,Cs.Q3,hA,h0x,q2t]);refine AWp.rg [] [] ?_ (hr:=by conv=>lhs;simp[Q5,Q7,Tm.row,Tm.Q3,Cs.Q3,hA,h0x,q2t]);refine AWp.rg [] [] ?_ (hr:=by conv=>lhs;simp[Q5,Q7,Tm.row,Tm.Q3,Cs.Q3,hA,h0x,q2t]);refine AWp.cn ?_;refine AWp.rg [] [] ?_ (hr:=by conv=>lhs;simp[Q5,Q7,Tm.row,Tm.Q3,Cs.Q3,hA,h0x,q2t]);refine AWp.cy ?_;refine AWp.rg [] [.c [(1000,500),(1001,501),(1002,502),(1003,503)] [.ptr 1000 0,.d (.str ta)] [(1000,.blk 86 [.mp 1001,.mp 1002,.mp 1003]),(1001,.map true false 1 (Qw ct)),(1002,.map true false 1 (Xx inn)),(1003,.map true false 1 (Qw tok))] (.d (.int e)) [(1000,.blk 86 [.mp 1001,.mp 1002,.mp 1003]),(1001,.map true false 1 (Qw c2)),(1002,.map true false 1 (Xx inn)),(1003,.map true false 1 (Qw tok))]] ?_ (hr:=by conv=>lhs;simp[Q5,Q7,Tm.row,Tm.Q3,Cs.Q3,hA,h0x,q2t]);by_cases q3:e=0
   ·refine AWp.rg [] [] ?_ (hr:=by conv=>lhs;simp[Q5,Q7,Tm.row,Tm.Q3,Cs.Q3,hA,h0x,q2t,q3]);refine AWp.cn ?_;refine AWp.skip ?_;rw[if_neg (fun h=>h q3)]at hR;rw[hxy,linL_x]at hR;have hx:=ih x (by omega) hxk ⟨c2,inn,tok⟩ (hWu.mono (by omega));rw[←hR]at hx;obtain⟨xk,xn,xa,xb,xvs,xxs,xcs⟩:=x;refine AWp.rg [] [.c [] [.ptr 500 0,.agg [.d (.int xk),.d (.int xn),.d (.str xa),.d (.str xb),.d (Q8 xvs),.d (.sl (xxs.map Tm.row)),.d (.sl (xcs.map Cs.row))]] [(500,.blk 86 [.mp 501,.mp 502,.mp 503]),(501,.map true false 1 (Qw c2)),(502,.map true false 1 (Xx inn)),(503,.map true false 1 (Qw tok))] (.d (.int R)) []] ?_ (hr:=by conv=>lhs;simp[Q5,Q7,Tm.row,Tm.Q3,Cs.Q3,hA,h0x,q2t,q3]);refine AWp.ret ?_;try dsimp only[Qq,Q6]
    apply Qk.ret
    ·rfl
    ·conv=>lhs;simp[Q9,Tryz.results73]
    ·rfl
    ·simp[Qx,Q4]
   refine AWp.rg [] [] ?_ (hr:=by conv=>lhs;simp[Q5,Q7,Tm.row,Tm.Q3,Cs.Q3,hA,h0x,q2t,q3]);refine AWp.cy ?_;refine AWp.rg [] [] ?_ (hr:=by conv=>lhs;simp[Q5,Q7,Tm.row,Tm.Q3,Cs.Q3,hA,h0x,q2t,q3]);refine AWp.ret ?_;rw[if_pos q3]at hR;rw[hR];try dsimp only[Qq,Q6]
   apply Qk.ret
   ·rfl
   ·conv=>lhs;simp[Q9,Tryz.results73]
   ·first|rfl|simp
   ·simp[Qx,Q4]
  refine AWp.rg [] [] ?_ (hr:=by conv=>lhs;simp[Q5,Q7,Tm.row,Tm.Q3,Cs.Q3,hA,q2]);refine AWp.cy ?_;refine AWp.rg [] [] ?_ (hr:=by conv=>lhs;simp[Q5,Q7,Tm.row,Tm.Q3,Cs.Q3,hA,q2]);refine AWp.ret ?_;rw[if_pos (fun h=>q2 (by rw[←hA,h];rfl))]at hR;rw[hR];try dsimp only[Qq,Q6]
  apply Qk.ret
  ·rfl
  ·conv=>lhs;simp[Q9,Tryz.results73]
  ·first|rfl|simp
  ·simp[Qx,Q4]
 ·rw[if_pos (by omega)]at hW hwl;rw[Tm.lin,if_neg (by omega),if_neg (by omega),if_neg (by omega),if_neg (by omega),if_neg (by omega),if_neg (by omega),if_pos (by omega)]at hR;refine Qv.of Tryz.func73 rfl rfl (Nat.le_of_ble_eq_true rfl) ?_;show AWp _ _ (Qk _ Tryz.f73 _ _) (Zz 137 _ _);refine AWp.rg [] [] ?_ (hr:=by conv=>lhs;simp[Q5,Q7,Tm.row,Tm.Q3,Cs.Q3,hA]);by_cases q4:A=1
  ·have q4t:=eq_true q4;refine AWp.rg [] [] ?_ (hr:=by conv=>lhs;simp[Q5,Q7,Tm.row,Tm.Q3,Cs.Q3,hA,q4t]);refine AWp.cn ?_;refine AWp.skip ?_;obtain⟨x,hxy⟩:∃x,txs=[x]:=by
    have hl1:txs.length=1:=by have:=q4;omega
    rcases txs with _|⟨y0,_|⟨y1,r⟩⟩
    ·simp at hl1
    ·exact⟨y0,rfl⟩
    ·simp at hl1
   have h0x:txs[0]? =some x:=by rw[hxy];rfl
   have hmx:x∈txs:=by rw[hxy];simp
   have hxz:=Tm.X0 hmx;have hxw:=Tm.Lx hmx;have hxk:=hxO x hmx;rw[if_neg (fun h=>h (by rw[hxy];rfl))]at hR;rw[if_neg (by omega),if_neg (by omega),if_neg (by omega)]at hR;have hop:=cs_lopen ⟨ct,inn,tok⟩ 10 tn ta tb tvs txs tcs _ o1' hW.bd (by have:=hwl;omega);have hWo:=LS.Wd.Y4 tvs (s:=⟨ct,inn,tok⟩) (W:=1+x.wg) (hW.mono (by omega)) ta;obtain⟨e,c2,hue⟩:=LS.openE_form ct inn tok ta tvs;rw[hue]at hop hWo hR;dsimp only at hop hWo hR;refine AWp.rg [] [] ?_ (hr:=by conv=>lhs;simp[Q5,Q7,Tm.row,Tm.Q3,Cs.Q3,hA,h0x,q4t]);refine AWp.rg [] [] ?_ (hr:=by conv=>lhs;simp[Q5,Q7,Tm.row,Tm.Q3,Cs.Q3,hA,h0x,q4t]);refine AWp.rg [] [] ?_ (hr:=by conv=>lhs;simp[Q5,Q7,Tm.row,Tm.Q3,Cs.Q3,hA,h0x,q4t]);refine AWp.cn ?_;refine AWp.rg [] [] ?_ (hr:=by conv=>lhs;simp[Q5,Q7,Tm.row,Tm.Q3,Cs.Q3,hA,h0x,q4t]);refine AWp.cn ?_;refine AWp.rg [] [] ?_ (hr:=by conv=>lhs;simp[Q5,Q7,Tm.row,Tm.Q3,Cs.Q3,hA,h0x,q4t]);refine AWp.cy ?_;refine AWp.skip ?_;refine AWp.cy ?_;refine AWp.rg [] [.c [(1000,500),(1001,501),(1002,502),(1003,503)] [.ptr 1000 0,.d (.ptr [.int 10,.int tn,.str ta,.str tb,Q8 tvs,.sl (txs.map Tm.row),.sl (tcs.map Cs.row)])] [(1000,.blk 86 [.mp 1001,.mp 1002,.mp 1003]),(1001,.map true false 1 (Qw ct)),(1002,.map true false 1 (Xx inn)),(1003,.map true false 1 (Qw tok))] (.d (.int e)) [(1000,.blk 86 [.mp 1001,.mp 1002,.mp 1003]),(1001,.map true false 1 (Qw c2)),(1002,.map true false 1 (Xx inn)),(1003,.map true false 1 (Qw tok))]] ?_ (hr:=by conv=>lhs;simp[Q5,Q7,Tm.row,Tm.Q3,Cs.Q3,hA,h0x,q4t]);cases ht:lkA tok tb with
   |none=>
    have htg:D.Xz (.str tb) (Qw tok)=none:=by rw[X4,ht];rfl
    refine AWp.dw [] [] mixed ?_ (hr:=by conv=>lhs;simp[Q5,Q7,Tm.row,Tm.Q3,Cs.Q3,hA,h0x,htg,q4t]);refine AWp.rg [] [] ?_ (hr:=by conv=>lhs;simp[Q5,Q7,Tm.row,Tm.Q3,Cs.Q3,hA,h0x,htg,q4t]);refine AWp.cn ?_;refine AWp.skip ?_;by_cases q5:e=0
    ·refine AWp.rg [] [] ?_ (hr:=by conv=>lhs;simp[Q5,Q7,Tm.row,Tm.Q3,Cs.Q3,hA,h0x,htg,q4t,q5]);refine AWp.cn ?_;refine AWp.skip ?_;rw[if_neg (fun h=>h q5),if_neg (by omega)]at hR;rw[hxy,linL_x]at hR;have hx:=ih x (by omega) hxk ⟨c2,inn,tok⟩ (hWo.mono (by omega));rw[←hR]at hx;obtain⟨xk,xn,xa,xb,xvs,xxs,xcs⟩:=x;refine AWp.rg [] [.c [] [.ptr 500 0,.agg [.d (.int xk),.d (.int xn),.d (.str xa),.d (.str xb),.d (Q8 xvs),.d (.sl (xxs.map Tm.row)),.d (.sl (xcs.map Cs.row))]] [(500,.blk 86 [.mp 501,.mp 502,.mp 503]),(501,.map true false 1 (Qw c2)),(502,.map true false 1 (Xx inn)),(503,.map true false 1 (Qw tok))] (.d (.int R)) []] ?_ (hr:=by conv=>lhs;simp[Q5,Q7,Tm.row,Tm.Q3,Cs.Q3,hA,h0x,htg,q4t,q5]);refine AWp.ret ?_;try dsimp only[Qq,Q6]
     apply Qk.ret
     ·rfl
     ·conv=>lhs;simp[Q9,Tryz.results73]
     ·rfl
     ·simp[Qx,Q4]
    refine AWp.rg [] [] ?_ (hr:=by conv=>lhs;simp[Q5,Q7,Tm.row,Tm.Q3,Cs.Q3,hA,h0x,htg,q4t,q5]);refine AWp.cy ?_;refine AWp.rg [] [] ?_ (hr:=by conv=>lhs;simp[Q5,Q7,Tm.row,Tm.Q3,Cs.Q3,hA,h0x,htg,q4t,q5]);refine AWp.ret ?_;rw[if_pos q5]at hR;rw[hR];try dsimp only[Qq,Q6]
    apply Qk.ret
    ·rfl
    ·conv=>lhs;simp[Q9,Tryz.results73]
    ·first|rfl|simp
    ·simp[Qx,Q4]
   |some k=>
    have htg:D.Xz (.str tb) (Qw tok)=some [.int k]:=by rw[X4,ht];rfl
    refine AWp.dw [] [] mixed ?_ (hr:=by conv=>lhs;simp[Q5,Q7,Tm.row,Tm.Q3,Cs.Q3,hA,h0x,htg,q4t]);refine AWp.rg [] [] ?_ (hr:=by conv=>lhs;simp[Q5,Q7,Tm.row,Tm.Q3,Cs.Q3,hA,h0x,htg,q4t]);refine AWp.cn ?_;refine AWp.skip ?_;by_cases q6:e=0
    ·refine AWp.rg [] [] ?_ (hr:=by conv=>lhs;simp[Q5,Q7,Tm.row,Tm.Q3,Cs.Q3,hA,h0x,htg,q4t,q6]);refine AWp.cn ?_;refine AWp.skip ?_;rw[if_neg (fun h=>h q6),if_neg (by omega)]at hR;rw[hxy,linL_x]at hR;have hx:=ih x (by omega) hxk ⟨c2,inn,tok⟩ (hWo.mono (by omega));rw[←hR]at hx;obtain⟨xk,xn,xa,xb,xvs,xxs,xcs⟩:=x;refine AWp.rg [] [.c [] [.ptr 500 0,.agg [.d (.int xk),.d (.int xn),.d (.str xa),.d (.str xb),.d (Q8 xvs),.d (.sl (xxs.map Tm.row)),.d (.sl (xcs.map Cs.row))]] [(500,.blk 86 [.mp 501,.mp 502,.mp 503]),(501,.map true false 1 (Qw c2)),(502,.map true false 1 (Xx inn)),(503,.map true false 1 (Qw tok))] (.d (.int R)) []] ?_ (hr:=by conv=>lhs;simp[Q5,Q7,Tm.row,Tm.Q3,Cs.Q3,hA,h0x,htg,q4t,q6]);refine AWp.ret ?_;try dsimp only[Qq,Q6]
     apply Qk.ret
     ·rfl
     ·conv=>lhs;simp[Q9,Tryz.results73]
     ·rfl
     ·simp[Qx,Q4]
    refine AWp.rg [] [] ?_ (hr:=by conv=>lhs;simp[Q5,Q7,Tm.row,Tm.Q3,Cs.Q3,hA,h0x,htg,q4t,q6]);refine AWp.cy ?_;refine AWp.rg [] [] ?_ (hr:=by conv=>lhs;simp[Q5,Q7,Tm.row,Tm.Q3,Cs.Q3,hA,h0x,htg,q4t,q6]);refine AWp.ret ?_;rw[if_pos q6]at hR;rw[hR];try dsimp only[Qq,Q6]
    apply Qk.ret
    ·rfl
    ·conv=>lhs;simp[Q9,Tryz.results73]
    ·first|rfl|simp
    ·simp[Qx,Q4]
  refine AWp.rg [] [] ?_ (hr:=by conv=>lhs;simp[Q5,Q7,Tm.row,Tm.Q3,Cs.Q3,hA,q4]);refine AWp.cy ?_;refine AWp.rg [] [] ?_ (hr:=by conv=>lhs;simp[Q5,Q7,Tm.row,Tm.Q3,Cs.Q3,hA,q4]);refine AWp.ret ?_;rw[if_pos (fun h=>q4 (by rw[←hA,h];rfl))]at hR;rw[hR];try dsimp only[Qq,Q6]
  apply Qk.ret
  ·rfl
  ·conv=>lhs;simp[Q9,Tryz.results73]
  ·first|rfl|simp
  ·simp[Qx,Q4]
 ·rw[if_pos (by omega)]at hW hwl;rw[Tm.lin,if_neg (by omega),if_neg (by omega),if_neg (by omega),if_neg (by omega),if_neg (by omega),if_neg (by omega),if_pos (by omega)]at hR;refine Qv.of Tryz.func73 rfl rfl (Nat.le_of_ble_eq_true rfl) ?_;show AWp _ _ (Qk _ Tryz.f73 _ _) (Zz 137 _ _);refine AWp.rg [] [] ?_ (hr:=by conv=>lhs;simp[Q5,Q7,Tm.row,Tm.Q3,Cs.Q3,hA]);by_cases q7:A=1
  ·have q7t:=eq_true q7;refine AWp.rg [] [] ?_ (hr:=by conv=>lhs;simp[Q5,Q7,Tm.row,Tm.Q3,Cs.Q3,hA,q7t]);refine AWp.cn ?_;refine AWp.skip ?_;obtain⟨x,hxy⟩:∃x,txs=[x]:=by
    have hl1:txs.length=1:=by have:=q7;omega
    rcases txs with _|⟨y0,_|⟨y1,r⟩⟩
    ·simp at hl1
    ·exact⟨y0,rfl⟩
    ·simp at hl1
   have h0x:txs[0]? =some x:=by rw[hxy];rfl
   have hmx:x∈txs:=by rw[hxy];simp
   have hxz:=Tm.X0 hmx;have hxw:=Tm.Lx hmx;have hxk:=hxO x hmx;rw[if_neg (fun h=>h (by rw[hxy];rfl))]at hR;rw[if_neg (by omega),if_neg (by omega),if_neg (by omega)]at hR;have hop:=cs_lopen ⟨ct,inn,tok⟩ 11 tn ta tb tvs txs tcs _ o1' hW.bd (by have:=hwl;omega);have hWo:=LS.Wd.Y4 tvs (s:=⟨ct,inn,tok⟩) (W:=1+x.wg) (hW.mono (by omega)) ta;obtain⟨e,c2,hue⟩:=LS.openE_form ct inn tok ta tvs;rw[hue]at hop hWo hR;dsimp only at hop hWo hR;refine AWp.rg [] [] ?_ (hr:=by conv=>lhs;simp[Q5,Q7,Tm.row,Tm.Q3,Cs.Q3,hA,h0x,q7t]);refine AWp.rg [] [] ?_ (hr:=by conv=>lhs;simp[Q5,Q7,Tm.row,Tm.Q3,Cs.Q3,hA,h0x,q7t]);refine AWp.rg [] [] ?_ (hr:=by conv=>lhs;simp[Q5,Q7,Tm.row,Tm.Q3,Cs.Q3,hA,h0x,q7t]);refine AWp.cn ?_;refine AWp.rg [] [] ?_ (hr:=by conv=>lhs;simp[Q5,Q7,Tm.row,Tm.Q3,Cs.Q3,hA,h0x,q7t]);refine AWp.cn ?_;refine AWp.rg [] [] ?_ (hr:=by conv=>lhs;simp[Q5,Q7,Tm.row,Tm.Q3,Cs.Q3,hA,h0x,q7t]);refine AWp.cn ?_;refine AWp.rg [] [] ?_ (hr:=by conv=>lhs;simp[Q5,Q7,Tm.row,Tm.Q3,Cs.Q3,hA,h0x,q7t]);refine AWp.cy ?_;refine AWp.rg [] [.c [(1000,500),(1001,501),(1002,502),(1003,503)] [.ptr 1000 0,.d (.ptr [.int 11,.int tn,.str ta,.str tb,Q8 tvs,.sl (txs.map Tm.row),.sl (tcs.map Cs.row)])] [(1000,.blk 86 [.mp 1001,.mp 1002,.mp 1003]),(1001,.map true false 1 (Qw ct)),(1002,.map true false 1 (Xx inn)),(1003,.map true false 1 (Qw tok))] (.d (.int e)) [(1000,.blk 86 [.mp 1001,.mp 1002,.mp 1003]),(1001,.map true false 1 (Qw c2)),(1002,.map true false 1 (Xx inn)),(1003,.map true false 1 (Qw tok))]] ?_ (hr:=by conv=>lhs;simp[Q5,Q7,Tm.row,Tm.Q3,Cs.Q3,hA,h0x,q7t]);cases ht:lkA tok tb with
   |none=>
    have htg:D.Xz (.str tb) (Qw tok)=none:=by rw[X4,ht];rfl
    refine AWp.dw [] [] mixed ?_ (hr:=by conv=>lhs;simp[Q5,Q7,Tm.row,Tm.Q3,Cs.Q3,hA,h0x,htg,q7t]);by_cases q8:e=0
    ·refine AWp.rg [] [] ?_ (hr:=by conv=>lhs;simp[Q5,Q7,Tm.row,Tm.Q3,Cs.Q3,hA,h0x,htg,q7t,q8]);refine AWp.cy ?_;by_cases hb:tb=⟨#[]⟩
     ·have hbt:=eq_true hb;refine AWp.rg [] [] ?_ (hr:=by conv=>lhs;simp[Q5,Q7,Tm.row,Tm.Q3,Cs.Q3,hA,h0x,htg,q7t,q8,hbt]);refine AWp.cy ?_;refine AWp.rg [] [] ?_ (hr:=by conv=>lhs;simp[Q5,Q7,Tm.row,Tm.Q3,Cs.Q3,hA,h0x,htg,q7t,q8,hbt]);refine AWp.ret ?_;rw[if_neg (fun h=>h q8),if_pos rfl,if_pos (Or.inr (show tb=ByteArray.empty from hb))]at hR;rw[hR];try dsimp only[Qq,Q6]
      apply Qk.ret
      ·rfl
      ·conv=>lhs;simp[Q9,Tryz.results73]
      ·first|rfl|simp
      ·simp[Qx,Q4]
     refine AWp.rg [] [] ?_ (hr:=by conv=>lhs;simp[Q5,Q7,Tm.row,Tm.Q3,Cs.Q3,hA,h0x,htg,q7t,q8,hb]);refine AWp.cn ?_;refine AWp.skip ?_;rw[if_neg (fun h=>h q8),if_pos rfl,if_neg (fun h=>h.elim (fun h=>by rw[ht]at h;cases h) (fun h=>hb h))]at hR;refine AWp.dw [] [] mixed ?_ (hr:=by conv=>lhs;simp[Q5,Q7,Tm.row,Tm.Q3,Cs.Q3,hA,h0x,htg,q7t,q8,hb]);refine AWp.rg [] [] ?_ (hr:=by conv=>lhs;simp[Q5,Q7,Tm.row,Tm.Q3,Cs.Q3,hA,h0x,htg,q7t,q8,hb]);refine AWp.cn ?_;refine AWp.skip ?_;rw[hxy,linL_x]at hR;have hx:=ih x (by omega) hxk ⟨c2,inn,Xj tok tb tvs.length⟩ (LS.Wd.tput (s:=⟨c2,inn,tok⟩) (hWo.mono (by omega)) tb tvs.length);rw[←hR]at hx;obtain⟨xk,xn,xa,xb,xvs,xxs,xcs⟩:=x;refine AWp.rg [] [.c [] [.ptr 500 0,.agg [.d (.int xk),.d (.int xn),.d (.str xa),.d (.str xb),.d (Q8 xvs),.d (.sl (xxs.map Tm.row)),.d (.sl (xcs.map Cs.row))]] [(500,.blk 86 [.mp 501,.mp 502,.mp 503]),(501,.map true false 1 (Qw c2)),(502,.map true false 1 (Xx inn)),(503,.map true false 1 (Qw (Xj tok tb tvs.length)))] (.d (.int R)) []] ?_ (hr:=by conv=>lhs;simp[Q5,Q7,Tm.row,Tm.Q3,Cs.Q3,hA,h0x,htg,q7t,q8,hb]);refine AWp.ret ?_;try dsimp only[Qq,Q6]
     apply Qk.ret
     ·rfl
     ·conv=>lhs;simp[Q9,Tryz.results73]
     ·rfl
     ·simp[Qx,Q4]
    refine AWp.rg [] [] ?_ (hr:=by conv=>lhs;simp[Q5,Q7,Tm.row,Tm.Q3,Cs.Q3,hA,h0x,htg,q7t,q8]);refine AWp.cn ?_;refine AWp.skip ?_;refine AWp.rg [] [] ?_ (hr:=by conv=>lhs;simp[Q5,Q7,Tm.row,Tm.Q3,Cs.Q3,hA,h0x,htg,q7t,q8]);refine AWp.cy ?_;refine AWp.rg [] [] ?_ (hr:=by conv=>lhs;simp[Q5,Q7,Tm.row,Tm.Q3,Cs.Q3,hA,h0x,htg,q7t,q8]);refine AWp.ret ?_;rw[if_pos q8]at hR;rw[hR];try dsimp only[Qq,Q6]
    apply Qk.ret
    ·rfl
    ·conv=>lhs;simp[Q9,Tryz.results73]
    ·first|rfl|simp
    ·simp[Qx,Q4]
   |some k=>
    have htg:D.Xz (.str tb) (Qw tok)=some [.int k]:=by rw[X4,ht];rfl
    refine AWp.dw [] [] mixed ?_ (hr:=by conv=>lhs;simp[Q5,Q7,Tm.row,Tm.Q3,Cs.Q3,hA,h0x,htg,q7t]);by_cases q9:e=0
    ·refine AWp.rg [] [] ?_ (hr:=by conv=>lhs;simp[Q5,Q7,Tm.row,Tm.Q3,Cs.Q3,hA,h0x,htg,q7t,q9]);refine AWp.cy ?_;refine AWp.rg [] [] ?_ (hr:=by conv=>lhs;simp[Q5,Q7,Tm.row,Tm.Q3,Cs.Q3,hA,h0x,htg,q7t,q9]);refine AWp.cy ?_;refine AWp.rg [] [] ?_ (hr:=by conv=>lhs;simp[Q5,Q7,Tm.row,Tm.Q3,Cs.Q3,hA,h0x,htg,q7t,q9]);refine AWp.ret ?_;rw[if_neg (fun h=>h q9),if_pos rfl,if_pos (Or.inl (by rw[ht];rfl))]at hR;rw[hR];try dsimp only[Qq,Q6]
     apply Qk.ret
     ·rfl
     ·conv=>lhs;simp[Q9,Tryz.results73]
     ·first|rfl|simp
     ·simp[Qx,Q4]
    refine AWp.rg [] [] ?_ (hr:=by conv=>lhs;simp[Q5,Q7,Tm.row,Tm.Q3,Cs.Q3,hA,h0x,htg,q7t,q9]);refine AWp.cn ?_;refine AWp.skip ?_;refine AWp.rg [] [] ?_ (hr:=by conv=>lhs;simp[Q5,Q7,Tm.row,Tm.Q3,Cs.Q3,hA,h0x,htg,q7t,q9]);refine AWp.cy ?_;refine AWp.rg [] [] ?_ (hr:=by conv=>lhs;simp[Q5,Q7,Tm.row,Tm.Q3,Cs.Q3,hA,h0x,htg,q7t,q9]);refine AWp.ret ?_;rw[if_pos q9]at hR;rw[hR];try dsimp only[Qq,Q6]
    apply Qk.ret
    ·rfl
    ·conv=>lhs;simp[Q9,Tryz.results73]
    ·first|rfl|simp
    ·simp[Qx,Q4]
  refine AWp.rg [] [] ?_ (hr:=by conv=>lhs;simp[Q5,Q7,Tm.row,Tm.Q3,Cs.Q3,hA,q7]);refine AWp.cy ?_;refine AWp.rg [] [] ?_ (hr:=by conv=>lhs;simp[Q5,Q7,Tm.row,Tm.Q3,Cs.Q3,hA,q7]);refine AWp.ret ?_;rw[if_pos (fun h=>q7 (by rw[←hA,h];rfl))]at hR;rw[hR];try dsimp only[Qq,Q6]
  apply Qk.ret
  ·rfl
  ·conv=>lhs;simp[Q9,Tryz.results73]
  ·first|rfl|simp
  ·simp[Qx,Q4]
 ·rw[if_neg (by omega)]at hW hwl;rw[Tm.lin,if_neg (by omega),if_neg (by omega),if_neg (by omega),if_neg (by omega),if_neg (by omega),if_neg (by omega),if_pos (by omega)]at hR;refine Qv.of Tryz.func73 rfl rfl (Nat.le_of_ble_eq_true rfl) ?_;show AWp _ _ (Qk _ Tryz.f73 _ _) (Zz 137 _ _);refine AWp.rg [] [] ?_ (hr:=by conv=>lhs;simp[Q5,Q7,Tm.row,Tm.Q3,Cs.Q3,hA]);by_cases q10:A=1
  ·have q10t:=eq_true q10;refine AWp.rg [] [] ?_ (hr:=by conv=>lhs;simp[Q5,Q7,Tm.row,Tm.Q3,Cs.Q3,hA,q10t]);refine AWp.cn ?_;refine AWp.skip ?_;obtain⟨x,hxy⟩:∃x,txs=[x]:=by
    have hl1:txs.length=1:=by have:=q10;omega
    rcases txs with _|⟨y0,_|⟨y1,r⟩⟩
    ·simp at hl1
    ·exact⟨y0,rfl⟩
    ·simp at hl1
   have h0x:txs[0]? =some x:=by rw[hxy];rfl
   have hmx:x∈txs:=by rw[hxy];simp
   have hxz:=Tm.X0 hmx;have hxw:=Tm.Lx hmx;have hxk:=hxO x hmx;rw[if_neg (fun h=>h (by rw[hxy];rfl))]at hR;rw[if_neg (by omega),if_neg (by omega),if_pos rfl]at hR;refine AWp.rg [] [] ?_ (hr:=by conv=>lhs;simp[Q5,Q7,Tm.row,Tm.Q3,Cs.Q3,hA,h0x,q10t]);refine AWp.rg [] [] ?_ (hr:=by conv=>lhs;simp[Q5,Q7,Tm.row,Tm.Q3,Cs.Q3,hA,h0x,q10t]);refine AWp.rg [] [] ?_ (hr:=by conv=>lhs;simp[Q5,Q7,Tm.row,Tm.Q3,Cs.Q3,hA,h0x,q10t]);refine AWp.cn ?_;refine AWp.rg [] [] ?_ (hr:=by conv=>lhs;simp[Q5,Q7,Tm.row,Tm.Q3,Cs.Q3,hA,h0x,q10t]);refine AWp.cn ?_;refine AWp.rg [] [] ?_ (hr:=by conv=>lhs;simp[Q5,Q7,Tm.row,Tm.Q3,Cs.Q3,hA,h0x,q10t]);refine AWp.cn ?_;refine AWp.rg [] [] ?_ (hr:=by conv=>lhs;simp[Q5,Q7,Tm.row,Tm.Q3,Cs.Q3,hA,h0x,q10t]);refine AWp.cn ?_;refine AWp.rg [] [] ?_ (hr:=by conv=>lhs;simp[Q5,Q7,Tm.row,Tm.Q3,Cs.Q3,hA,h0x,q10t]);refine AWp.cy ?_;cases ht:lkA tok tb with
   |none=>
    have htg:D.Xz (.str tb) (Qw tok)=none:=by rw[X4,ht];rfl
    refine AWp.dw [] [] mixed ?_ (hr:=by conv=>lhs;simp[Q5,Q7,Tm.row,Tm.Q3,Cs.Q3,hA,h0x,htg,q10t]);refine AWp.rg [] [] ?_ (hr:=by conv=>lhs;simp[Q5,Q7,Tm.row,Tm.Q3,Cs.Q3,hA,h0x,htg,q10t]);refine AWp.cy ?_;refine AWp.rg [] [] ?_ (hr:=by conv=>lhs;simp[Q5,Q7,Tm.row,Tm.Q3,Cs.Q3,hA,h0x,htg,q10t]);refine AWp.ret ?_;rw[if_neg (by rw[ht];simp)]at hR;rw[hR];try dsimp only[Qq,Q6]
    apply Qk.ret
    ·rfl
    ·conv=>lhs;simp[Q9,Tryz.results73]
    ·first|rfl|simp
    ·simp[Qx,Q4]
   |some k=>
    have htg:D.Xz (.str tb) (Qw tok)=some [.int k]:=by rw[X4,ht];rfl
    refine AWp.dw [] [] mixed ?_ (hr:=by conv=>lhs;simp[Q5,Q7,Tm.row,Tm.Q3,Cs.Q3,hA,h0x,htg,q10t]);refine AWp.rg [] [] ?_ (hr:=by conv=>lhs;simp[Q5,Q7,Tm.row,Tm.Q3,Cs.Q3,hA,h0x,htg,q10t]);refine AWp.cn ?_;refine AWp.skip ?_;rw[if_pos (by rw[ht];rfl)]at hR;rw[hxy,linL_x]at hR;have hx:=ih x (by omega) hxk ⟨ct,inn,M4 tok tb⟩ ((hW.mono (by omega)).tdel tb);rw[←hR]at hx;obtain⟨xk,xn,xa,xb,xvs,xxs,xcs⟩:=x;refine AWp.dw [] [] mixed ?_ (hr:=by conv=>lhs;simp[Q5,Q7,Tm.row,Tm.Q3,Cs.Q3,hA,h0x,htg,q10t]);refine AWp.rg [] [] ?_ (hr:=by conv=>lhs;simp[Q5,Q7,Tm.row,Tm.Q3,Cs.Q3,hA,h0x,htg,q10t]);refine AWp.cn ?_;refine AWp.skip ?_;refine AWp.rg [] [.c [] [.ptr 500 0,.agg [.d (.int xk),.d (.int xn),.d (.str xa),.d (.str xb),.d (Q8 xvs),.d (.sl (xxs.map Tm.row)),.d (.sl (xcs.map Cs.row))]] [(500,.blk 86 [.mp 501,.mp 502,.mp 503]),(501,.map true false 1 (Qw ct)),(502,.map true false 1 (Xx inn)),(503,.map true false 1 (Qw (M4 tok tb)))] (.d (.int R)) []] ?_ (hr:=by conv=>lhs;simp[Q5,Q7,Tm.row,Tm.Q3,Cs.Q3,hA,h0x,htg,q10t]);refine AWp.ret ?_;try dsimp only[Qq,Q6]
    apply Qk.ret
    ·rfl
    ·conv=>lhs;simp[Q9,Tryz.results73]
    ·rfl
    ·simp[Qx,Q4]
  refine AWp.rg [] [] ?_ (hr:=by conv=>lhs;simp[Q5,Q7,Tm.row,Tm.Q3,Cs.Q3,hA,q10]);refine AWp.cy ?_;refine AWp.rg [] [] ?_ (hr:=by conv=>lhs;simp[Q5,Q7,Tm.row,Tm.Q3,Cs.Q3,hA,q10]);refine AWp.ret ?_;rw[if_pos (fun h=>q10 (by rw[←hA,h];rfl))]at hR;rw[hR];try dsimp only[Qq,Q6]
  apply Qk.ret
  ·rfl
  ·conv=>lhs;simp[Q9,Tryz.results73]
  ·first|rfl|simp
  ·simp[Qx,Q4]
theorem births_none {ents:List (D×List D)} {bents:List (Nat×D×List D)} {v:ByteArray} (hp:(bents.map (·.2)).Perm ents) (hg:D.Xz (.str v) ents=none):bents.find? (fun p=>D.keq p.2.1 (.str v))=none:=by
 have h0:∀l:List (D×List D),D.Xz (.str v) l=none→∀p∈l,D.keq p.1 (.str v)=false:=fun l=>by
  induction l with
  |nil=>intro _ p h;cases h
  |cons q r ih=>
   obtain⟨a,b⟩:=q;intro h p hp;rw[D.Xz]at h;split at h
   ·cases h
   ·rename_i hk;rcases List.mem_cons.1 hp with rfl|hp
    ·simpa using hk
    ·exact ih h p hp
 rw[List.find?_eq_none];intro p hm;have:=h0 ents hg p.2 (hp.mem_iff.1 (List.mem_map.2 ⟨p,hm,rfl⟩));simp[this]
theorem births_some {ents:List (D×List D)} {bents:List (Nat×D×List D)} {v:ByteArray} {r:List D} (hp:(bents.map (·.2)).Perm ents) (he:Iq ents) (hg:D.Xz (.str v) ents=some r):∃k,bents.find? (fun p=>D.keq p.2.1 (.str v))=some (k,.str v,r)∧∃a,(∃a_1 b,(a,a_1,b)∈bents)∧(a:Int)=(k:Int):=by
 have hm:=he.mem.2 hg;obtain⟨p,hp1,hp2⟩:=List.mem_map.1 (hp.mem_iff.2 hm);cases hf:bents.find? (fun p=>D.keq p.2.1 (.str v))with
 |none=>
  have:=List.find?_eq_none.1 hf p hp1;rw[hp2,Qk3]at this;simp at this
 |some q=>
  have hq1:=List.mem_of_find?_eq_some hf;have hq2:q.2.1= .str v:=keq_eq (by simpa using List.find?_some hf);have hq3:(D.str v,q.2.2)∈ents:=hp.mem_iff.1 (List.mem_map.2 ⟨q,hq1,by rw[←hq2]⟩);have hq4:=he.mem.1 hq3;rw[hg]at hq4;obtain⟨k,key,row⟩:=q;dsimp only at hq2 hq4;subst hq2;rw[←Option.some.inj hq4];exact⟨k,rfl,k,⟨_,_,hq1⟩,rfl⟩
theorem cs_lmatch (N:Nat) (ih:LinN N) (tn:Int) (ta tb:ByteArray) (tvs:List ByteArray) (txs:List Tm) (tcs:List Cs) (hsz:(Tm.mk 7 tn ta tb tvs txs tcs).sz≤N+1) (hO:(Tm.mk 7 tn ta tb tvs txs tcs).Ok) (s:LS) (hW:s.Wd (Tm.mk 7 tn ta tb tvs txs tcs).wg):
  Qv Tryz.prog 72 [.ptr 500 0,.d (.ptr [.int 7,.int tn,.str ta,.str tb,Q8 tvs,.sl (txs.map Tm.row),.sl (tcs.map Cs.row)])] [(500,.blk 86 [.mp 501,.mp 502,.mp 503]),(501,lcO s.ct),(502,liO s.inn),(503,lcO s.tk)] (.d (.int ((Tm.mk 7 tn ta tb tvs txs tcs).lin s))) []:=by
 obtain⟨ct,inn,tok⟩:=s;obtain⟨R,hR⟩:∃R,R=(Tm.mk 7 tn ta tb tvs txs tcs).lin ⟨ct,inn,tok⟩:=⟨_,rfl⟩
 rw[←hR];rw[Tm.lin,if_neg (by omega),if_neg (by omega),if_neg (by omega),if_neg (by omega),if_neg (by omega),if_pos rfl]at hR;have hcO:∀x∈tcs,x.Ok:=fun x hx=>Cs.X8.1 hO.2.2.2 x hx
 obtain⟨o1,o2,o3,o4,o5⟩:=hO.vars;simp only[Tm.sz]at hsz;simp only[Tm.wg]at hW;have hown:=cs_lown ⟨ct,inn,tok⟩;obtain⟨A,hA⟩:∃A:Int,(txs.length:Int)=A:=⟨_,rfl⟩
 refine Qv.of Tryz.func72 rfl rfl (Nat.le_of_ble_eq_true rfl) ?_;show AWp _ _ (Qk _ Tryz.f72 _ _) (Zz 96 _ _);refine AWp.rg [] [] ?_ (hr:=by conv=>lhs;simp[Q5,Tm.row,Tm.Q3,Cs.Q3,hA]);by_cases hA1:A=1
 ·have hA1t:=eq_true hA1;obtain⟨x,hxy⟩:∃x,txs=[x]:=by
   have hl1:txs.length=1:=by omega
   rcases txs with _|⟨y0,_|⟨y1,r⟩⟩
   ·simp at hl1
   ·exact⟨y0,rfl⟩
   ·simp at hl1
  have h0x:txs[0]? =some x:=by rw[hxy];rfl
  obtain⟨xk,xn,xa,xb,xvs,xxs,xcs⟩:=x;have hR:R=if xk≠1 then 2 else if LS.c ⟨ct,inn,tok⟩ xa<1 then 6 else Cs.D8 tcs ⟨ct,inn,tok⟩ xa:=by
   rw[hR,hxy];change (if (1:Nat)≠1∨xk≠1 then (2:Int)else if LS.c ⟨ct,inn,tok⟩ xa<1 then 6 else Cs.D8 tcs ⟨ct,inn,tok⟩ xa)=_;by_cases h1:xk=1
   ·rw[if_neg (fun h=>h.elim (fun h=>h rfl) (fun h=>h h1)),if_neg (show¬xk≠1 from fun h=>h h1)]
   ·rw[if_pos (Or.inr h1),if_pos h1]
  by_cases q1:xk=1
  ·refine AWp.rg [] [] ?_ (hr:=by conv=>lhs;simp[Q5,Tm.row,Tm.Q3,Cs.Q3,hA,h0x,hA1t,q1]);refine AWp.cn ?_;refine AWp.skip ?_;refine AWp.rg [] [] ?_ (hr:=by conv=>lhs;simp[Q5,Tm.row,Tm.Q3,Cs.Q3,hA,h0x,hA1t,q1]);rw[if_neg (fun h=>h q1)]at hR;cases hk:lkA ct xa with
   |none=>
    have hkg:D.Xz (.str xa) (Qw ct)=none:=by rw[X4,hk];rfl
    have hcx:LS.c ⟨ct,inn,tok⟩ xa=0:=by unfold LS.c;rw[hk];rfl
    refine AWp.rg [] [] ?_ (hr:=by conv=>lhs;simp[Q5,Tm.row,Tm.Q3,Cs.Q3,hA,h0x,hkg,hA1t,q1]);refine AWp.cy ?_;refine AWp.rg [] [] ?_ (hr:=by conv=>lhs;simp[Q5,Tm.row,Tm.Q3,Cs.Q3,hA,h0x,hkg,hA1t,q1]);refine AWp.ret ?_;rw[if_pos (by rw[hcx];omega)]at hR;rw[hR];try dsimp only[Qq,Q6]
    apply Qk.ret
    ·rfl
    ·conv=>lhs;simp[Q9,Tryz.results72]
    ·first|rfl|simp
    ·simp[Qx,Q4]
   |some k=>
    have hkg:D.Xz (.str xa) (Qw ct)=some [.int k]:=by rw[X4,hk];rfl
    have hcx:LS.c ⟨ct,inn,tok⟩ xa=k:=by unfold LS.c;rw[hk];rfl
    by_cases q2:k<1
    ·refine AWp.rg [] [] ?_ (hr:=by conv=>lhs;simp[Q5,Tm.row,Tm.Q3,Cs.Q3,hA,h0x,hkg,hA1t,q1,q2]);refine AWp.cy ?_;refine AWp.rg [] [] ?_ (hr:=by conv=>lhs;simp[Q5,Tm.row,Tm.Q3,Cs.Q3,hA,h0x,hkg,hA1t,q1,q2]);refine AWp.ret ?_;rw[if_pos (by rw[hcx];omega)]at hR;rw[hR];try dsimp only[Qq,Q6]
     apply Qk.ret
     ·rfl
     ·conv=>lhs;simp[Q9,Tryz.results72]
     ·first|rfl|simp
     ·simp[Qx,Q4]
    refine AWp.rg [] [] ?_ (hr:=by conv=>lhs;simp[Q5,Tm.row,Tm.Q3,Cs.Q3,hA,h0x,hkg,hA1t,q1,q2]);refine AWp.cn ?_;refine AWp.skip ?_;rw[if_neg (by rw[hcx];exact q2)]at hR;refine AWp.rg [] [] ?_ (hr:=by conv=>lhs;simp[Q5,Tm.row,Tm.Q3,Cs.Q3,hA,h0x,hkg,hA1t,q1,q2]);repeat (first|refine AWp.seq ?_|refine AWp.block ?_)
    refine AWp.loop (σ:=fun u:{u:Nat // u≤tcs.length∧R=Cs.D8 (tcs.drop u) ⟨ct,inn,tok⟩ xa}=>⟨96,[(0,.ptr 500 0),(5,.d (.str xa)),(47,.d (.sl (tcs.map Cs.row))),(48,.d (.int (tcs.length:Int))),(49,.d (.int (u.1:Int)))],[(500,some (.blk 86 [.mp 501,.mp 502,.mp 503])),(501,some (.map true false 1 (Qw ct))),(502,some (.map true false 1 (Xx inn))),(503,some (.map true false 1 (Qw tok)))]⟩)
     (μ:=fun u=>tcs.length-u.1) ⟨0,⟨Nat.zero_le _,by rw[hR];rfl⟩⟩ (Le.sub (by simp) (by simp)) (fun⟨i,⟨hi7,hw⟩⟩=>?_)
    dsimp only;refine AWp.rg [] [] ?_ (hr:=by conv=>lhs;simp[Q5,Tm.row,Tm.Q3,Cs.Q3,hA,h0x,hkg,hA1t,q1,q2]);repeat (first|refine AWp.seq ?_|refine AWp.block ?_)
    refine AWp.cond rfl (fun hc=>?_) (fun hc=>?_)
    ·have hi1:i<tcs.length:=by have:=of_decide_eq_true hc;omega
     clear hc;have h1d:tcs[i]? =some tcs[i]:=List.getElem?_eq_getElem hi1;have hmd:tcs[i]∈tcs:=List.getElem_mem hi1;have hdd:tcs.drop i=tcs[i]::tcs.drop (i+1):=List.drop_eq_getElem_cons hi1;generalize tcs[i]=d at h1d hmd hdd;have hdO:=hcO d hmd;have hdz:=Cs.X0 hmd;have hdl:=Cs.Lx hmd;obtain⟨dt,dws,y⟩:=d;obtain⟨hd1,hd2,hd3⟩:=hdO;rw[Cs.sz]at hdz;rw[Cs.wg]at hdl;rw[hdd,Cs.D8,Cs.lin]at hw;obtain⟨E,hE⟩:∃E,E=LS.G8 ⟨ct,inn,tok⟩ xa dws:=⟨_,rfl⟩
     rw[←hE]at hw;have hy0:y.row=y.row:=rfl;obtain⟨y',hyy⟩:∃y',y'=y:=⟨_,rfl⟩
     obtain⟨yk,yn,ya,yb,yvs,yxs,ycs⟩:=y;refine AWp.skip ?_;refine AWp.rg [] [] ?_ (hr:=by conv=>lhs;simp[Q5,Tm.row,Tm.Q3,Cs.Q3,hA,h0x,hkg,h1d,Cs.row,hA1t,q1,q2]);refine AWp.rg [] [.n [(1000,500),(1001,501),(1002,502),(1003,503),(500,400),(501,401),(502,402),(503,403)] [.ptr 1000 0] [(1000,.blk 86 [.mp 1001,.mp 1002,.mp 1003]),(1001,.map true false 1 (Qw ct)),(1002,.map true false 1 (Xx inn)),(1003,.map true false 1 (Qw tok))] (.ptr 500 0) [(1000,.blk 86 [.mp 1001,.mp 1002,.mp 1003]),(1001,.map true false 1 (Qw ct)),(1002,.map true false 1 (Xx inn)),(1003,.map true false 1 (Qw tok)),(500,.blk 86 [.mp 501,.mp 502,.mp 503]),(501,.map true false 1 (Qw ct)),(502,.map true false 1 (Xx inn)),(503,.map true false 1 (Qw tok))] [500,501,502,503]] ?_ (hr:=by conv=>lhs;simp[Q5,Tm.row,Tm.Q3,Cs.Q3,hA,h0x,hkg,h1d,Cs.row,hA1t,q1,q2]);refine AWp.rg [] [] ?_ (hr:=by conv=>lhs;simp[Q5,Tm.row,Tm.Q3,Cs.Q3,hA,h0x,hkg,h1d,Cs.row,hA1t,q1,q2]);repeat (first|refine AWp.seq ?_|refine AWp.block ?_)
     refine AWp.loop (σ:=fun u:{u:Nat×List (ByteArray×Int)×List (ByteArray×ByteArray) // u.1≤dws.length∧(E=LS.G8 ⟨u.2.1,u.2.2,tok⟩ xa (dws.drop u.1)∧LS.Wd ⟨u.2.1,u.2.2,tok⟩ (1+Cs.wgs tcs))}=>⟨96,[(0,.ptr 500 0),(5,.d (.str xa)),(7,.ptr 7 0),(8,.ptr 400 0),(47,.d (.sl (tcs.map Cs.row))),(48,.d (.int (tcs.length:Int))),(49,.d (.int (i:Int))),(56,.d (Q8 dws)),(57,.d (.int (dws.length:Int))),(58,.d (.int (u.1.1:Int)))],[(7,some (.blk 90 [.d (.int dt),.d (Q8 dws),.d (.int yk),.d (.int yn),.d (.str ya),.d (.str yb),.d (Q8 yvs),.d (.sl (yxs.map Tm.row)),.d (.sl (ycs.map Cs.row))])),(400,some (.blk 86 [.mp 401,.mp 402,.mp 403])),(401,some (.map true false 1 (Qw u.1.2.1))),(402,some (.map true false 1 (Xx u.1.2.2))),(403,some (.map true false 1 (Qw tok))),(500,some (.blk 86 [.mp 501,.mp 502,.mp 503])),(501,some (.map true false 1 (Qw ct))),(502,some (.map true false 1 (Xx inn))),(503,some (.map true false 1 (Qw tok)))]⟩)
      (μ:=fun u=>dws.length-u.1.1) ⟨(0,ct,inn),⟨Nat.zero_le _,⟨by rw[hE];rfl,hW.mono (by omega)⟩⟩⟩ (Le.sub (by simp) (by simp)) (fun⟨(m,c,f),⟨hi11,hw2⟩⟩=>?_)
     dsimp only at hi11 hw2⊢;refine AWp.rg [] [] ?_ (hr:=by conv=>lhs;simp[Q5,Tm.row,Tm.Q3,Cs.Q3,hA,h0x,hkg,h1d,Cs.row,hA1t,q1,q2]);repeat (first|refine AWp.seq ?_|refine AWp.block ?_)
     refine AWp.cond rfl (fun hc=>?_) (fun hc=>?_)
     ·have hi1:m<dws.length:=by have:=of_decide_eq_true hc;omega
      clear hc;have h1v:dws[m]? =some dws[m]:=List.getElem?_eq_getElem hi1;have hmv:dws[m]∈dws:=List.getElem_mem hi1;have hdv:dws.drop m=dws[m]::dws.drop (m+1):=List.drop_eq_getElem_cons hi1;generalize dws[m]=v at h1v hmv hdv;obtain⟨hE2,hWc⟩:=hw2;rw[hdv,LS.G8]at hE2;dsimp only at hE2;refine AWp.skip ?_;refine AWp.rg [] [] ?_ (hr:=by conv=>lhs;simp[Q5,Tm.row,Tm.Q3,Cs.Q3,hA,h0x,hkg,h1d,Cs.row,h1v,hA1t,q1,q2]);cases hv:lkA c v with
      |none=>
       have hvg:D.Xz (.str v) (Qw c)=none:=by rw[X4,hv];rfl
       refine AWp.rg [] [] ?_ (hr:=by conv=>lhs;simp[Q5,Tm.row,Tm.Q3,Cs.Q3,hA,h0x,hkg,h1d,Cs.row,h1v,hvg,hA1t,q1,q2]);refine AWp.rg [] [] ?_ (hr:=by conv=>lhs;simp[Q5,Tm.row,Tm.Q3,Cs.Q3,hA,h0x,hkg,h1d,Cs.row,h1v,hvg,hA1t,q1,q2]);refine AWp.cn ?_;refine AWp.skip ?_;rw[if_neg (by rw[hv];simp)]at hE2;have hWn:LS.Wd ⟨Xj c v 0,Xj f v xa,tok⟩ (1+Cs.wgs tcs):=LS.Wd.iput (s:=⟨Xj c v 0,f,tok⟩) (LS.Wd.put (s:=⟨c,f,tok⟩) hWc v (v:=0) (by omega) (by have:=hWc.tl;have:(0:Int)≤(tok.length:Int):=Int.natCast_nonneg _;dsimp only at *;omega)) v xa;repeat (first|refine AWp.seq ?_|refine AWp.block ?_)
       refine AWp.birthsC 401 rfl fun b1 ck1 be1 hp1 hn1 hc1=>?_
       refine AWp.birthsC 402 rfl fun b2 ck2 be2 hp2 hn2 hc2=>?_
       have hf1:=births_none hp1 hvg;cases hi:lkA f v with
       |none=>
        have hf2:=births_none (v:=v) hp2 (by rw[Sz,hi];rfl);refine AWp.dw [] [] mixed ?_ (hr:=by conv=>lhs;simp[Q5,Tm.row,Tm.Q3,Cs.Q3,hA,h0x,hkg,h1d,Cs.row,h1v,hvg,hA1t,q1,q2,hf1,hf2]);refine AWp.le (Le.unbirth 401 (ents:=Qw (Xj c v 0)) rfl (by rw[←Q5];exact bset_new hp1 hc1 hf1)) ?_;refine AWp.le (Le.unbirth 402 (ents:=Xx (Xj f v xa)) rfl (by rw[←entS_put];exact bset_new hp2 hc2 hf2)) ?_;refine AWp.rg [] [] ?_ (hr:=by conv=>lhs;simp[Q5,Tm.row,Tm.Q3,Cs.Q3,hA,h0x,hkg,h1d,Cs.row,h1v,hvg,hA1t,q1,q2]);refine⟨⟨(m+1,Xj c v 0,Xj f v xa),hi1,⟨hE2,hWn⟩⟩,by simp;omega,?_⟩;dsimp only;exact Le.sub (by simp) (by simp)
       |some q=>
        obtain⟨kk,hf2,hm2⟩:=births_some (v:=v) hp2 (entS_ents hWc.k2) (by rw[Sz,hi];rfl);refine AWp.dw [] [] mixed ?_ (hr:=by conv=>lhs;simp[Q5,Tm.row,Tm.Q3,Cs.Q3,hA,h0x,hkg,h1d,Cs.row,h1v,hvg,hA1t,q1,q2,hf1,hf2]);refine AWp.le (Le.unbirth 401 (ents:=Qw (Xj c v 0)) rfl (by rw[←Q5];exact bset_new hp1 hc1 hf1)) ?_;refine AWp.le (Le.unbirth 402 (ents:=Xx (Xj f v xa)) rfl (by rw[←entS_put];exact bset_old hp2 hn2 (entS_ents hWc.k2).nodup hf2)) ?_;refine AWp.rg [] [] ?_ (hr:=by conv=>lhs;simp[Q5,Tm.row,Tm.Q3,Cs.Q3,hA,h0x,hkg,h1d,Cs.row,h1v,hvg,hA1t,q1,q2]);refine⟨⟨(m+1,Xj c v 0,Xj f v xa),hi1,⟨hE2,hWn⟩⟩,by simp;omega,?_⟩;dsimp only;exact Le.sub (by simp) (by simp)
      |some u=>
       have hvg:D.Xz (.str v) (Qw c)=some [.int u]:=by rw[X4,hv];rfl
       refine AWp.rg [] [] ?_ (hr:=by conv=>lhs;simp[Q5,Tm.row,Tm.Q3,Cs.Q3,hA,h0x,hkg,h1d,Cs.row,h1v,hvg,hA1t,q1,q2]);refine AWp.rg [] [] ?_ (hr:=by conv=>lhs;simp[Q5,Tm.row,Tm.Q3,Cs.Q3,hA,h0x,hkg,h1d,Cs.row,h1v,hvg,hA1t,q1,q2]);refine AWp.cy ?_;refine AWp.rg [] [] ?_ (hr:=by conv=>lhs;simp[Q5,Tm.row,Tm.Q3,Cs.Q3,hA,h0x,hkg,h1d,Cs.row,h1v,hvg,hA1t,q1,q2]);refine AWp.ret ?_;rw[if_pos (by rw[hv];rfl)]at hE2;rw[hE2]at hw;have hw:R=7:=by simpa using hw
       rw[hw];try dsimp only[Qq,Q6]
       apply Qk.ret
       ·rfl
       ·conv=>lhs;simp[Q9,Tryz.results72]
       ·first|rfl|simp
       ·simp[Qx,Q4]
     have hi1:m=dws.length:=by have:=of_decide_eq_false hc;omega
     subst hi1;clear hc;obtain⟨hE2,hWc⟩:=hw2;rw[List.drop_length,LS.G8]at hE2;rw[hE2]at hw;have hx:=ih y' (by rw[hyy];omega) (by rw[hyy];exact hd3) ⟨c,f,tok⟩ (hWc.mono (by rw[hyy];omega));obtain⟨e,hee⟩:∃e,e=Tm.lin y' ⟨c,f,tok⟩:=⟨_,rfl⟩
     rw[←hee]at hx;rw[hyy]at hx hee;replace hee:=hee.symm;change R=if (if (0:Int)≠0 then (0:Int)else Tm.lin (.mk yk yn ya yb yvs yxs ycs) ⟨c,f,tok⟩)≠0 then (if (0:Int)≠0 then (0:Int)else Tm.lin (.mk yk yn ya yb yvs yxs ycs) ⟨c,f,tok⟩)else _ at hw
     simp only[ne_eq,not_true_eq_false,if_false]at hw;refine AWp.exit ?_;refine AWp.rg [] [.c [(500,400),(501,401),(502,402),(503,403)] [.ptr 500 0,.agg [.d (.int yk),.d (.int yn),.d (.str ya),.d (.str yb),.d (Q8 yvs),.d (.sl (yxs.map Tm.row)),.d (.sl (ycs.map Cs.row))]] [(500,.blk 86 [.mp 501,.mp 502,.mp 503]),(501,.map true false 1 (Qw c)),(502,.map true false 1 (Xx f)),(503,.map true false 1 (Qw tok))] (.d (.int e)) []] ?_ (hr:=by conv=>lhs;simp[Q5,Tm.row,Tm.Q3,Cs.Q3,hA,h0x,hkg,h1d,Cs.row,hA1t,q1,q2]);by_cases q3:e=0
     ·refine AWp.rg [] [] ?_ (hr:=by conv=>lhs;simp[Q5,Tm.row,Tm.Q3,Cs.Q3,hA,h0x,hkg,h1d,Cs.row,hA1t,q1,q2,q3]);refine AWp.cn ?_;refine AWp.skip ?_;refine AWp.rg [] [] ?_ (hr:=by conv=>lhs;simp[Q5,Tm.row,Tm.Q3,Cs.Q3,hA,h0x,hkg,h1d,Cs.row,hA1t,q1,q2,q3]);rw[hee,q3,if_neg (by simp)]at hw;refine⟨⟨i+1,hi1,hw⟩,by simp;omega,?_⟩;dsimp only;exact Le.sub (by simp) (by simp)
     refine AWp.rg [] [] ?_ (hr:=by conv=>lhs;simp[Q5,Tm.row,Tm.Q3,Cs.Q3,hA,h0x,hkg,h1d,Cs.row,hA1t,q1,q2,q3]);refine AWp.cy ?_;refine AWp.rg [] [] ?_ (hr:=by conv=>lhs;simp[Q5,Tm.row,Tm.Q3,Cs.Q3,hA,h0x,hkg,h1d,Cs.row,hA1t,q1,q2,q3]);refine AWp.ret ?_;rw[hee,if_pos q3]at hw;rw[hw];try dsimp only[Qq,Q6]
     apply Qk.ret
     ·rfl
     ·conv=>lhs;simp[Q9,Tryz.results72]
     ·first|rfl|simp
     ·simp[Qx,Q4]
    have hi1:i=tcs.length:=by have:=of_decide_eq_false hc;omega
    subst hi1;clear hc;rw[List.drop_length,Cs.D8]at hw;refine AWp.exit ?_;refine AWp.rg [] [] ?_ (hr:=by conv=>lhs;simp[Q5,Tm.row,Tm.Q3,Cs.Q3,hA,h0x,hkg,hA1t,q1,q2]);refine AWp.ret ?_;rw[hw];try dsimp only[Qq,Q6]
    apply Qk.ret
    ·rfl
    ·conv=>lhs;simp[Q9,Tryz.results72]
    ·first|rfl|simp
    ·simp[Qx,Q4]
  refine AWp.rg [] [] ?_ (hr:=by conv=>lhs;simp[Q5,Tm.row,Tm.Q3,Cs.Q3,hA,h0x,hA1t,q1]);refine AWp.cy ?_;refine AWp.rg [] [] ?_ (hr:=by conv=>lhs;simp[Q5,Tm.row,Tm.Q3,Cs.Q3,hA,h0x,hA1t,q1]);refine AWp.ret ?_;rw[if_pos q1]at hR;rw[hR];try dsimp only[Qq,Q6]
  apply Qk.ret
  ·rfl
  ·conv=>lhs;simp[Q9,Tryz.results72]
  ·first|rfl|simp
  ·simp[Qx,Q4]
 refine AWp.rg [] [] ?_ (hr:=by conv=>lhs;simp[Q5,Tm.row,Tm.Q3,Cs.Q3,hA,hA1]);refine AWp.cy ?_;refine AWp.rg [] [] ?_ (hr:=by conv=>lhs;simp[Q5,Tm.row,Tm.Q3,Cs.Q3,hA,hA1]);refine AWp.ret ?_;rw[if_pos (Or.inl (fun h=>hA1 (by rw[←hA,h];rfl)))]at hR;rw[hR];try dsimp only[Qq,Q6]
 apply Qk.ret
 ·rfl
 ·conv=>lhs;simp[Q9,Tryz.results72]
 ·first|rfl|simp
 ·simp[Qx,Q4]
theorem Av:Qw []=[]:=rfl
theorem linL_xy (x y:Tm) (s u:LS):Tm.D8 [x,y] [s,u]=if x.lin s≠0 then x.lin s else y.lin u:=by
 rw[Tm.D8];show(if x.lin s≠0 then x.lin s else Tm.D8 [y] [u])=_;rw[linL_x]
theorem ndN_len (x:Tm):x.ndN.length≤x.sz∧x.ndT.length≤x.sz:=by
 have h:=x.st_len;have h1:=List.length_filter_le (fun s=>!hasB x.V4 s) (Qx3 (srtB x.stN));have h2:=List.length_filter_le (fun s=>!hasB x.V4 (excl s)) (Qx3 (srtB x.stT));have h3:=cmpB_len (srtB x.stN);have h4:=cmpB_len (srtB x.stT);rw[srtB_len]at h3 h4;unfold Tm.ndN Tm.ndT;omega
theorem cs_llet (N:Nat) (hN:N≤8000000000) (ih:LinN N) (tn:Int) (ta tb:ByteArray) (tvs:List ByteArray) (txs:List Tm) (tcs:List Cs) (hsz:(Tm.mk 6 tn ta tb tvs txs tcs).sz≤N+1) (hO:(Tm.mk 6 tn ta tb tvs txs tcs).Ok) (s:LS) (hW:s.Wd (Tm.mk 6 tn ta tb tvs txs tcs).wg):
  Qv Tryz.prog 71 [.ptr 500 0,.d (.ptr [.int 6,.int tn,.str ta,.str tb,Q8 tvs,.sl (txs.map Tm.row),.sl (tcs.map Cs.row)])] [(500,.blk 86 [.mp 501,.mp 502,.mp 503]),(501,lcO s.ct),(502,liO s.inn),(503,lcO s.tk)] (.d (.int ((Tm.mk 6 tn ta tb tvs txs tcs).lin s))) []:=by
 obtain⟨ct,inn,tok⟩:=s;obtain⟨R,hR⟩:∃R,R=(Tm.mk 6 tn ta tb tvs txs tcs).lin ⟨ct,inn,tok⟩:=⟨_,rfl⟩
 rw[←hR];rw[Tm.lin,if_neg (by omega),if_neg (by omega),if_neg (by omega),if_neg (by omega),if_pos rfl]at hR;have hxO:∀x∈txs,x.Ok:=fun x hx=>Tm.X8.1 hO.2.2.1 x hx
 obtain⟨o1,o2,o3,o4,o5⟩:=hO.vars;simp only[Tm.sz]at hsz;simp only[Tm.wg]at hW;have hWn:=ndN_len;have hcl:=cs_CloneS (Xx inn);obtain⟨A,hA⟩:∃A:Int,(txs.length:Int)=A:=⟨_,rfl⟩
 refine Qv.of Tryz.func71 rfl rfl (Nat.le_of_ble_eq_true rfl) ?_;show AWp _ _ (Qk _ Tryz.f71 _ _) (Zz 156 _ _);refine AWp.rg [] [] ?_ (hr:=by conv=>lhs;simp[Q5,Q7,Tm.row,Tm.Q3,Cs.Q3,hA]);by_cases q1:A=2
 ·have q1t:=eq_true q1;refine AWp.rg [] [] ?_ (hr:=by conv=>lhs;simp[Q5,Q7,Tm.row,Tm.Q3,Cs.Q3,hA,q1t]);refine AWp.cn ?_;refine AWp.skip ?_;obtain⟨x,y,hxy⟩:∃x y,txs=[x,y]:=by
   have hl1:txs.length=2:=by have:=q1;omega
   rcases txs with _|⟨y0,_|⟨y1,_|⟨y2,r⟩⟩⟩
   ·simp at hl1
   ·simp at hl1
   ·exact⟨y0,y1,rfl⟩
   ·simp at hl1
  have h0x:txs[0]? =some x:=by rw[hxy];rfl
  have h1y:txs[1]? =some y:=by rw[hxy];rfl
  have hszs:Tm.szs txs=x.sz+(y.sz+0):=by rw[hxy];rfl
  have hwls:Tm.wgs txs=x.wg+(y.wg+0):=by rw[hxy];rfl
  have hxk:=hxO x (by rw[hxy];simp);have hyk:=hxO y (by rw[hxy];simp);rw[if_neg (fun h=>h (by rw[hxy];rfl)),show hdT0 txs=x by rw[hxy];rfl,hxy,linL_xy]at hR;have hnd:=sp_needs x hxk (by omega);have hx:=ih x (by omega) hxk (LS.fst ⟨ct,inn,tok⟩ x) ((hW.fst x).mono (by omega));have hWr:=(LS.Wd.rst hW x).mono (V:=y.wg+1) (by omega);have hy:=ih y (by omega) hyk ⟨Xj (LS.rst ⟨ct,inn,tok⟩ x).ct ta 1,inn,(LS.rst ⟨ct,inn,tok⟩ x).tk⟩ ((hWr.mono (V:=y.wg) (by omega)).put ta (v:=1) (by omega) (by have:=hWr.tl;have:(0:Int)≤((LS.rst ⟨ct,inn,tok⟩ x).tk.length:Int):=Int.natCast_nonneg _;omega));change R=if (lkA ct ta).isSome=true then 7 else if x.lin (LS.fst ⟨ct,inn,tok⟩ x)≠0 then x.lin (LS.fst ⟨ct,inn,tok⟩ x)else y.lin ⟨Xj (LS.rst ⟨ct,inn,tok⟩ x).ct ta 1,inn,(LS.rst ⟨ct,inn,tok⟩ x).tk⟩at hR
  obtain⟨p1,p2,p3,p4⟩:=sp_fst hW x;have hnl:=hWn x;rw[show(LS.fst ⟨ct,inn,tok⟩ x).inn=inn from rfl]at hx;dsimp only at hy p1 p2 p3 p4;obtain⟨e1,he1⟩:∃e,e=x.lin (LS.fst ⟨ct,inn,tok⟩ x):=⟨_,rfl⟩
  obtain⟨e2,he2⟩:∃e,e=y.lin ⟨Xj (LS.rst ⟨ct,inn,tok⟩ x).ct ta 1,inn,(LS.rst ⟨ct,inn,tok⟩ x).tk⟩:=⟨_,rfl⟩
  rw[←he1]at hx hR;rw[←he2]at hy hR;clear he1 he2;generalize(LS.fst ⟨ct,inn,tok⟩ x).ct=f1 at *;generalize(LS.fst ⟨ct,inn,tok⟩ x).tk=f3 at *;generalize(LS.rst ⟨ct,inn,tok⟩ x).ct=r1 at *;generalize(LS.rst ⟨ct,inn,tok⟩ x).tk=r3 at *;generalize x.ndN=nn at *;generalize x.ndT=tt at *;obtain⟨hnl1,hnl2⟩:=hnl;clear hWr hxk hyk;obtain⟨xk,xn,xa,xb,xvs,xxs,xcs⟩:=x;obtain⟨yk,yn,ya,yb,yvs,yxs,ycs⟩:=y;dsimp only[X9]at hx hy hnd;cases ha:lkA ct ta with
  |none=>
   have hag:D.Xz (.str ta) (Qw ct)=none:=by rw[X4,ha];rfl
   refine AWp.dw [] [] mixed ?_ (hr:=by conv=>lhs;simp[Q5,Q7,Tm.row,Tm.Q3,Cs.Q3,hA,h0x,h1y,hag,q1t]);refine AWp.rg [] [] ?_ (hr:=by conv=>lhs;simp[Q5,Q7,Tm.row,Tm.Q3,Cs.Q3,hA,h0x,h1y,hag,q1t]);refine AWp.cn ?_;refine AWp.skip ?_;rw[if_neg (by rw[ha];simp)]at hR;refine AWp.rg [] [.n [(1000,502),(500,402)] [.mp 1000] [(1000,.map true false 1 (Xx inn))] (.mp 500) [(1000,.map true false 1 (Xx inn)),(500,.map true false 1 (Xx inn))] [500]] ?_ (hr:=by conv=>lhs;simp[Q5,Q7,Tm.row,Tm.Q3,Cs.Q3,hA,h0x,h1y,hag,q1t]);refine AWp.rg [] [.p (fun _=>.tuple [.d (Q8 nn),.d (Q8 tt)]) none] ?_ (hr:=by conv=>lhs;simp[Q5,Q7,Tm.row,Tm.Q3,Cs.Q3,hA,h0x,h1y,hag,q1t]);refine AWp.rg [] [] ?_ (hr:=by conv=>lhs;simp[Q5,Q7,Tm.row,Tm.Q3,Cs.Q3,hA,h0x,h1y,hag,q1t]);repeat (first|refine AWp.seq ?_|refine AWp.block ?_)
   refine AWp.loop (σ:=fun u:{u:Nat×List (ByteArray×Int)×List (ByteArray×Int) // u.1≤nn.length∧(spN nn ct []=spN (nn.drop u.1) u.2.1 u.2.2∧LS.Bd ⟨u.2.1,inn,tok⟩ 4611686018427387904)}=>⟨156,[(0,.ptr 500 0),(1,.d (.ptr [.int 6,.int tn,.str ta,.str tb,Q8 tvs,.sl (txs.map Tm.row),.sl (tcs.map Cs.row)])),(7,.ptr 47 0),(9,.d (Q8 tt)),(58,.d (Q8 nn)),(59,.d (.int (nn.length:Int))),(60,.d (.int (u.1.1:Int)))],[(39,some (.map true false 1 (Qw u.1.2.2))),(45,some (.map true false 1 ([]))),(47,some (.blk 86 [.mp 39,.mp 402,.mp 45])),(402,some (.map true false 1 (Xx inn))),(500,some (.blk 86 [.mp 501,.mp 502,.mp 503])),(501,some (.map true false 1 (Qw u.1.2.1))),(502,some (.map true false 1 (Xx inn))),(503,some (.map true false 1 (Qw tok)))]⟩)
    (μ:=fun u=>nn.length-u.1.1) ⟨(0,ct,[]),⟨Nat.zero_le _,⟨rfl,hW.big⟩⟩⟩ (Le.sub (by simp[Av]) (by simp[Av])) (fun⟨(i,c,f),⟨hi9,hc⟩⟩=>?_)
   dsimp only at hi9 hc⊢;refine AWp.rg [] [] ?_ (hr:=by conv=>lhs;simp[Q5,Q7,Tm.row,Tm.Q3,Cs.Q3,hA,h0x,h1y,hag,q1t]);repeat (first|refine AWp.seq ?_|refine AWp.block ?_)
   refine AWp.cond rfl (fun hc=>?_) (fun hc=>?_)
   ·have hi1:i<nn.length:=by have:=of_decide_eq_true hc;omega
    clear hc;have h1n:nn[i]? =some nn[i]:=List.getElem?_eq_getElem hi1;have hmn:nn[i]∈nn:=List.getElem_mem hi1;have hdn:nn.drop i=nn[i]::nn.drop (i+1):=List.drop_eq_getElem_cons hi1;generalize nn[i]=n at h1n hmn hdn;obtain⟨hc1,hcb⟩:=hc;rw[hdn,spN]at hc1;refine AWp.skip ?_;refine AWp.rg [] [] ?_ (hr:=by conv=>lhs;simp[Q5,Q7,Tm.row,Tm.Q3,Cs.Q3,hA,h0x,h1y,hag,h1n,q1t]);cases hk:lkA c n with
    |none=>
     have hkg:D.Xz (.str n) (Qw c)=none:=by rw[X4,hk];rfl
     rw[hk]at hc1;dsimp only at hc1;refine AWp.rg [] [] ?_ (hr:=by conv=>lhs;simp[Q5,Q7,Tm.row,Tm.Q3,Cs.Q3,hA,h0x,h1y,hag,h1n,hkg,q1t]);refine AWp.rg [] [] ?_ (hr:=by conv=>lhs;simp[Q5,Q7,Tm.row,Tm.Q3,Cs.Q3,hA,h0x,h1y,hag,h1n,hkg,q1t]);refine AWp.rg [] [] ?_ (hr:=by conv=>lhs;simp[Q5,Q7,Tm.row,Tm.Q3,Cs.Q3,hA,h0x,h1y,hag,h1n,hkg,q1t]);refine AWp.cn ?_;refine AWp.skip ?_;refine AWp.rg [] [] ?_ (hr:=by conv=>lhs;simp[Q5,Q7,Tm.row,Tm.Q3,Cs.Q3,hA,h0x,h1y,hag,h1n,hkg,q1t]);refine⟨⟨(i+1,c,f),hi1,⟨hc1,hcb⟩⟩,by simp;omega,?_⟩;dsimp only;exact Le.sub (by simp) (by simp)
    |some k=>
     have hkg:D.Xz (.str n) (Qw c)=some [.int k]:=by rw[X4,hk];rfl
     rw[hk]at hc1;dsimp only at hc1;have hkb:=hcb.at hk;have hm1:=min1_le hkb.1;obtain⟨mk,hmk⟩:∃m,(if 1<k then 1 else k)=m:=⟨_,rfl⟩
     rw[show Mx k=mk from hmk]at hc1 hm1;refine AWp.rg [] [] ?_ (hr:=by conv=>lhs;simp[Q5,Q7,Tm.row,Tm.Q3,Cs.Q3,hA,h0x,h1y,hag,h1n,hkg,q1t]);refine AWp.rg [] [] ?_ (hr:=by conv=>lhs;simp[Q5,Q7,Tm.row,Tm.Q3,Cs.Q3,hA,h0x,h1y,hag,h1n,hkg,q1t]);refine AWp.rg [] [] ?_ (hr:=by conv=>lhs;simp[Q5,Q7,Tm.row,Tm.Q3,Cs.Q3,hA,h0x,h1y,hag,h1n,hkg,q1t]);refine AWp.cy ?_;refine AWp.rg [] [] ?_ (hr:=by conv=>lhs;simp[Q5,Q7,Tm.row,Tm.Q3,Cs.Q3,hA,h0x,h1y,hag,h1n,hkg,hmk,q1t]);have hfg:D.Xz (.str n) (Qw (Xj f n mk))=some [.int mk]:=by rw[X4,K5,if_pos rfl];rfl
     refine AWp.dw [] [] mixed ?_ (hr:=by conv=>lhs;simp[Q5,Q7,Tm.row,Tm.Q3,Cs.Q3,hA,h0x,h1y,hag,h1n,hkg,hmk,hfg,q1t]);refine AWp.rg [] [] ?_ (hr:=by conv=>lhs;simp[Q5,Q7,Tm.row,Tm.Q3,Cs.Q3,hA,h0x,h1y,hag,h1n,hkg,hmk,hfg,q1t]);have hcb2:LS.Bd ⟨Xj c n (k-mk),inn,tok⟩ 4611686018427387904:=fun m=>by
      have:=hcb m;rw[LS.c_put ⟨c,inn,tok⟩];split<;> omega
     refine⟨⟨(i+1,Xj c n (k-mk),Xj f n mk),hi1,⟨hc1,hcb2⟩⟩,by simp;omega,?_⟩;dsimp only;exact Le.sub (by simp) (by simp)
   have hi1:i=nn.length:=by have:=of_decide_eq_false hc;omega
   subst hi1;clear hc;rw[List.drop_length,spN]at hc;obtain⟨hc,-⟩:=hc;rw[hc]at p1 p2;dsimp only at p1 p2;refine AWp.exit ?_;refine AWp.rg [] [] ?_ (hr:=by conv=>lhs;simp[Q5,Q7,Tm.row,Tm.Q3,Cs.Q3,hA,h0x,h1y,hag,q1t]);repeat (first|refine AWp.seq ?_|refine AWp.block ?_)
   refine AWp.loop (σ:=fun u:{u:Nat×List (ByteArray×Int)×List (ByteArray×Int) // u.1≤tt.length∧spK tt tok []=spK (tt.drop u.1) u.2.1 u.2.2}=>⟨156,[(0,.ptr 500 0),(1,.d (.ptr [.int 6,.int tn,.str ta,.str tb,Q8 tvs,.sl (txs.map Tm.row),.sl (tcs.map Cs.row)])),(7,.ptr 47 0),(101,.d (Q8 tt)),(102,.d (.int (tt.length:Int))),(103,.d (.int (u.1.1:Int)))],[(39,some (.map true false 1 (Qw f))),(45,some (.map true false 1 (Qw u.1.2.2))),(47,some (.blk 86 [.mp 39,.mp 402,.mp 45])),(402,some (.map true false 1 (Xx inn))),(500,some (.blk 86 [.mp 501,.mp 502,.mp 503])),(501,some (.map true false 1 (Qw c))),(502,some (.map true false 1 (Xx inn))),(503,some (.map true false 1 (Qw u.1.2.1)))]⟩)
    (μ:=fun u=>tt.length-u.1.1) ⟨(0,tok,[]),⟨Nat.zero_le _,rfl⟩⟩ (Le.sub (by simp[Av]) (by simp[Av])) (fun⟨(j,d,e),⟨hi18,hd⟩⟩=>?_)
   dsimp only at hi18 hd⊢;refine AWp.rg [] [] ?_ (hr:=by conv=>lhs;simp[Q5,Q7,Tm.row,Tm.Q3,Cs.Q3,hA,h0x,h1y,hag,q1t]);repeat (first|refine AWp.seq ?_|refine AWp.block ?_)
   refine AWp.cond rfl (fun hc=>?_) (fun hc=>?_)
   ·have hi1:j<tt.length:=by have:=of_decide_eq_true hc;omega
    clear hc;have h1b:tt[j]? =some tt[j]:=List.getElem?_eq_getElem hi1;have hmb:tt[j]∈tt:=List.getElem_mem hi1;have hdb:tt.drop j=tt[j]::tt.drop (j+1):=List.drop_eq_getElem_cons hi1;generalize tt[j]=b at h1b hmb hdb;rw[hdb,spK]at hd;refine AWp.skip ?_;refine AWp.rg [] [] ?_ (hr:=by conv=>lhs;simp[Q5,Q7,Tm.row,Tm.Q3,Cs.Q3,hA,h0x,h1y,hag,h1b,q1t]);cases ht:lkA d b with
    |none=>
     have htg:D.Xz (.str b) (Qw d)=none:=by rw[X4,ht];rfl
     rw[ht]at hd;dsimp only at hd;refine AWp.rg [] [] ?_ (hr:=by conv=>lhs;simp[Q5,Q7,Tm.row,Tm.Q3,Cs.Q3,hA,h0x,h1y,hag,h1b,htg,q1t]);refine AWp.rg [] [] ?_ (hr:=by conv=>lhs;simp[Q5,Q7,Tm.row,Tm.Q3,Cs.Q3,hA,h0x,h1y,hag,h1b,htg,q1t]);refine AWp.cn ?_;refine AWp.skip ?_;refine AWp.rg [] [] ?_ (hr:=by conv=>lhs;simp[Q5,Q7,Tm.row,Tm.Q3,Cs.Q3,hA,h0x,h1y,hag,h1b,htg,q1t]);refine⟨⟨(j+1,d,e),hi1,hd⟩,by simp;omega,?_⟩;dsimp only;exact Le.sub (by simp) (by simp)
    |some k=>
     have htg:D.Xz (.str b) (Qw d)=some [.int k]:=by rw[X4,ht];rfl
     rw[ht]at hd;dsimp only at hd;refine AWp.rg [] [] ?_ (hr:=by conv=>lhs;simp[Q5,Q7,Tm.row,Tm.Q3,Cs.Q3,hA,h0x,h1y,hag,h1b,htg,q1t]);refine AWp.rg [] [] ?_ (hr:=by conv=>lhs;simp[Q5,Q7,Tm.row,Tm.Q3,Cs.Q3,hA,h0x,h1y,hag,h1b,htg,q1t]);refine AWp.cy ?_;refine AWp.rg [] [] ?_ (hr:=by conv=>lhs;simp[Q5,Q7,Tm.row,Tm.Q3,Cs.Q3,hA,h0x,h1y,hag,h1b,htg,q1t]);refine AWp.rg [] [] ?_ (hr:=by conv=>lhs;simp[Q5,Q7,Tm.row,Tm.Q3,Cs.Q3,hA,h0x,h1y,hag,h1b,htg,q1t]);refine AWp.rg [] [] ?_ (hr:=by conv=>lhs;simp[Q5,Q7,Tm.row,Tm.Q3,Cs.Q3,hA,h0x,h1y,hag,h1b,htg,q1t]);refine⟨⟨(j+1,M4 d b,Xj e b k),hi1,hd⟩,by simp;omega,?_⟩;dsimp only;exact Le.sub (by simp) (by simp)
   have hi1:j=tt.length:=by have:=of_decide_eq_false hc;omega
   subst hi1;clear hc;rw[List.drop_length,spK]at hd;rw[hd]at p3 p4;dsimp only at p3 p4;refine AWp.exit ?_;repeat (first|refine AWp.seq ?_|refine AWp.block ?_)
   refine AWp.le (Le.low [] [] (fr:=[(0,.ptr 500 0),(1,.d (.ptr [.int 6,.int tn,.str ta,.str tb,Q8 tvs,.sl (txs.map Tm.row),.sl (tcs.map Cs.row)])),(7,.ptr 47 0)]) (mem:=[(39,some (.map true false 1 (Qw f1))),(45,some (.map true false 1 (Qw f3))),(47,some (.blk 86 [.mp 39,.mp 402,.mp 45])),(402,some (.map true false 1 (Xx inn))),(500,some (.blk 86 [.mp 501,.mp 502,.mp 503])),(501,some (.map true false 1 (Qw r1))),(502,some (.map true false 1 (Xx inn))),(503,some (.map true false 1 (Qw r3)))]) rfl (by simp) (by simp;exact⟨p2,p4,p1,p3⟩)) ?_;refine AWp.rg [] [.c [(500,47),(501,39),(502,402),(503,45)] [.ptr 500 0,.agg [.d (.int xk),.d (.int xn),.d (.str xa),.d (.str xb),.d (Q8 xvs),.d (.sl (xxs.map Tm.row)),.d (.sl (xcs.map Cs.row))]] [(500,.blk 86 [.mp 501,.mp 502,.mp 503]),(501,.map true false 1 (Qw f1)),(502,.map true false 1 (Xx inn)),(503,.map true false 1 (Qw f3))] (.d (.int e1)) []] ?_ (hr:=by conv=>lhs;simp[Q5,Q7,Tm.row,Tm.Q3,Cs.Q3,hA,h0x,h1y,hag,q1t]);by_cases q2:e1=0
   ·refine AWp.rg [] [] ?_ (hr:=by conv=>lhs;simp[Q5,Q7,Tm.row,Tm.Q3,Cs.Q3,hA,h0x,h1y,hag,q1t,q2]);refine AWp.cn ?_;refine AWp.skip ?_;rw[if_neg (fun h=>h q2)]at hR;rw[←hR]at hy;refine AWp.dw [] [] mixed ?_ (hr:=by conv=>lhs;simp[Q5,Q7,Tm.row,Tm.Q3,Cs.Q3,hA,h0x,h1y,hag,q1t,q2]);refine AWp.rg [] [.c [] [.ptr 500 0,.agg [.d (.int yk),.d (.int yn),.d (.str ya),.d (.str yb),.d (Q8 yvs),.d (.sl (yxs.map Tm.row)),.d (.sl (ycs.map Cs.row))]] [(500,.blk 86 [.mp 501,.mp 502,.mp 503]),(501,.map true false 1 (Qw (Xj r1 ta 1))),(502,.map true false 1 (Xx inn)),(503,.map true false 1 (Qw r3))] (.d (.int R)) []] ?_ (hr:=by conv=>lhs;simp[Q5,Q7,Tm.row,Tm.Q3,Cs.Q3,hA,h0x,h1y,hag,q1t,q2]);refine AWp.ret ?_;try dsimp only[Qq,Q6]
    apply Qk.ret
    ·rfl
    ·conv=>lhs;simp[Q9,Tryz.results71]
    ·rfl
    ·simp[Qx,Q4]
   refine AWp.rg [] [] ?_ (hr:=by conv=>lhs;simp[Q5,Q7,Tm.row,Tm.Q3,Cs.Q3,hA,h0x,h1y,hag,q1t,q2]);refine AWp.cy ?_;refine AWp.rg [] [] ?_ (hr:=by conv=>lhs;simp[Q5,Q7,Tm.row,Tm.Q3,Cs.Q3,hA,h0x,h1y,hag,q1t,q2]);refine AWp.ret ?_;rw[if_pos q2]at hR;rw[hR];try dsimp only[Qq,Q6]
   apply Qk.ret
   ·rfl
   ·conv=>lhs;simp[Q9,Tryz.results71]
   ·first|rfl|simp
   ·simp[Qx,Q4]
  |some k0=>
   have hag:D.Xz (.str ta) (Qw ct)=some [.int k0]:=by rw[X4,ha];rfl
   refine AWp.dw [] [] mixed ?_ (hr:=by conv=>lhs;simp[Q5,Q7,Tm.row,Tm.Q3,Cs.Q3,hA,h0x,h1y,hag,q1t]);refine AWp.rg [] [] ?_ (hr:=by conv=>lhs;simp[Q5,Q7,Tm.row,Tm.Q3,Cs.Q3,hA,h0x,h1y,hag,q1t]);refine AWp.cy ?_;refine AWp.rg [] [] ?_ (hr:=by conv=>lhs;simp[Q5,Q7,Tm.row,Tm.Q3,Cs.Q3,hA,h0x,h1y,hag,q1t]);refine AWp.ret ?_;rw[if_pos (by rw[ha];rfl)]at hR;rw[hR];try dsimp only[Qq,Q6]
   apply Qk.ret
   ·rfl
   ·conv=>lhs;simp[Q9,Tryz.results71]
   ·first|rfl|simp
   ·simp[Qx,Q4]
 refine AWp.rg [] [] ?_ (hr:=by conv=>lhs;simp[Q5,Q7,Tm.row,Tm.Q3,Cs.Q3,hA,q1]);refine AWp.cy ?_;refine AWp.rg [] [] ?_ (hr:=by conv=>lhs;simp[Q5,Q7,Tm.row,Tm.Q3,Cs.Q3,hA,q1]);refine AWp.ret ?_;rw[if_pos (fun h=>q1 (by rw[←hA,h];rfl))]at hR;rw[hR];try dsimp only[Qq,Q6]
 apply Qk.ret
 ·rfl
 ·conv=>lhs;simp[Q9,Tryz.results71]
 ·first|rfl|simp
 ·simp[Qx,Q4]
end Go.Proofs.YtjpldhjgehoffaaGreatDoor
