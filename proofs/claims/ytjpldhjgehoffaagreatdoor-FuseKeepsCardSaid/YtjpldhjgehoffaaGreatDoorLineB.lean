import Derived.Test.YtjpldhjgehoffaaGreatDoorReuR
import Derived.Test.YtjpldhjgehoffaaGreatDoorOwnE
import Derived.Test.YtjpldhjgehoffaaGreatDoorOwnC
import Derived.Test.YtjpldhjgehoffaaGreatDoorNameP
import Derived.Test.YtjpldhjgehoffaaGreatDoorParseB
import Derived.Test.YtjpldhjgehoffaaGreatDoorFreeA
set_option maxRecDepth 20000
set_option maxHeartbeats 16000000
namespace Go.Proofs.YtjpldhjgehoffaaGreatDoor
open Classical Go.RowKit
set_option linter.unusedVariables false
set_option linter.unusedSimpArgs false
def NoX (n:ByteArray):Prop:=∀d,n≠excl d
theorem nameB_noX {n:ByteArray} (h:R7 n=true):NoX n:=fun d e=>by
 have h0:n[0]? =some 33:=by
  rw[e];unfold excl;have hz:0<(⟨#[33]⟩++d:ByteArray).size:=by
   rw[ByteArray.size_append];have:(⟨#[33]⟩:ByteArray).size=1:=rfl;omega
  rw[getElem?_pos _ 0 hz];congr 1
 unfold R7 at h;simp only[Bool.and_eq_true,List.all_eq_true,decide_eq_true_eq]at h;have h4:=h.1 0 (List.mem_range.2 (by omega));rw[h0]at h4;exact absurd h4 (by decide)
structure Shp (t:Tm):Prop where
 sh:t.Sh
 s1:t.S1
 nh:t.NH
 nx:t.Nx
theorem Qv0 {k:Int} (hk:k=8∨k=9):∀(l:List ByteArray) {t:Tm},(∀n∈l,NoX n)→Shp t→Shp (cnt k l t)
 |[],_,_,h=>h
 |a::r,t,hl,h=>by
  have g:=Qv0 hk r (fun n hn=>hl n (by simp[hn])) h;exact⟨⟨by omega,fun _=>rfl,by omega,⟨g.sh,trivial⟩,trivial⟩,⟨fun _=>⟨⟨_,rfl⟩,rfl⟩,⟨g.s1,trivial⟩,trivial⟩,⟨by omega,⟨g.nh,trivial⟩,trivial⟩,⟨fun _=>hl a (by simp),by omega,⟨g.nx,trivial⟩,trivial⟩⟩
theorem badB_no {ws:List ByteArray} (h:badB ws=false):∀w∈ws,R7 w=true:=fun w hw=>by
 unfold badB at h;rw[List.any_eq_false]at h;have:=h w hw;simpa using this
theorem wrong_shp (f:Jj):∀(N:Nat) (t:Tm) (names:List ByteArray) (deep:Int),t.sz<N→t.wrong f names deep=0→(∀n∈names,NoX n)→Shp t∧t.stT=[]:=by
 intro N;induction N with
 |zero=>intro t _ _ h;omega
 |succ N ih=>
  intro t names deep hN h hn;obtain⟨k,m,a,b,vs,xs,cs⟩:=t;obtain⟨h1,h2,h3,h4,h5,h6,h7⟩:=Gv h;rw[Tm.sz]at hN;have ha:k=1∨k=6→NoX a:=fun hk=>by
   unfold J9 at h5;rcases hk with rfl|rfl
   ·rw[if_pos rfl]at h5;split at h5
    ·rename_i hh;exact hn a (X3.1 hh)
    ·cases h5
   ·rw[if_neg (by omega),if_neg (by omega),if_neg (by omega),if_neg (by omega),if_pos rfl]at h5;split at h5
    ·rename_i hh;exact nameB_noX hh
    ·cases h5
  have hx:∀x∈xs,Shp x∧x.stT=[]:=fun x hx=>by
   obtain⟨j,hj⟩:=List.mem_iff_getElem?.1 hx;have hs:x.sz≤Tm.szs xs:=Tm.X0 hx;refine ih x _ (deep+1) (by omega) (Tq h6 j x hj) fun n hm=>?_
   split at hm
   ·rename_i hc;rcases List.mem_append.1 hm with hm|hm
    ·exact hn n hm
    ·simp only[List.mem_singleton]at hm;subst hm;exact ha (.inr hc.1)
   ·exact hn n hm
  have hc7:k≠7→cs=[]:=fun hk=>by
   unfold X6 at h4;simp[hk]at h4;exact h4.2
  have hxs:Tm.ShL xs∧Tm.S1L xs∧Tm.NHL xs∧Tm.NxL xs∧Tm.K9 xs=[]:=by
   refine⟨ShL_iff.2 fun x h=>(hx x h).1.sh,Ox.2 fun x h=>(hx x h).1.s1,NHL_iff.2 fun x h=>(hx x h).1.nh,NxL_iff.2 fun x h=>(hx x h).1.nx,?_⟩;exact List.eq_nil_iff_forall_not_mem.2 fun d hd=>by
    obtain⟨x,h1,h2⟩:=stTL_mem.1 hd;rw[(hx x h1).2]at h2;cases h2
  have hcs:Cs.ShL cs∧Cs.S1L cs∧Cs.NHL cs∧Cs.NxL cs∧Cs.K9 cs=[]:=by
   by_cases hk:k=7
   ·have key:∀t ws y,Cs.mk t ws y∈cs→(Shp y∧y.stT=[])∧∀w∈ws,NoX w:=fun t ws y hm=>by
     obtain⟨-,-,-,q4,-,q6⟩:=M5 (h7 hk).2.2 hm;have hw:∀w∈ws,NoX w:=fun w hw=>nameB_noX (badB_no q4 w hw)
     have hs:(Cs.mk t ws y).sz≤Cs.szs cs:=Cs.X0 hm;rw[Cs.sz]at hs;exact⟨ih y _ (deep+1) (by omega) q6 fun n hm=>(List.mem_append.1 hm).elim (hn n) (hw n),hw⟩
    refine⟨Qx8.2 fun c h=>?_,F4.2 fun c h=>?_,Qx9.2 fun c h=>?_,Sv.2 fun c h=>?_,?_⟩
    ·obtain⟨t,ws,y⟩:=c;exact(key t ws y h).1.1.sh
    ·obtain⟨t,ws,y⟩:=c;exact(key t ws y h).1.1.s1
    ·obtain⟨t,ws,y⟩:=c;exact(key t ws y h).1.1.nh
    ·obtain⟨t,ws,y⟩:=c;exact⟨(key t ws y h).2,(key t ws y h).1.1.nx⟩
    ·exact List.eq_nil_iff_forall_not_mem.2 fun d hd=>by
      obtain⟨c,h1,h2⟩:=cstTL_mem.1 hd;obtain⟨t,ws,y⟩:=c;rw[Cs.stT,(key t ws y h1).1.2]at h2;cases h2
   ·rw[hc7 hk];exact⟨trivial,trivial,trivial,trivial,rfl⟩
  refine⟨⟨⟨fun hk=>?_,hc7,fun hk e=>(h7 hk).1 (by rw[e];rfl),hxs.1,hcs.1⟩,⟨by omega,hxs.2.1,hcs.2.1⟩,⟨by omega,hxs.2.2.1,hcs.2.2.1⟩,⟨fun hk=>ha (by omega),by omega,hxs.2.2.2.1,hcs.2.2.2.1⟩⟩,?_⟩
  ·unfold X6 at h4;rcases hk with rfl|rfl<;> simp at h4<;> exact h4.1
  ·rw[Tm.stT,if_neg (by omega),hxs.2.2.2.2,hcs.2.2.2.2];rfl
theorem shp_var {x:Tm} (h:Shp x) (h1:x.tk=1):NoX x.nm:=by
 obtain⟨k,n,a,b,vs,xs,cs⟩:=x;exact h.nx.1 (.inl h1)
theorem ow_shp:∀(d:Nat) (t:Tm) (has:List ByteArray),t.Rt d→t.isP=true→Shp t→(∀n∈has,NoX n)→Shp (t.ow has):=by
 intro d;induction d with
 |zero=>intro t _ h;exact h.elim
 |succ d ih=>
  intro t has hR hP hS hh;obtain⟨k,n0,a,b,vs,xs,cs⟩:=t;have hR':=hR;obtain⟨hk,-,-,hx,hc⟩:=hR;rw[Tm.isP,Bool.and_eq_true]at hP;obtain⟨hP1,hP2⟩:=hP;have hxS:∀x∈xs,Shp x:=fun x hm=>⟨ShL_iff.1 hS.sh.2.2.2.1 x hm,Ox.1 hS.s1.2.1 x hm,NHL_iff.1 hS.nh.2.1 x hm,NxL_iff.1 hS.nx.2.2.1 x hm⟩
  have hcS:∀t ws y,Cs.mk t ws y∈cs→Shp y∧∀w∈ws,NoX w:=fun t ws y hm=>⟨⟨Qx8.1 hS.sh.2.2.2.2 _ hm,F4.1 hS.s1.2.2 _ hm,Qx9.1 hS.nh.2.2 _ hm,(Sv.1 hS.nx.2.2.2 _ hm).2⟩,(Sv.1 hS.nx.2.2.2 _ hm).1⟩
  rw[Tm.ow];generalize hF:(Tm.mk k n0 a b vs xs cs).free=F;have hO:∀n∈inN has F,NoX n:=fun n hn=>hh n (V8.1 hn).1
  refine Qv0 (.inr rfl) _ (fun n hn=>hh n (Xw.1 hn).1) ?_;split
  ·rename_i h3;have hvar:=isL_var (by omega) hP1;refine Qv0 (.inl rfl) _ (fun n hn=>?_) hS;obtain⟨x,hx1,rfl⟩:=Aq xs [] n hn;exact shp_var (hxS x hx1) (hvar x hx1)
  split
  ·rename_i h6;subst h6;obtain⟨x,y,rfl,rfl,hxR,hyR⟩:=rt_two hR';have hPx:=Qk6 hP1 x (by simp);have hPy:=Qk6 hP1 y (by simp);generalize inN has F=O at hO;rw[letD,letH,Tm.owZ,Tm.owZ,Tm.owZ];simp only[List.headD_cons,List.tail_cons];have ha:NoX a:=hS.nx.1 (by omega);have gx:=ih x (inN O x.free) hxR hPx (hxS x (by simp)) fun n hn=>hO n (V8.1 hn).1
   have gy:=ih y (inN O (woN y.free [a])++[a]) hyR hPy (hxS y (by simp)) fun n hn=>by
    rcases List.mem_append.1 hn with hn|hn
    ·exact hO n (V8.1 hn).1
    ·simp only[List.mem_singleton]at hn;subst hn;exact ha
   refine Qv0 (.inl rfl) _ (fun n hn=>hO n (V8.1 (V8.1 hn).1).1) ?_;exact⟨⟨by omega,fun _=>rfl,by omega,⟨gx.sh,gy.sh,trivial⟩,trivial⟩,⟨by omega,⟨gx.s1,gy.s1,trivial⟩,trivial⟩,⟨by omega,⟨gx.nh,gy.nh,trivial⟩,trivial⟩,⟨fun _=>ha,by omega,⟨gx.nx,gy.nx,trivial⟩,trivial⟩⟩
  split
  ·rename_i h7;subst h7;have hvar:=isL_var (by omega) hP1;obtain⟨x0,rfl,hx0⟩:=rt_one hR';have hnm:nmH [x0]=x0.nm:=rfl;have h0:=hxS x0 (by simp);have h0n:=shp_var h0 (hvar x0 (by simp));generalize inN has F=O at hO;rw[owL_eq,hnm];have key:∀c∈cs,∃t ws y',c.ow O x0.nm= .mk t ws y'∧Shp y'∧∀w∈ws,NoX w:=fun c hm=>by
    obtain⟨t,ws,y⟩:=c;obtain⟨hyS,hw⟩:=hcS t ws y hm;refine⟨t,ws,_,by rw[Cs.ow],?_,hw⟩;refine Qv0 (.inl rfl) _ (fun n hn=>hw n (V8.1 hn).1) (Qv0 (.inr rfl) _ (fun n hn=>?_) (ih y _ (hc _ hm).2 (cisL_all hP2 t ws y hm) hyS fun n hn=>?_))
    ·split at hn
     ·cases hn
     ·simp only[List.mem_singleton]at hn;subst hn;exact h0n
    ·have:n∈O++inN ws y.free:=by
      split at hn
      ·exact hn
      ·exact(Xw.1 hn).1
     rcases List.mem_append.1 this with h|h
     ·exact hO n h
     ·exact hw n (V8.1 h).1
   have hne:cs≠[]:=hS.sh.2.2.1 rfl;refine⟨⟨by omega,by omega,fun _ e=>hne (by simpa using e),⟨h0.sh,trivial⟩,Qx8.2 fun c h=>?_⟩,⟨by omega,⟨h0.s1,trivial⟩,F4.2 fun c h=>?_⟩,⟨by omega,⟨h0.nh,trivial⟩,Qx9.2 fun c h=>?_⟩,⟨by omega,by omega,⟨h0.nx,trivial⟩,Sv.2 fun c h=>?_⟩⟩;all_goals
    obtain⟨c0,hc0,rfl⟩:=List.mem_map.1 h;obtain⟨t,ws,y',e,hy,hw⟩:=key c0 hc0;rw[e]
   ·exact hy.sh
   ·exact hy.s1
   ·exact hy.nh
   ·exact⟨hw,hy.nx⟩
  ·exact hS
theorem sr_shp:∀(N:Nat) (t:Tm) (rest:List ByteArray),t.sz≤N→Shp t→Shp (t.sr rest).2∧∀n∈(t.sr rest).1,n∈rest:=by
 intro N;induction N with
 |zero=>intro t _ h;have:=t.sz_1;omega
 |succ N ih=>
  intro t rest hN hS;obtain⟨k,n,a,b,vs,xs,cs⟩:=t;rw[Tm.sr];by_cases hc:k=8∧hasB rest a=true
  ·rw[if_pos hc];obtain⟨⟨x,rfl⟩,rfl⟩:=hS.s1.1 (.inl hc.1);rw[Tm.srL];have hxN:x.sz≤N:=by
    rw[Tm.sz]at hN;simp only[Tm.szs]at hN;omega
   obtain⟨h1,h2⟩:=ih x (woN rest [a]) hxN ⟨hS.sh.2.2.2.1.1,hS.s1.2.1.1,hS.nh.2.1.1,hS.nx.2.2.1.1⟩;exact⟨h1,fun n hn=>(Xw.1 (h2 n hn)).1⟩
  ·rw[if_neg hc];exact⟨hS,fun n h=>h⟩
theorem fuOne_shp {k:Int} {na:Nat} {nm:ByteArray} {ws:List ByteArray} {y:Tm} (hS:Shp y) (hw:∀w∈ws,NoX w):Shp (Yv k na nm ws y):=by
 unfold Yv;split
 ·rename_i hcond;obtain⟨-,-,-,h9,hnm⟩:=hcond;obtain⟨h1,h2⟩:=sr_shp y.sz y ws (Nat.le_refl _) hS;generalize y.sr ws=Z at *;obtain⟨rest,z⟩:=Z;dsimp only at *;obtain⟨k,n,a,b,vs,xs,cs⟩:=z;rw[Tm.tk]at h9;subst h9;obtain⟨⟨x,rfl⟩,rfl⟩:=h1.s1.1 (.inr (.inl rfl));have ha0:(Tm.mk 9 n a b vs [x] []).a0=x:=rfl;rw[ha0];have g:=Qv0 (k:=9) (.inr rfl) rest (t:=x) (fun n hn=>hw n (h2 n hn)) ⟨h1.sh.2.2.2.1.1,h1.s1.2.1.1,h1.nh.2.1.1,h1.nx.2.2.1.1⟩;exact⟨⟨by omega,fun _=>rfl,by omega,⟨g.sh,trivial⟩,trivial⟩,⟨fun _=>⟨⟨_,rfl⟩,rfl⟩,⟨g.s1,trivial⟩,trivial⟩,⟨by omega,⟨g.nh,trivial⟩,trivial⟩,⟨by omega,fun _=>hw,⟨g.nx,trivial⟩,trivial⟩⟩
 ·exact hS
theorem fu_shp:∀(N:Nat) (t:Tm),t.sz≤N→Shp t→Shp t.fu:=by
 intro N;induction N with
 |zero=>intro t h;have:=t.sz_1;omega
 |succ N ih=>
  intro t hN hS;obtain⟨k,n,a,b,vs,xs,cs⟩:=t;rw[Tm.sz]at hN;have hx:∀x∈xs,Shp x.fu:=fun x hm=>ih x (by have:=Tm.X0 hm;omega) ⟨ShL_iff.1 hS.sh.2.2.2.1 x hm,Ox.1 hS.s1.2.1 x hm,NHL_iff.1 hS.nh.2.1 x hm,NxL_iff.1 hS.nx.2.2.1 x hm⟩
  have hc:∀c∈cs,∃t ws y',c.fu k xs.length (nmH xs)= .mk t ws y'∧Shp y'∧∀w∈ws,NoX w:=fun c hm=>by
   obtain⟨t,ws,y⟩:=c;have hw:=(Sv.1 hS.nx.2.2.2 _ hm).1;have hs:(Cs.mk t ws y).sz≤Cs.szs cs:=Cs.X0 hm;rw[Cs.sz]at hs;exact⟨t,ws,_,by rw[Cs.fu],fuOne_shp (ih y (by omega) ⟨Qx8.1 hS.sh.2.2.2.2 _ hm,F4.1 hS.s1.2.2 _ hm,Qx9.1 hS.nh.2.2 _ hm,(Sv.1 hS.nx.2.2.2 _ hm).2⟩) hw,hw⟩
  rw[Tm.fu,Tm.Ez,Cs.Ez];have hxm:∀u∈xs.map Tm.fu,Shp u:=fun u hu=>by obtain⟨x,hx1,rfl⟩:=List.mem_map.1 hu;exact hx x hx1
  refine⟨⟨fun h=>by rw[hS.sh.1 h];rfl,fun h=>by rw[hS.sh.2.1 h];rfl,fun h e=>hS.sh.2.2.1 h (by simpa using e),ShL_iff.2 fun u hu=>(hxm u hu).sh,Qx8.2 fun c h=>?_⟩,⟨fun h=>?_,Ox.2 fun u hu=>(hxm u hu).s1,F4.2 fun c h=>?_⟩,⟨hS.nh.1,NHL_iff.2 fun u hu=>(hxm u hu).nh,Qx9.2 fun c h=>?_⟩,⟨hS.nx.1,hS.nx.2.1,NxL_iff.2 fun u hu=>(hxm u hu).nx,Sv.2 fun c h=>?_⟩⟩
  ·obtain⟨c0,hc0,rfl⟩:=List.mem_map.1 h;obtain⟨t,ws,y',e,hy,hw⟩:=hc c0 hc0;rw[e];exact hy.sh
  ·obtain⟨⟨x,rfl⟩,rfl⟩:=hS.s1.1 h;exact⟨⟨_,rfl⟩,rfl⟩
  ·obtain⟨c0,hc0,rfl⟩:=List.mem_map.1 h;obtain⟨t,ws,y',e,hy,hw⟩:=hc c0 hc0;rw[e];exact hy.s1
  ·obtain⟨c0,hc0,rfl⟩:=List.mem_map.1 h;obtain⟨t,ws,y',e,hy,hw⟩:=hc c0 hc0;rw[e];exact hy.nh
  ·obtain⟨c0,hc0,rfl⟩:=List.mem_map.1 h;obtain⟨t,ws,y',e,hy,hw⟩:=hc c0 hc0;rw[e];exact⟨hw,hy.nx⟩
end Go.Proofs.YtjpldhjgehoffaaGreatDoor
namespace Go.Proofs.YtjpldhjgehoffaaGreatDoor
open Go.RowKit
set_option linter.unusedVariables false
set_option linter.unusedSimpArgs false
theorem put_ok (b:ByteArray) (m:Nat) (hb:b.size≤140737488355328):∀(N:Nat) (t:Tm),t.sz≤N→t.Ok→(t.put b m).Ok:=by
 intro N;induction N with
 |zero=>intro t h;have:=t.sz_1;omega
 |succ N ih=>
  intro t hN hO;obtain⟨k,n,a,b0,vs,xs,cs⟩:=t;rw[Tm.sz]at hN;have hX:∀x∈xs,x.sz≤N:=fun x hx=>by have:=Tm.X0 hx;omega
  obtain⟨⟨o1,o2,o3⟩,⟨o4,o5,o6⟩,o7,o8⟩:=id hO;have hH:∀l:List Tm,(∀x∈l,x.sz≤N)→Tm.Oks l→Tm.Oks (Tm.putH b m l)∧(Tm.putH b m l).length=l.length:=fun l hl h1=>by
   cases l with
   |nil=>exact⟨trivial,rfl⟩
   |cons x r=>rw[Tm.putH];exact⟨⟨ih x (hl x (by simp)) h1.1,h1.2⟩,rfl⟩
  rw[Tm.put];split
  ·exact⟨⟨by simp,hb,by simp⟩,⟨by simp,by simp,by simp⟩,⟨hO,trivial⟩,trivial⟩
  split
  ·exact⟨⟨o1,hb,o3⟩,⟨o4,o5,o6⟩,o7,o8⟩
  split
  ·cases xs with
   |nil=>exact hO
   |cons x r=>
    rw[Tm.putL];split
    ·exact⟨⟨o1,o2,o3⟩,⟨o4,o5,o6⟩,⟨ih x (hX x (by simp)) o7.1,o7.2⟩,o8⟩
    ·have h1:=hH r (fun z hz=>hX z (by simp[hz])) o7.2;exact⟨⟨o1,o2,o3⟩,⟨o4,by rw[List.length_cons,h1.2];exact o5,o6⟩,⟨o7.1,h1.1⟩,o8⟩
  split
  ·refine⟨⟨o1,o2,o3⟩,⟨o4,o5,by rw[putA_eq,List.length_map];exact o6⟩,o7,?_⟩;rw[putA_eq];refine Cs.X8.2 fun c h=>?_
   obtain⟨c0,hc0,rfl⟩:=List.mem_map.1 h;have h1:=Cs.X8.1 o8 c0 hc0;have hs:=Cs.X0 hc0;obtain⟨t,ws,y⟩:=c0;rw[Cs.sz]at hs;rw[Cs.put];exact⟨h1.1,h1.2.1,ih y (by omega) h1.2.2⟩
  ·have h1:=hH xs hX o7;exact⟨⟨o1,o2,o3⟩,⟨o4,by rw[h1.2];exact o5,o6⟩,h1.1,o8⟩
end Go.Proofs.YtjpldhjgehoffaaGreatDoor
namespace Go.Proofs.YtjpldhjgehoffaaGreatDoor
open Go.RowKit
attribute [local simp] Iz mkRc ldOf stOf stOk Nw Mv Rw Kj V9 Yj Yw J3 Y8 Bz evA Vj Dz Value.oneCell' Zj Q4 Z7 Qx1 U6 Z5 AS.after Zq Kq J8 AV.ids Mj Qz.ids frNo Nv G6 Wj H6 Y1 Y3 Vx U1 U0 Yz toD1 Sw setAt U9 Ij Dj L8 Gz L9 binI AV.cells J4 Jq Gq Wq AV.kill Qz.kill AV.has AV.K6 Op.operands Call.operands Dq Dw Zw Qv2 Zx Xq E8 moQ Mk R4 Yk AV.ren E5 Qz.ren Qz.like kept Zz Mw AV.frz Pz Ik Ak F8 Uk AS.frz Tw Rq Qz.frz Hq Hz bleF Nat.ble_eq G9 G7 Yq D.Y5 N7 R8 Vv Vw phO Ew Dk Gx Uj Kv Low Ex
set_option linter.unusedVariables false
set_option linter.unusedSimpArgs false
def ExN (N:Nat):Prop:=∀t:Tm,t.sz≤N→t.Ok→∀d,t.er.Rt d→Z4 Tryz.prog 18 [X9 t] (fun _=>X9 t.er) none
@[simp] theorem exp_le:((⟨#[]⟩:ByteArray).size≤maxLen)=True:=eq_true (by show 0≤maxLen;decide)
theorem exK_iff {k:Int}:erK k=true↔(k=8∨k=9∨k=10∨k=11∨k=13):=by unfold erK;exact decide_eq_true_iff
theorem exL_eq:∀l:List Tm,Tm.erL l=l.map Tm.er
 |[]=>rfl
 |x::r=>by rw[Tm.erL,exL_eq r];rfl
theorem cexL_eq:∀l:List Cs,Cs.erL l=l.map Cs.er
 |[]=>rfl
 |x::r=>by rw[Cs.erL,cexL_eq r];rfl
theorem ex_step {k n:Int} {a b:ByteArray} {vs:List ByteArray} {xs:List Tm} {cs:List Cs} {d:Nat} (h:(Tm.mk k n a b vs xs cs).er.Rt d):
  (erK k=true∧∃y,xs=[y]∧(Tm.mk k n a b vs xs cs).er=y.er)∨(¬(8≤k∧k≠12)∧(∀x∈xs,∃e,x.er.Rt e)∧(∀c∈cs,∃e,c.3.er.Rt e)):=by
 by_cases hc:erK k=true∧xs.length=1
 ·obtain⟨h1,h2⟩:=hc;obtain⟨y,rfl⟩:∃y,xs=[y]:=by
   rcases xs with _|⟨y0,_|⟨y1,r⟩⟩
   ·simp at h2
   ·exact⟨y0,rfl⟩
   ·simp at h2
  exact .inl ⟨h1,y,rfl,by rw[Tm.er,if_pos ⟨h1,rfl⟩];rfl⟩
 ·rw[Tm.er,if_neg hc]at h;cases d with
  |zero=>exact absurd h id
  |succ d=>
   obtain⟨q1,-,-,q2,q3⟩:=h;refine .inr ⟨fun q=>?_,fun x hx=>⟨d,q2 _ (by rw[exL_eq];exact List.mem_map.2 ⟨x,hx,rfl⟩)⟩,fun c hc=>⟨d,?_⟩⟩
   ·rw[if_neg q.2]at q1;omega
   ·have:=(q3 _ (by rw[cexL_eq];exact List.mem_map.2 ⟨c,hc,rfl⟩)).2;obtain⟨t,ws,y⟩:=c;exact this
theorem ex_all:∀N,ExN N:=by
 intro N;induction N with
 |zero=>intro t h;obtain⟨k,n,a,b,vs,xs,cs⟩:=t;simp only[Tm.sz]at h;omega
 |succ N ih=>
 intro t hsz hO d hRt;obtain⟨R,hR⟩:∃R,R=t.er:=⟨_,rfl⟩
 rw[←hR];obtain⟨tk,tn,ta,tb,tvs,txs,tcs⟩:=t;obtain⟨p1,p2,p3,p4,p5⟩:=hO.vars;obtain⟨_,⟨_,o5,o6⟩,o7,o8⟩:=hO;have hxO:=Tm.X8.1 o7;have hcO:=Cs.X8.1 o8;simp only[Tm.sz]at hsz;have hE:=ex_step hRt;obtain⟨rk,rn,ra,rb,rvs,rxs,rcs⟩:=R;obtain⟨A,hA⟩:∃A:Int,(txs.length:Int)=A:=⟨_,rfl⟩
 refine Z4.of Tryz.func18 rfl rfl rfl (Nat.le_of_ble_eq_true rfl) ?_;show AWp _ _ (Z8 _ Tryz.f18 _ _ _) (Z7 72 _);refine AWp.rg [] [] ?_ (hr:=by conv=>lhs;simp[Tm.row,Tm.Q3,Cs.Q3]);refine AWp.seqJP1 (¬(erK tk=true∧txs.length=1)) ⟨72,[(1,.ptr 1 0),(2,.ptr 2 0)],[(1,some (.blk 45 [.d (.int tk),.d (.int tn),.d (.str ta),.d (.str tb),.d (Q8 tvs),.d (.sl (txs.map Tm.row)),.d (.sl (tcs.map Cs.row))])),(2,some (.blk 45 [.d (.int 0),.d (.int 0),.d (.str ByteArray.empty),.d (.str ByteArray.empty),.lit (.slice none 0 0),.lit (.slice none 0 0),.lit (.slice none 0 0)]))]⟩ (fun hφ=>?_) (fun W hW=>?_);rotate_left
 ·by_cases q1:8≤tk
  ·by_cases q2:tk=12
   ·have q2t:=eq_true q2;refine AWp.rg [] [] ?_ (hr:=by conv=>lhs;simp[Tm.row,Tm.Q3,Cs.Q3,hA,q1,q2t]);refine AWp.cn ?_;refine AWp.skip ?_;exact hW (fun h=>by have h1:=exK_iff.1 h.1;have h2:=h.2;omega) _ (Le.sub (by simp[Tm.row,Tm.Q3,Cs.Q3]) (by simp))
   by_cases q3:A=1
   ·have q3t:=eq_true q3;refine AWp.rg [] [] ?_ (hr:=by conv=>lhs;simp[Tm.row,Tm.Q3,Cs.Q3,hA,q1,q2,q3t]);refine AWp.cy ?_;rcases hE with⟨hk,y,hy,hye⟩|⟨hk,-,-⟩
    rotate_left
    ·exact absurd ⟨by omega,by omega⟩ hk
    have hy0:txs[0]? =some y:=by rw[hy];rfl
    have hym:y∈txs:=by rw[hy];simp
    rw[hye]at hR hRt;have hx:=ih y (by have:=Tm.X0 hym;omega) (hxO y hym) _ hRt;rw[←hR]at hx;obtain⟨yk,yn,ya,yb,yvs,yxs,ycs⟩:=y;refine AWp.rg [] [.p (fun _=>.agg [.d (.int rk),.d (.int rn),.d (.str ra),.d (.str rb),.d (Q8 rvs),.d (.sl (rxs.map Tm.row)),.d (.sl (rcs.map Cs.row))]) none] ?_ (hr:=by conv=>lhs;simp[Tm.row,Tm.Q3,Cs.Q3,hy0,q1,q2,q3t]);refine AWp.ret ?_;try dsimp only[Qq,Q6]
    apply Z8.ret
    ·rfl
    ·conv=>lhs;simp[Q9,Tryz.results18]
    first|rfl|simp[Z6,X9,AV.Xk,K4,Q8]
   refine AWp.rg [] [] ?_ (hr:=by conv=>lhs;simp[Tm.row,Tm.Q3,Cs.Q3,hA,q1,q2,q3]);refine AWp.cn ?_;refine AWp.skip ?_;exact hW (fun h=>by have h1:=exK_iff.1 h.1;have h2:=h.2;omega) _ (Le.sub (by simp[Tm.row,Tm.Q3,Cs.Q3]) (by simp))
  refine AWp.rg [] [] ?_ (hr:=by conv=>lhs;simp[Tm.row,Tm.Q3,Cs.Q3,hA,q1]);refine AWp.cn ?_;refine AWp.skip ?_;exact hW (fun h=>by have h1:=exK_iff.1 h.1;have h2:=h.2;omega) _ (Le.sub (by simp[Tm.row,Tm.Q3,Cs.Q3]) (by simp))
 rcases hE with⟨hk,y,hy,hye⟩|⟨-,hxR,hcR⟩
 ·exact absurd ⟨hk,by rw[hy];rfl⟩ hφ
 rw[Tm.er,if_neg hφ]at hR;refine AWp.rg [] [] ?_ (hr:=by conv=>lhs;simp[Tm.row,Tm.Q3,Cs.Q3]);refine AWp.rg [] [] ?_ (hr:=by conv=>lhs;simp[Tm.row,Tm.Q3,Cs.Q3]);by_cases q4:tk=12
 ·have q4t:=eq_true q4;refine AWp.rg [] [] ?_ (hr:=by conv=>lhs;simp[Tm.row,Tm.Q3,Cs.Q3,q4t]);refine AWp.cy ?_;rw[if_pos q4,if_pos q4]at hR;refine AWp.rg [] [] ?_ (hr:=by conv=>lhs;simp[Tm.row,Tm.Q3,Cs.Q3,q4t]);refine AWp.rg [] [] ?_ (hr:=by conv=>lhs;simp[Tm.row,Tm.Q3,Cs.Q3,q4t]);repeat (first|refine AWp.seq ?_|refine AWp.block ?_)
  refine AWp.le (Le.low [400] [] (fr:=[(1,.ptr 1 0),(2,.ptr 2 0),(3,.ptr 3 0),(36,.d (.sl (txs.map Tm.row))),(37,.d (.int (txs.length:Int))),(38,.d (.int (0:Int)))]) (mem:=[(1,some (.blk 45 [.d (.int tk),.d (.int tn),.d (.str ta),.d (.str tb),.d (Q8 tvs),.d (.sl (txs.map Tm.row)),.d (.sl (tcs.map Cs.row))])),(2,some (.blk 45 [.d (.int 0),.d (.int 0),.d (.str ByteArray.empty),.d (.str ByteArray.empty),.lit (.slice none 0 0),.lit (.slice none 0 0),.lit (.slice none 0 0)])),(3,some (.blk 45 [.d (.int 3),.d (.int tn),.d (.str ta),.d (.str (⟨#[]⟩)),.d (Q8 tvs),.arr 400 0 ([]:List Tm).length,.lit (.slice none 0 0)])),(400,some (.arr 45 7 (([]:List Tm).map Tm.row)))]) rfl (by simp) (by simp)) ?_;refine AWp.loop (σ:=fun u:{u:Nat×List Tm // u.1≤txs.length∧u.2=(txs.take u.1).map Tm.er}=>⟨72,[(1,.ptr 1 0),(2,.ptr 2 0),(3,.ptr 3 0),(36,.d (.sl (txs.map Tm.row))),(37,.d (.int (txs.length:Int))),(38,.d (.int (u.1.1:Int)))],[(1,some (.blk 45 [.d (.int tk),.d (.int tn),.d (.str ta),.d (.str tb),.d (Q8 tvs),.d (.sl (txs.map Tm.row)),.d (.sl (tcs.map Cs.row))])),(2,some (.blk 45 [.d (.int 0),.d (.int 0),.d (.str ByteArray.empty),.d (.str ByteArray.empty),.lit (.slice none 0 0),.lit (.slice none 0 0),.lit (.slice none 0 0)])),(3,some (.blk 45 [.d (.int 3),.d (.int tn),.d (.str ta),.d (.str (⟨#[]⟩)),.d (Q8 tvs),.arr 400 0 u.1.2.length,.lit (.slice none 0 0)])),(400,some (.arr 45 7 (u.1.2.map Tm.row)))]⟩)
   (μ:=fun u=>txs.length-u.1.1) ⟨(0,[]),⟨Nat.zero_le _,by simp⟩⟩ (Le.sub (by simp) (by simp)) (fun⟨(i,ys),⟨hi8,hw⟩⟩=>?_)
  dsimp only at hi8 hw⊢;refine AWp.rg [] [] ?_ (hr:=by conv=>lhs;simp[Tm.row,Tm.Q3,Cs.Q3,q4t]);repeat (first|refine AWp.seq ?_|refine AWp.block ?_)
  refine AWp.cond rfl (fun hc=>?_) (fun hc=>?_)
  ·have hi1:i<txs.length:=by have:=of_decide_eq_true hc;omega
   clear hc;have h1y:txs[i]? =some txs[i]:=List.getElem?_eq_getElem hi1;have hmy:txs[i]∈txs:=List.getElem_mem hi1;have hdy:txs.drop i=txs[i]::txs.drop (i+1):=List.drop_eq_getElem_cons hi1;generalize txs[i]=y at h1y hmy hdy;have hyl:ys.length=i:=by rw[hw,List.length_map,List.length_take];omega
   obtain⟨e,hxe⟩:=hxR y hmy;have hx:=ih y (by have:=Tm.X0 hmy;omega) (hxO y hmy) e hxe;have hsn:(txs.take (i+1)).map Tm.er=ys++[y.er]:=by rw[List.take_add_one,h1y,List.map_append,←hw];rfl
   generalize y.er=z at hx hsn;obtain⟨yk,yn,ya,yb,yvs,yxs,ycs⟩:=y;obtain⟨zk,zn,za,zb,zvs,zxs,zcs⟩:=z;refine AWp.skip ?_;refine AWp.rg [] [] ?_ (hr:=by conv=>lhs;simp[Tm.row,Tm.Q3,Cs.Q3,h1y,q4t]);refine AWp.dw [] [.p (fun _=>.agg [.d (.int zk),.d (.int zn),.d (.str za),.d (.str zb),.d (Q8 zvs),.d (.sl (zxs.map Tm.row)),.d (.sl (zcs.map Cs.row))]) none] mixed ?_ (hr:=by conv=>lhs;simp[Tm.row,Tm.Q3,Cs.Q3,h1y,q4t]);refine AWp.rg [] [] ?_ (hr:=by conv=>lhs;simp[Tm.row,Tm.Q3,Cs.Q3,h1y,q4t]);refine⟨⟨(i+1,ys++[.mk zk zn za zb zvs zxs zcs]),hi1,hsn.symm⟩,by simp;omega,?_⟩;dsimp only;exact Le.sub (by simp[Tm.row,Tm.Q3,Cs.Q3,hyl]) (by simp[Tm.row,Tm.Q3,Cs.Q3,hyl])
  have hi1:i=txs.length:=by have:=of_decide_eq_false hc;omega
  subst hi1;clear hc;rw[List.take_length]at hw;have hyl:ys.length=txs.length:=by rw[hw,List.length_map]
  rw[exL_eq,←hw]at hR;clear hw;refine AWp.exit ?_;refine AWp.rg [] [] ?_ (hr:=by conv=>lhs;simp[Tm.row,Tm.Q3,Cs.Q3,q4t]);repeat (first|refine AWp.seq ?_|refine AWp.block ?_)
  refine AWp.le (Le.low [401] [] (fr:=[(2,.ptr 2 0),(3,.ptr 3 0),(51,.d (.sl (tcs.map Cs.row))),(52,.d (.int (tcs.length:Int))),(53,.d (.int (0:Int)))]) (mem:=[(2,some (.blk 45 [.d (.int 0),.d (.int 0),.d (.str ByteArray.empty),.d (.str ByteArray.empty),.lit (.slice none 0 0),.lit (.slice none 0 0),.lit (.slice none 0 0)])),(3,some (.blk 45 [.d (.int 3),.d (.int tn),.d (.str ta),.d (.str (⟨#[]⟩)),.d (Q8 tvs),.arr 400 0 ys.length,.arr 401 0 ([]:List Cs).length])),(400,some (.arr 45 7 (ys.map Tm.row))),(401,some (.arr 90 9 (([]:List Cs).map Cs.row)))]) rfl (by simp) (by simp)) ?_;refine AWp.loop (σ:=fun u:{u:Nat×List Cs // u.1≤tcs.length∧u.2=(tcs.take u.1).map Cs.er}=>⟨72,[(2,.ptr 2 0),(3,.ptr 3 0),(51,.d (.sl (tcs.map Cs.row))),(52,.d (.int (tcs.length:Int))),(53,.d (.int (u.1.1:Int)))],[(2,some (.blk 45 [.d (.int 0),.d (.int 0),.d (.str ByteArray.empty),.d (.str ByteArray.empty),.lit (.slice none 0 0),.lit (.slice none 0 0),.lit (.slice none 0 0)])),(3,some (.blk 45 [.d (.int 3),.d (.int tn),.d (.str ta),.d (.str (⟨#[]⟩)),.d (Q8 tvs),.arr 400 0 ys.length,.arr 401 0 u.1.2.length])),(400,some (.arr 45 7 (ys.map Tm.row))),(401,some (.arr 90 9 (u.1.2.map Cs.row)))]⟩)
   (μ:=fun u=>tcs.length-u.1.1) ⟨(0,[]),⟨Nat.zero_le _,by simp⟩⟩ (Le.sub (by simp) (by simp)) (fun⟨(i,ds),⟨hi13,hw2⟩⟩=>?_)
  dsimp only at hi13 hw2⊢;refine AWp.rg [] [] ?_ (hr:=by conv=>lhs;simp[Tm.row,Tm.Q3,Cs.Q3,q4t]);repeat (first|refine AWp.seq ?_|refine AWp.block ?_)
  refine AWp.cond rfl (fun hc=>?_) (fun hc=>?_)
  ·have hi1:i<tcs.length:=by have:=of_decide_eq_true hc;omega
   clear hc;have h1d:tcs[i]? =some tcs[i]:=List.getElem?_eq_getElem hi1;have hmd:tcs[i]∈tcs:=List.getElem_mem hi1;have hdd:tcs.drop i=tcs[i]::tcs.drop (i+1):=List.drop_eq_getElem_cons hi1;generalize tcs[i]=d at h1d hmd hdd;have hdl:ds.length=i:=by rw[hw2,List.length_map,List.length_take];omega
   have hdO:=hcO d hmd;have hsz2:=Cs.X0 hmd;obtain⟨e,hde⟩:=hcR d hmd;have hsn:(tcs.take (i+1)).map Cs.er=ds++[d.er]:=by rw[List.take_add_one,h1d,List.map_append,←hw2];rfl
   obtain⟨dt,dws,y⟩:=d;have hx:=ih y (by simp only[Cs.sz]at hsz2;omega) hdO.2.2 e hde;rw[Cs.er]at hsn;generalize y.er=z at hx hsn;obtain⟨yk,yn,ya,yb,yvs,yxs,ycs⟩:=y;obtain⟨zk,zn,za,zb,zvs,zxs,zcs⟩:=z;refine AWp.skip ?_;refine AWp.rg [] [] ?_ (hr:=by conv=>lhs;simp[Tm.row,Tm.Q3,Cs.Q3,h1d,Cs.row,q4t]);refine AWp.dw [] [.p (fun _=>.agg [.d (.int zk),.d (.int zn),.d (.str za),.d (.str zb),.d (Q8 zvs),.d (.sl (zxs.map Tm.row)),.d (.sl (zcs.map Cs.row))]) none] mixed ?_ (hr:=by conv=>lhs;simp[Tm.row,Tm.Q3,Cs.Q3,h1d,Cs.row,q4t]);refine AWp.rg [] [] ?_ (hr:=by conv=>lhs;simp[Tm.row,Tm.Q3,Cs.Q3,h1d,Cs.row,q4t]);refine⟨⟨(i+1,ds++[.mk dt dws (.mk zk zn za zb zvs zxs zcs)]),hi1,hsn.symm⟩,by simp;omega,?_⟩;dsimp only;exact Le.sub (by simp[Cs.row,Tm.row,Tm.Q3,Cs.Q3,hdl]) (by simp[Cs.row,Tm.row,Tm.Q3,Cs.Q3,hdl])
  have hi1:i=tcs.length:=by have:=of_decide_eq_false hc;omega
  subst hi1;clear hc;rw[List.take_length]at hw2;rw[cexL_eq,←hw2]at hR;clear hw2;replace hR:=hR.symm;injection hR with e1 e2 e3 e4 e5 e6 e7;subst e1 e2 e3 e4 e5 e6 e7;refine AWp.exit ?_;refine AWp.rg [] [] ?_ (hr:=by conv=>lhs;simp[Tm.row,Tm.Q3,Cs.Q3,q4t]);refine AWp.ret ?_;try dsimp only[Qq,Q6]
  apply Z8.retF [400,401]
  ·rfl
  ·conv=>lhs;simp
  ·conv=>lhs;simp[Q9,Tryz.results18]
  first|rfl|simp[Z6,X9,AV.Xk,K4,Q8, *]
 refine AWp.rg [] [] ?_ (hr:=by conv=>lhs;simp[Tm.row,Tm.Q3,Cs.Q3,q4]);refine AWp.cn ?_;refine AWp.skip ?_;refine AWp.rg [] [] ?_ (hr:=by conv=>lhs;simp[Tm.row,Tm.Q3,Cs.Q3,q4]);repeat (first|refine AWp.seq ?_|refine AWp.block ?_)
 rw[if_neg q4,if_neg q4]at hR;refine AWp.le (Le.low [400] [] (fr:=[(1,.ptr 1 0),(2,.ptr 2 0),(3,.ptr 3 0),(36,.d (.sl (txs.map Tm.row))),(37,.d (.int (txs.length:Int))),(38,.d (.int (0:Int)))]) (mem:=[(1,some (.blk 45 [.d (.int tk),.d (.int tn),.d (.str ta),.d (.str tb),.d (Q8 tvs),.d (.sl (txs.map Tm.row)),.d (.sl (tcs.map Cs.row))])),(2,some (.blk 45 [.d (.int 0),.d (.int 0),.d (.str ByteArray.empty),.d (.str ByteArray.empty),.lit (.slice none 0 0),.lit (.slice none 0 0),.lit (.slice none 0 0)])),(3,some (.blk 45 [.d (.int tk),.d (.int tn),.d (.str ta),.d (.str tb),.d (Q8 tvs),.arr 400 0 ([]:List Tm).length,.lit (.slice none 0 0)])),(400,some (.arr 45 7 (([]:List Tm).map Tm.row)))]) rfl (by simp) (by simp)) ?_;refine AWp.loop (σ:=fun u:{u:Nat×List Tm // u.1≤txs.length∧u.2=(txs.take u.1).map Tm.er}=>⟨72,[(1,.ptr 1 0),(2,.ptr 2 0),(3,.ptr 3 0),(36,.d (.sl (txs.map Tm.row))),(37,.d (.int (txs.length:Int))),(38,.d (.int (u.1.1:Int)))],[(1,some (.blk 45 [.d (.int tk),.d (.int tn),.d (.str ta),.d (.str tb),.d (Q8 tvs),.d (.sl (txs.map Tm.row)),.d (.sl (tcs.map Cs.row))])),(2,some (.blk 45 [.d (.int 0),.d (.int 0),.d (.str ByteArray.empty),.d (.str ByteArray.empty),.lit (.slice none 0 0),.lit (.slice none 0 0),.lit (.slice none 0 0)])),(3,some (.blk 45 [.d (.int tk),.d (.int tn),.d (.str ta),.d (.str tb),.d (Q8 tvs),.arr 400 0 u.1.2.length,.lit (.slice none 0 0)])),(400,some (.arr 45 7 (u.1.2.map Tm.row)))]⟩)
  (μ:=fun u=>txs.length-u.1.1) ⟨(0,[]),⟨Nat.zero_le _,by simp⟩⟩ (Le.sub (by simp) (by simp)) (fun⟨(i,ys),⟨hi8,hw⟩⟩=>?_)
 dsimp only at hi8 hw⊢;refine AWp.rg [] [] ?_ (hr:=by conv=>lhs;simp[Tm.row,Tm.Q3,Cs.Q3,q4]);repeat (first|refine AWp.seq ?_|refine AWp.block ?_)
 refine AWp.cond rfl (fun hc=>?_) (fun hc=>?_)
 ·have hi1:i<txs.length:=by have:=of_decide_eq_true hc;omega
  clear hc;have h1y:txs[i]? =some txs[i]:=List.getElem?_eq_getElem hi1;have hmy:txs[i]∈txs:=List.getElem_mem hi1;have hdy:txs.drop i=txs[i]::txs.drop (i+1):=List.drop_eq_getElem_cons hi1;generalize txs[i]=y at h1y hmy hdy;have hyl:ys.length=i:=by rw[hw,List.length_map,List.length_take];omega
  obtain⟨e,hxe⟩:=hxR y hmy;have hx:=ih y (by have:=Tm.X0 hmy;omega) (hxO y hmy) e hxe;have hsn:(txs.take (i+1)).map Tm.er=ys++[y.er]:=by rw[List.take_add_one,h1y,List.map_append,←hw];rfl
  generalize y.er=z at hx hsn;obtain⟨yk,yn,ya,yb,yvs,yxs,ycs⟩:=y;obtain⟨zk,zn,za,zb,zvs,zxs,zcs⟩:=z;refine AWp.skip ?_;refine AWp.rg [] [] ?_ (hr:=by conv=>lhs;simp[Tm.row,Tm.Q3,Cs.Q3,h1y,q4]);refine AWp.dw [] [.p (fun _=>.agg [.d (.int zk),.d (.int zn),.d (.str za),.d (.str zb),.d (Q8 zvs),.d (.sl (zxs.map Tm.row)),.d (.sl (zcs.map Cs.row))]) none] mixed ?_ (hr:=by conv=>lhs;simp[Tm.row,Tm.Q3,Cs.Q3,h1y,q4]);refine AWp.rg [] [] ?_ (hr:=by conv=>lhs;simp[Tm.row,Tm.Q3,Cs.Q3,h1y,q4]);refine⟨⟨(i+1,ys++[.mk zk zn za zb zvs zxs zcs]),hi1,hsn.symm⟩,by simp;omega,?_⟩;dsimp only;exact Le.sub (by simp[Tm.row,Tm.Q3,Cs.Q3,hyl]) (by simp[Tm.row,Tm.Q3,Cs.Q3,hyl])
 have hi1:i=txs.length:=by have:=of_decide_eq_false hc;omega
 subst hi1;clear hc;rw[List.take_length]at hw;have hyl:ys.length=txs.length:=by rw[hw,List.length_map]
 rw[exL_eq,←hw]at hR;clear hw;refine AWp.exit ?_;refine AWp.rg [] [] ?_ (hr:=by conv=>lhs;simp[Tm.row,Tm.Q3,Cs.Q3,q4]);repeat (first|refine AWp.seq ?_|refine AWp.block ?_)
 refine AWp.le (Le.low [401] [] (fr:=[(2,.ptr 2 0),(3,.ptr 3 0),(51,.d (.sl (tcs.map Cs.row))),(52,.d (.int (tcs.length:Int))),(53,.d (.int (0:Int)))]) (mem:=[(2,some (.blk 45 [.d (.int 0),.d (.int 0),.d (.str ByteArray.empty),.d (.str ByteArray.empty),.lit (.slice none 0 0),.lit (.slice none 0 0),.lit (.slice none 0 0)])),(3,some (.blk 45 [.d (.int tk),.d (.int tn),.d (.str ta),.d (.str tb),.d (Q8 tvs),.arr 400 0 ys.length,.arr 401 0 ([]:List Cs).length])),(400,some (.arr 45 7 (ys.map Tm.row))),(401,some (.arr 90 9 (([]:List Cs).map Cs.row)))]) rfl (by simp) (by simp)) ?_;refine AWp.loop (σ:=fun u:{u:Nat×List Cs // u.1≤tcs.length∧u.2=(tcs.take u.1).map Cs.er}=>⟨72,[(2,.ptr 2 0),(3,.ptr 3 0),(51,.d (.sl (tcs.map Cs.row))),(52,.d (.int (tcs.length:Int))),(53,.d (.int (u.1.1:Int)))],[(2,some (.blk 45 [.d (.int 0),.d (.int 0),.d (.str ByteArray.empty),.d (.str ByteArray.empty),.lit (.slice none 0 0),.lit (.slice none 0 0),.lit (.slice none 0 0)])),(3,some (.blk 45 [.d (.int tk),.d (.int tn),.d (.str ta),.d (.str tb),.d (Q8 tvs),.arr 400 0 ys.length,.arr 401 0 u.1.2.length])),(400,some (.arr 45 7 (ys.map Tm.row))),(401,some (.arr 90 9 (u.1.2.map Cs.row)))]⟩)
  (μ:=fun u=>tcs.length-u.1.1) ⟨(0,[]),⟨Nat.zero_le _,by simp⟩⟩ (Le.sub (by simp) (by simp)) (fun⟨(i,ds),⟨hi13,hw2⟩⟩=>?_)
 dsimp only at hi13 hw2⊢;refine AWp.rg [] [] ?_ (hr:=by conv=>lhs;simp[Tm.row,Tm.Q3,Cs.Q3,q4]);repeat (first|refine AWp.seq ?_|refine AWp.block ?_)
 refine AWp.cond rfl (fun hc=>?_) (fun hc=>?_)
 ·have hi1:i<tcs.length:=by have:=of_decide_eq_true hc;omega
  clear hc;have h1d:tcs[i]? =some tcs[i]:=List.getElem?_eq_getElem hi1;have hmd:tcs[i]∈tcs:=List.getElem_mem hi1;have hdd:tcs.drop i=tcs[i]::tcs.drop (i+1):=List.drop_eq_getElem_cons hi1;generalize tcs[i]=d at h1d hmd hdd;have hdl:ds.length=i:=by rw[hw2,List.length_map,List.length_take];omega
  have hdO:=hcO d hmd;have hsz2:=Cs.X0 hmd;obtain⟨e,hde⟩:=hcR d hmd;have hsn:(tcs.take (i+1)).map Cs.er=ds++[d.er]:=by rw[List.take_add_one,h1d,List.map_append,←hw2];rfl
  obtain⟨dt,dws,y⟩:=d;have hx:=ih y (by simp only[Cs.sz]at hsz2;omega) hdO.2.2 e hde;rw[Cs.er]at hsn;generalize y.er=z at hx hsn;obtain⟨yk,yn,ya,yb,yvs,yxs,ycs⟩:=y;obtain⟨zk,zn,za,zb,zvs,zxs,zcs⟩:=z;refine AWp.skip ?_;refine AWp.rg [] [] ?_ (hr:=by conv=>lhs;simp[Tm.row,Tm.Q3,Cs.Q3,h1d,Cs.row,q4]);refine AWp.dw [] [.p (fun _=>.agg [.d (.int zk),.d (.int zn),.d (.str za),.d (.str zb),.d (Q8 zvs),.d (.sl (zxs.map Tm.row)),.d (.sl (zcs.map Cs.row))]) none] mixed ?_ (hr:=by conv=>lhs;simp[Tm.row,Tm.Q3,Cs.Q3,h1d,Cs.row,q4]);refine AWp.rg [] [] ?_ (hr:=by conv=>lhs;simp[Tm.row,Tm.Q3,Cs.Q3,h1d,Cs.row,q4]);refine⟨⟨(i+1,ds++[.mk dt dws (.mk zk zn za zb zvs zxs zcs)]),hi1,hsn.symm⟩,by simp;omega,?_⟩;dsimp only;exact Le.sub (by simp[Cs.row,Tm.row,Tm.Q3,Cs.Q3,hdl]) (by simp[Cs.row,Tm.row,Tm.Q3,Cs.Q3,hdl])
 have hi1:i=tcs.length:=by have:=of_decide_eq_false hc;omega
 subst hi1;clear hc;rw[List.take_length]at hw2;rw[cexL_eq,←hw2]at hR;clear hw2;replace hR:=hR.symm;injection hR with e1 e2 e3 e4 e5 e6 e7;subst e1 e2 e3 e4 e5 e6 e7;refine AWp.exit ?_;refine AWp.rg [] [] ?_ (hr:=by conv=>lhs;simp[Tm.row,Tm.Q3,Cs.Q3,q4]);refine AWp.ret ?_;try dsimp only[Qq,Q6]
 apply Z8.retF [400,401]
 ·rfl
 ·conv=>lhs;simp
 ·conv=>lhs;simp[Q9,Tryz.results18]
 first|rfl|simp[Z6,X9,AV.Xk,K4,Q8, *]
theorem sp_Erased (t:Tm) (h:t.Ok) {d:Nat} (hr:t.er.Rt d):Z4 Tryz.prog 18 [X9 t] (fun _=>X9 t.er) none:=ex_all t.sz t (Nat.le_refl _) h d hr
theorem Cv {l:List Fn} (hl:M9 l) (h:Kz l=0):∀f∈l.map Fn.pl,f.Pt:=fun f hf=>by
 obtain⟨g,hg,rfl⟩:=List.mem_map.1 hf;obtain⟨k1,k2,k3⟩:=P9 hl h g hg;have:=((Qv1 h).2.2.2 g hg).sz;exact Fn.pl_pt g k1 k2 k3 (by omega)
theorem Fn.ow_fits {f:Fn} (h:f.Pt):f.ow.body.Ok∧f.ow.body.Du∧f.ow.params.length≤6:=by
 obtain⟨h1,h2⟩:=ow_ok 175 f.body f.params h.rt h.fit.ok h.pars;exact⟨h1,h2,h.par⟩
theorem ow_all_fits {l:List Fn} (h:∀f∈l,f.Pt):∀f∈l.map Fn.ow,f.body.Ok∧f.body.Du∧f.params.length≤6:=fun f hf=>by
 obtain⟨g,hg,rfl⟩:=List.mem_map.1 hf;exact Fn.ow_fits (h g hg)
theorem fu_all_fits {l:List Fn} (h:∀f∈l,f.body.Ok∧f.body.Du∧f.params.length≤6):∀f∈l.map Fn.fu,f.body.Ok∧f.body.Du∧f.params.length≤6:=fun f hf=>by
 obtain⟨g,hg,rfl⟩:=List.mem_map.1 hf;obtain⟨h1,h2,h3⟩:=h g hg;obtain⟨h4,h5⟩:=Tm.fu_ok g.body h1 h2;exact⟨h4,h5,h3⟩
def mk0 (l:List Fn):List Fn:=(l.map Fn.pl).map Fn.ow
def mk1 (l:List Fn):List Fn:=(mk0 l).map Fn.fu
theorem mk0_fits {l:List Fn} (hl:M9 l) (h:Kz l=0):∀f∈mk0 l,f.body.Ok∧f.body.Du∧f.params.length≤6:=ow_all_fits (Cv hl h)
theorem mk1_fits {l:List Fn} (hl:M9 l) (h:Kz l=0):∀f∈mk1 l,f.body.Ok∧f.body.Du∧f.params.length≤6:=fu_all_fits (mk0_fits hl h)
theorem sp_Made0 (l:List Fn) (hl:M9 l) (hc:Kz l=0):Z4 Tryz.prog 11 [L6 l,.d (.int 0)] (fun _=>L6 (mk0 l)) none:=by
 have hll:=hl.len;have h1:=sp_EachPlain l hl.len (P9 hl hc);have hp:=Cv hl hc;have h2:=sp_EachOwned (l.map Fn.pl) (by rw[List.length_map];exact hl.len) hp;unfold mk0;generalize l.map Fn.pl=P at h1 h2⊢;generalize P.map Fn.ow=O at h2⊢;refine Z4.of Tryz.func11 rfl rfl rfl (Nat.le_of_ble_eq_true rfl) ?_;show AWp _ _ (Z8 _ Tryz.f11 _ _ _) (Z7 17 _);refine AWp.rg [] [] ?_;refine AWp.rg [] [.p (fun _=>.d (.sl (P.map Fn.row))) none,.p (fun _=>.d (.sl (O.map Fn.row))) none] ?_;refine AWp.rg [] [] ?_;refine AWp.cn ?_;refine AWp.skip ?_;refine AWp.rg [] [] ?_;refine AWp.cn ?_;refine AWp.skip ?_;refine AWp.rg [] [] ?_;refine AWp.ret ?_;try dsimp only[Qq,Q6]
 apply Z8.ret
 ·rfl
 ·conv=>lhs;simp[Q9,Tryz.results11]
 rfl
theorem cs_fone1 (gone:List ByteArray) (s:ByteArray) (hg:gone.length≤8796093022208):Qv Tryz.prog 112 [.d (.str s),.ptr 1000 0] [(1000,.blk 41 [.d (Q8 gone)])] (.d (.bool (hasB gone s))) [(1000,.blk 41 [.d (Q8 gone)])]:=by
 have hc:=sp_Contains gone s hg;refine Qv.of Tryz.func112 rfl rfl (Nat.le_of_ble_eq_true rfl) ?_;show AWp _ _ (Qk _ Tryz.f112 _ _) (Zz 7 _ _);repeat (first|refine AWp.seq ?_|refine AWp.block ?_)
 apply AWp.reg [] []
 ·conv=>lhs;simp
 ·trivial
 repeat (first|refine AWp.seq ?_|refine AWp.block ?_)
 apply AWp.reg [] [.p (fun _=>.d (.bool (hasB gone s))) none]
 ·conv=>lhs;simp
 ·exact hc
 refine AWp.ret ?_;try dsimp only[Qq,Q6]
 apply Qk.ret
 ·rfl
 ·conv=>lhs;simp[Q9,Tryz.results112]
 ·rfl
 ·simp[Qx,Q4]
theorem woN_woN (l f g:List ByteArray):woN (woN l f) g=woN l (f++g):=by
 unfold woN;rw[List.filter_filter];refine List.filter_congr fun s _=>?_
 rw[Bool.eq_iff_iff];simp[H7,and_comm]
theorem hasB_woN (l g:List ByteArray) (s:ByteArray):hasB (woN l g) s=(hasB l s && !hasB g s):=by
 rw[Bool.eq_iff_iff];simp[woN,X3,H7]
theorem woN_less {l:List ByteArray} {s:ByteArray} (h:hasB l s=true):(woN l [s]).length+1≤l.length:=by
 unfold woN;have h1:=X3.1 h;have:(l.filter fun x=>!hasB [s] x).length<l.length:=by
  rw[List.length_filter_lt_length_iff_exists];exact⟨s,h1,by simp[hasB]⟩
 omega
theorem fuOne_yes {nm:ByteArray} {dws rest:List ByteArray} {y z:Tm} (hsr:y.sr dws=(rest,z)) (h1:dws.length≠0) (h2:z.tk=9) (h3:z.nm=nm):Yv 7 1 nm dws y= .mk 10 0 nm .empty dws [cnt 9 rest z.a0] []:=by
 unfold Yv;rw[hsr];exact if_pos ⟨h1,rfl,rfl,h2,h3⟩
theorem fuOne_no {nm:ByteArray} {dws rest:List ByteArray} {y z:Tm} (hsr:y.sr dws=(rest,z)) (h:dws.length≠0→z.tk=9→z.nm=nm→False):Yv 7 1 nm dws y=y:=by
 unfold Yv;rw[hsr];exact if_neg fun⟨h1,_,_,h2,h3⟩=>h h1 h2 h3
theorem woN_nil' (l:List ByteArray):woN l []=l:=by simp[woN,hasB]
abbrev csxAV (c:Cs):AV:=match c with| .mk t ws (.mk k n a b vs xs cs)=>.agg [.d (.int t),.d (Q8 ws),.d (.int k),.d (.int n),.d (.str a),.d (.str b),.d (Q8 vs),.d (.sl (xs.map Tm.row)),.d (.sl (cs.map Cs.row))]
theorem sp_one (nm:ByteArray) (dt:Int) (dws:List ByteArray) (yk yn:Int) (ya yb:ByteArray) (yvs:List ByteArray) (yxs:List Tm) (ycs:List Cs) (hyO:Tm.Ok (.mk yk yn ya yb yvs yxs ycs)) (hyd:Tm.Du (.mk yk yn ya yb yvs yxs ycs)) (hdl:dws.length≤6) (hwz:∀s∈dws,s.size≤140737488355328):
  Z4 Tryz.prog 74 [.d (.str nm),csxAV (.mk dt dws (.mk yk yn ya yb yvs yxs ycs))] (fun _=>csxAV (.mk dt dws (Yv 7 1 nm dws (.mk yk yn ya yb yvs yxs ycs)))) none:=by
 obtain⟨R,hR⟩:∃R,Yv 7 1 nm dws (.mk yk yn ya yb yvs yxs ycs)=R:=⟨_,rfl⟩
 rw[hR];obtain⟨rk,rn,ra,rb,rvs,rxs,rcs⟩:=R;refine Z4.of Tryz.func74 rfl rfl rfl (Nat.le_of_ble_eq_true rfl) ?_;show AWp _ _ (Z8 _ Tryz.f74 _ _ _) (Z7 71 _);refine AWp.rg [] [] ?_ (hr:=by conv=>lhs;simp[Tm.row,Tm.Q3,Cs.Q3]);refine AWp.rg [] [] ?_ (hr:=by conv=>lhs;simp[Tm.row,Tm.Q3,Cs.Q3]);refine AWp.rg [] [] ?_ (hr:=by conv=>lhs;simp[Tm.row,Tm.Q3,Cs.Q3]);repeat (first|refine AWp.seq ?_|refine AWp.block ?_)
 refine AWp.le (Le.low [400] [] (fr:=[(0,.d (.str nm)),(3,.ptr 3 0),(4,.ptr 4 0),(5,.ptr 5 0),(6,.ptr 6 0)]) (mem:=[(3,some (.blk 90 [.d (.int dt),.d (Q8 dws),.d (.int yk),.d (.int yn),.d (.str ya),.d (.str yb),.d (Q8 yvs),.d (.sl (yxs.map Tm.row)),.d (.sl (ycs.map Cs.row))])),(4,some (.blk 90 [.d (.int 0),.lit (.slice none 0 0),.d (.int 0),.d (.int 0),.d (.str ByteArray.empty),.d (.str ByteArray.empty),.lit (.slice none 0 0),.lit (.slice none 0 0),.lit (.slice none 0 0)])),(5,some (.blk 45 [.d (.int (yk:Int)),.d (.int (yn:Int)),.d (.str (ya:ByteArray)),.d (.str (yb:ByteArray)),.d (Q8 (yvs:List ByteArray)),.d (.sl ((yxs:List Tm).map Tm.row)),.d (.sl ((ycs:List Cs).map Cs.row))])),(6,some (.blk 41 [.arr 400 0 ([]:List ByteArray).length])),(400,some (.arr 9 1 (([]:List ByteArray).map Z0)))]) rfl (by simp) (by simp)) ?_
 refine AWp.loop (σ:=fun u:{u:Int×Int×ByteArray×ByteArray×List ByteArray×List Tm×List Cs×List ByteArray // ((Tm.mk yk yn ya yb yvs yxs ycs).sr dws=Tm.sr (.mk u.1 u.2.1 u.2.2.1 u.2.2.2.1 u.2.2.2.2.1 u.2.2.2.2.2.1 u.2.2.2.2.2.2.1) (woN dws u.2.2.2.2.2.2.2)∧Tm.Du (.mk u.1 u.2.1 u.2.2.1 u.2.2.2.1 u.2.2.2.2.1 u.2.2.2.2.2.1 u.2.2.2.2.2.2.1)∧Tm.Ok (.mk u.1 u.2.1 u.2.2.1 u.2.2.2.1 u.2.2.2.2.1 u.2.2.2.2.2.1 u.2.2.2.2.2.2.1)∧u.2.2.2.2.2.2.2.length+(woN dws u.2.2.2.2.2.2.2).length≤dws.length)}=>⟨71,[(0,.d (.str nm)),(3,.ptr 3 0),(4,.ptr 4 0),(5,.ptr 5 0),(6,.ptr 6 0)],[(3,some (.blk 90 [.d (.int dt),.d (Q8 dws),.d (.int yk),.d (.int yn),.d (.str ya),.d (.str yb),.d (Q8 yvs),.d (.sl (yxs.map Tm.row)),.d (.sl (ycs.map Cs.row))])),(4,some (.blk 90 [.d (.int 0),.lit (.slice none 0 0),.d (.int 0),.d (.int 0),.d (.str ByteArray.empty),.d (.str ByteArray.empty),.lit (.slice none 0 0),.lit (.slice none 0 0),.lit (.slice none 0 0)])),(5,some (.blk 45 [.d (.int u.1.1),.d (.int u.1.2.1),.d (.str u.1.2.2.1),.d (.str u.1.2.2.2.1),.d (Q8 u.1.2.2.2.2.1),.d (.sl (u.1.2.2.2.2.2.1.map Tm.row)),.d (.sl (u.1.2.2.2.2.2.2.1.map Cs.row))])),(6,some (.blk 41 [.arr 400 0 u.1.2.2.2.2.2.2.2.length])),(400,some (.arr 9 1 (u.1.2.2.2.2.2.2.2.map Z0)))]⟩)
  (μ:=fun u=>(Tm.mk u.1.1 u.1.2.1 u.1.2.2.1 u.1.2.2.2.1 u.1.2.2.2.2.1 u.1.2.2.2.2.2.1 u.1.2.2.2.2.2.2.1).sz) ⟨(yk,yn,ya,yb,yvs,yxs,ycs,[]),⟨by rw[woN_nil'],hyd,hyO,by rw[woN_nil'];simp⟩⟩ (Le.sub (by simp) (by simp)) (fun⟨(zk,zn,za,zb,zvs,zxs,zcs,us),hw⟩=>?_)
 dsimp only at hw⊢;obtain⟨hsr,hdu,hzO,hul⟩:=hw;have hc1:=sp_Contains dws za (by omega);have hc2:=cs_Contains 1000 us za (by omega);obtain⟨qa,hq1⟩:∃q,hasB dws za=q:=⟨_,rfl⟩
 obtain⟨qb,hq2⟩:∃q,hasB us za=q:=⟨_,rfl⟩
 rw[hq1]at hc1;rw[hq2]at hc2;by_cases q1:zk=8
 ·cases qa with
  |true=>
   cases qb with
   |true=>
    refine AWp.rg [] [.p (fun _=>.d (.bool true)) none,.c [(1000,400)] [.arr 1000 0 us.length,.d (.str za)] [(1000,.arr 9 1 (us.map Z0))] (.d (.bool true)) [(1000,.arr 9 1 (us.map Z0))]] ?_ (hr:=by conv=>lhs;simp[Tm.row,Tm.Q3,Cs.Q3,q1]);refine AWp.cn ?_;refine AWp.exit ?_;have hsz:Tm.sr (.mk zk zn za zb zvs zxs zcs) (woN dws us)=(woN dws us,(.mk zk zn za zb zvs zxs zcs)):=by
     refine if_neg fun h=>?_
     have h2:=h.2;rw[hasB_woN,hq1,hq2]at h2;cases h2
    obtain⟨A,hA⟩:∃A:Int,(dws.length:Int)=A:=⟨_,rfl⟩
    rw[hsz]at hsr;refine AWp.rg [] [] ?_ (hr:=by conv=>lhs;simp[Tm.row,Tm.Q3,Cs.Q3,hA,q1]);refine AWp.cy ?_;rw[fuOne_no hsr fun h1 h2 h3=>by have h4:zk=9:=h2;omega]at hR;injection hR with e1 e2 e3 e4 e5 e6 e7;subst e1 e2 e3 e4 e5 e6 e7;refine AWp.rg [] [] ?_ (hr:=by conv=>lhs;simp[Tm.row,Tm.Q3,Cs.Q3,q1]);refine AWp.ret ?_;try dsimp only[Qq,Q6]
    apply Z8.ret
    ·rfl
    ·conv=>lhs;simp[Q9,Tryz.results74]
    first|rfl|simp[Z6,Tm.row,Tm.Q3,Cs.Q3,AV.Xk,K4,Q8]
   |false=>
    refine AWp.rg [] [.p (fun _=>.d (.bool true)) none,.c [(1000,400)] [.arr 1000 0 us.length,.d (.str za)] [(1000,.arr 9 1 (us.map Z0))] (.d (.bool false)) [(1000,.arr 9 1 (us.map Z0))]] ?_ (hr:=by conv=>lhs;simp[Tm.row,Tm.Q3,Cs.Q3,q1]);refine AWp.cy ?_;refine AWp.skip ?_;have hzn:zxs≠[]:=hdu.1 (.inl q1);obtain⟨x,r,rfl⟩:∃x r,zxs=x::r:=by
     rcases zxs with _|⟨x,r⟩
     ·exact absurd rfl hzn
     ·exact⟨x,r,rfl⟩
    have hwh:hasB (woN dws us) za=true:=by rw[hasB_woN,hq1,hq2];rfl
    have hle:=woN_less hwh;rw[woN_woN]at hle;have hsr2:(Tm.mk yk yn ya yb yvs yxs ycs).sr dws=x.sr (woN dws (us++[za])):=by rw[hsr,Tm.sr,if_pos ⟨q1,hwh⟩,Tm.srL,woN_woN]
    have hxd:x.Du:=hdu.2.1.1;have hxO:x.Ok:=hzO.2.2.1.1;obtain⟨xk,xn,xa,xb,xvs,xxs,xcs⟩:=x;refine AWp.rg [] [] ?_ (hr:=by conv=>lhs;simp[Tm.row,Tm.Q3,Cs.Q3,q1]);refine AWp.rg [] [] ?_ (hr:=by conv=>lhs;simp[Tm.row,Tm.Q3,Cs.Q3,q1]);refine⟨⟨(xk,xn,xa,xb,xvs,xxs,xcs,us++[za]),⟨hsr2,hxd,hxO,by dsimp only;simp;omega⟩⟩,by simp only[Tm.sz,Tm.szs];omega,?_⟩;dsimp only;exact Le.sub (by simp) (by simp)
  |false=>
   refine AWp.rg [] [.p (fun _=>.d (.bool false)) none] ?_ (hr:=by conv=>lhs;simp[Tm.row,Tm.Q3,Cs.Q3,q1]);refine AWp.cn ?_;refine AWp.exit ?_;have hsz:Tm.sr (.mk zk zn za zb zvs zxs zcs) (woN dws us)=(woN dws us,(.mk zk zn za zb zvs zxs zcs)):=by
    refine if_neg fun h=>?_
    have h2:=h.2;rw[hasB_woN,hq1,hq2]at h2;cases h2
   obtain⟨A,hA⟩:∃A:Int,(dws.length:Int)=A:=⟨_,rfl⟩
   rw[hsz]at hsr;refine AWp.rg [] [] ?_ (hr:=by conv=>lhs;simp[Tm.row,Tm.Q3,Cs.Q3,hA,q1]);refine AWp.cy ?_;rw[fuOne_no hsr fun h1 h2 h3=>by have h4:zk=9:=h2;omega]at hR;injection hR with e1 e2 e3 e4 e5 e6 e7;subst e1 e2 e3 e4 e5 e6 e7;refine AWp.rg [] [] ?_ (hr:=by conv=>lhs;simp[Tm.row,Tm.Q3,Cs.Q3,q1]);refine AWp.ret ?_;try dsimp only[Qq,Q6]
   apply Z8.ret
   ·rfl
   ·conv=>lhs;simp[Q9,Tryz.results74]
   first|rfl|simp[Z6,Tm.row,Tm.Q3,Cs.Q3,AV.Xk,K4,Q8]
 refine AWp.rg [] [] ?_ (hr:=by conv=>lhs;simp[Tm.row,Tm.Q3,Cs.Q3,q1]);refine AWp.cn ?_;refine AWp.exit ?_;have hsz:Tm.sr (.mk zk zn za zb zvs zxs zcs) (woN dws us)=(woN dws us,(.mk zk zn za zb zvs zxs zcs)):=by
  refine if_neg fun h=>?_
  exact absurd h.1 q1
 obtain⟨A,hA⟩:∃A:Int,(dws.length:Int)=A:=⟨_,rfl⟩
 rw[hsz]at hsr;by_cases q2:zk=9
 ·by_cases q3:za=nm
  ·by_cases q4:A=0
   ·refine AWp.rg [] [] ?_ (hr:=by conv=>lhs;simp[Tm.row,Tm.Q3,Cs.Q3,hA,q1,q2,q3,q4]);refine AWp.cy ?_;rw[fuOne_no hsr fun h1 h2 h3=>h1 (by omega)]at hR;injection hR with e1 e2 e3 e4 e5 e6 e7;subst e1 e2 e3 e4 e5 e6 e7;refine AWp.rg [] [] ?_ (hr:=by conv=>lhs;simp[Tm.row,Tm.Q3,Cs.Q3,q1,q2,q3,q4]);refine AWp.ret ?_;try dsimp only[Qq,Q6]
    apply Z8.ret
    ·rfl
    ·conv=>lhs;simp[Q9,Tryz.results74]
    first|rfl|simp[Z6,Tm.row,Tm.Q3,Cs.Q3,AV.Xk,K4,Q8]
   refine AWp.rg [] [] ?_ (hr:=by conv=>lhs;simp[Tm.row,Tm.Q3,Cs.Q3,hA,q1,q2,q3,q4]);refine AWp.cn ?_;refine AWp.skip ?_;apply AWp.Uk [400]
   ·conv=>lhs;simp
   have hzn:zxs≠[]:=hdu.1 (.inr q2);obtain⟨x,r,rfl⟩:∃x r,zxs=x::r:=by
    rcases zxs with _|⟨x,r⟩
    ·exact absurd rfl hzn
    ·exact⟨x,r,rfl⟩
   rw[fuOne_yes hsr (by omega) q2 q3]at hR;rw[show Tm.a0 (.mk zk zn za zb zvs (x::r) zcs)=x from rfl]at hR;have hcl:=Qz2 dws (by omega);have hdf:=cs_DeleteFunc dws (by omega) (hasB us) 112 41 (Q8 us) (fun s _=>cs_fone1 us s (by omega));obtain⟨rest,hrs⟩:∃l,l=woN dws us:=⟨_,rfl⟩
   rw[←hrs]at hR;rw[show(dws.filter fun s=>!hasB us s)=rest from by rw[hrs];rfl]at hdf;obtain⟨RR,hRR⟩:∃R,R=Wz dws (hasB us):=⟨_,rfl⟩
   have hRn:List.take rest.length RR=List.map Z0 rest:=by
    rw[hRR,hrs,Wz,woN,List.take_append_of_le_length (by simp),List.take_of_length_le (by simp)]
   have hRl:dws.length≤RR.length:=by
    have:=List.length_filter_le (fun s=>!hasB us s) dws;rw[hRR,Wz];simp;omega
   rw[←hRR]at hdf;have hrl:rest.length≤dws.length:=by rw[hrs];exact F5 _ _
   have hfd:=sp_fdrops rest x (by omega) (fun s hs=>maxLen_ge (hwz s (by rw[hrs]at hs;exact(List.mem_filter.1 hs).1)));generalize cnt 9 rest x=e at hfd hR;obtain⟨xk,xn,xa,xb,xvs,xxs,xcs⟩:=x;obtain⟨ek,en,ea,eb,evs,exs,ecs⟩:=e;injection hR with e1 e2 e3 e4 e5 e6 e7;subst e1 e2 e3 e4 e5 e6 e7;refine AWp.rg [] [.p (fun d=>.arr d 0 dws.length) (some (.arr 9 1 (dws.map Z0))),.c [(1000,6),(1001,54)] [.arr 1001 0 dws.length,.clo 112 [.ptr 1000 0]] [(1000,.blk 41 [.d (Q8 us)]),(1001,.arr 9 1 (dws.map Z0))] (.arr 1001 0 rest.length) [(1000,.blk 41 [.d (Q8 us)]),(1001,.arr 9 1 RR)]] ?_ (hr:=by conv=>lhs;simp[Tm.row,Tm.Q3,Cs.Q3,q1,q2,q3,q4]);apply AWp.Uk [54]
   ·conv=>lhs;simp[hRn]
   refine AWp.dw [3,10] [.p (fun d=>.arr d 0 dws.length) (some (.arr 9 1 (dws.map Z0))),.p (fun _=>.agg [.d (.int ek),.d (.int en),.d (.str ea),.d (.str eb),.d (Q8 evs),.d (.sl (exs.map Tm.row)),.d (.sl (ecs.map Cs.row))]) none] mixed ?_ (hr:=by conv=>lhs;simp[Tm.row,Tm.Q3,Cs.Q3,q1,q2,q3,q4]);refine AWp.rg [] [] ?_ (hr:=by conv=>lhs;simp[Tm.row,Tm.Q3,Cs.Q3,q1,q2,q3,q4]);refine AWp.ret ?_;try dsimp only[Qq,Q6]
   apply Z8.ret
   ·rfl
   ·conv=>lhs;simp[Q9,Tryz.results74]
   first|rfl|simp[Z6,Tm.row,Tm.Q3,Cs.Q3,AV.Xk,K4,Q8]
  refine AWp.rg [] [] ?_ (hr:=by conv=>lhs;simp[Tm.row,Tm.Q3,Cs.Q3,hA,q1,q2,q3]);refine AWp.cy ?_;rw[fuOne_no hsr fun h1 h2 h3=>q3 h3]at hR;injection hR with e1 e2 e3 e4 e5 e6 e7;subst e1 e2 e3 e4 e5 e6 e7;refine AWp.rg [] [] ?_ (hr:=by conv=>lhs;simp[Tm.row,Tm.Q3,Cs.Q3,q1,q2,q3]);refine AWp.ret ?_;try dsimp only[Qq,Q6]
  apply Z8.ret
  ·rfl
  ·conv=>lhs;simp[Q9,Tryz.results74]
  first|rfl|simp[Z6,Tm.row,Tm.Q3,Cs.Q3,AV.Xk,K4,Q8]
 refine AWp.rg [] [] ?_ (hr:=by conv=>lhs;simp[Tm.row,Tm.Q3,Cs.Q3,hA,q1,q2]);refine AWp.cy ?_;rw[fuOne_no hsr fun h1 h2 h3=>q2 h2]at hR;injection hR with e1 e2 e3 e4 e5 e6 e7;subst e1 e2 e3 e4 e5 e6 e7;refine AWp.rg [] [] ?_ (hr:=by conv=>lhs;simp[Tm.row,Tm.Q3,Cs.Q3,q1,q2]);refine AWp.ret ?_;try dsimp only[Qq,Q6]
 apply Z8.ret
 ·rfl
 ·conv=>lhs;simp[Q9,Tryz.results74]
 first|rfl|simp[Z6,Tm.row,Tm.Q3,Cs.Q3,AV.Xk,K4,Q8]
def FuN (N:Nat):Prop:=∀t:Tm,t.sz≤N→t.Ok→t.Du→Z4 Tryz.prog 42 [X9 t] (fun _=>X9 t.fu) none
theorem fu_step (N:Nat) (ih:FuN N):FuN (N+1):=by
 intro t hsz hO hD;obtain⟨R,hR⟩:∃R,R=t.fu:=⟨_,rfl⟩
 rw[←hR];obtain⟨rk,rn,ra,rb,rvs,rxs,rcs⟩:=R;obtain⟨tk,tn,ta,tb,tvs,txs,tcs⟩:=t;rw[Tm.fu,Tm.Ez,Cs.Ez]at hR;obtain⟨nm0,hn0⟩:∃x,x=nmH txs:=⟨_,rfl⟩
 rw[←hn0]at hR;have hxO:∀x∈txs,x.Ok:=fun x hx=>Tm.X8.1 hO.2.2.1 x hx
 have hcO:∀x∈tcs,x.Ok:=fun x hx=>Cs.X8.1 hO.2.2.2 x hx
 have hxD:∀x∈txs,x.Du:=fun x hx=>Tm.Cj.1 hD.2.1 x hx
 have hcD:∀x∈tcs,x.Du:=fun x hx=>Cs.Cj.1 hD.2.2 x hx
 obtain⟨o1,o2,o3,o4,o5⟩:=hO.vars;have hown:=cs_Own (.mk tk tn ta tb tvs txs tcs) hO;dsimp only at hown;simp only[Tm.sz]at hsz;refine Z4.of Tryz.func42 rfl rfl rfl (Nat.le_of_ble_eq_true rfl) ?_;show AWp _ _ (Z8 _ Tryz.f42 _ _ _) (Z7 68 _);refine AWp.rg [] [] ?_ (hr:=by conv=>lhs;simp[Tm.row,Tm.Q3,Cs.Q3]);refine AWp.rg [] [.n [(500,400),(501,401)] [.agg [.d (.int tk),.d (.int tn),.d (.str ta),.d (.str tb),.d (Q8 tvs),.d (.sl (txs.map Tm.row)),.d (.sl (tcs.map Cs.row))]] [] (.agg [.d (.int tk),.d (.int tn),.d (.str ta),.d (.str tb),.d (Q8 tvs),.arr 500 0 txs.length,.arr 501 0 tcs.length]) [(500,.arr 45 7 (txs.map Tm.row)),(501,.arr 90 9 (tcs.map Cs.row))] [500,501]] ?_ (hr:=by conv=>lhs;simp[Tm.row,Tm.Q3,Cs.Q3]);refine AWp.rg [] [] ?_ (hr:=by conv=>lhs;simp[Tm.row,Tm.Q3,Cs.Q3]);repeat (first|refine AWp.seq ?_|refine AWp.block ?_)
 refine AWp.loop (σ:=fun u:{u:Nat×List Tm×List (List D) // u.1≤txs.length∧(u.2.1=(txs.take u.1).map Tm.fu∧u.2.1.length=u.1∧u.2.2=(u.2.1++txs.drop u.1).map Tm.row)}=>⟨68,[(1,.ptr 1 0),(2,.ptr 2 0),(9,.d (.int txs.length)),(10,.d (.int (u.1.1:Int)))],[(1,some (.blk 45 [.d (.int tk),.d (.int tn),.d (.str ta),.d (.str tb),.d (Q8 tvs),.arr 400 0 txs.length,.arr 401 0 tcs.length])),(2,some (.blk 45 [.d (.int 0),.d (.int 0),.d (.str ByteArray.empty),.d (.str ByteArray.empty),.lit (.slice none 0 0),.lit (.slice none 0 0),.lit (.slice none 0 0)])),(400,some (.arr 45 7 u.1.2.2)),(401,some (.arr 90 9 (tcs.map Cs.row)))]⟩)
  (μ:=fun u=>txs.length-u.1.1) ⟨(0,[],txs.map Tm.row),⟨Nat.zero_le _,⟨by simp,rfl,by simp⟩⟩⟩ (Le.sub (by simp) (by simp)) (fun⟨(i,ys,RS),⟨hi3,hw⟩⟩=>?_)
 dsimp only at hi3 hw⊢;refine AWp.rg [] [] ?_ (hr:=by conv=>lhs;simp[Tm.row,Tm.Q3,Cs.Q3]);repeat (first|refine AWp.seq ?_|refine AWp.block ?_)
 refine AWp.cond rfl (fun hc=>?_) (fun hc=>?_)
 ·have hi1:i<txs.length:=by have:=of_decide_eq_true hc;omega
  clear hc;have h1y:txs[i]? =some txs[i]:=List.getElem?_eq_getElem hi1;have hmy:txs[i]∈txs:=List.getElem_mem hi1;have hdy:txs.drop i=txs[i]::txs.drop (i+1):=List.drop_eq_getElem_cons hi1;generalize txs[i]=y at h1y hmy hdy;obtain⟨hys,hyl,hRS⟩:=hw;have hx:=ih y (by have:=Tm.X0 hmy;omega) (hxO y hmy) (hxD y hmy);have hsn:(txs.take (i+1)).map Tm.fu=ys++[y.fu]:=by rw[List.take_add_one,h1y,List.map_append,←hys];rfl
  rw[hdy]at hRS;generalize y.fu=z at hx hsn;obtain⟨yk,yn,ya,yb,yvs,yxs,ycs⟩:=y;obtain⟨zk,zn,za,zb,zvs,zxs,zcs⟩:=z;have hRS0:RS[i]? =some (Tm.row (.mk yk yn ya yb yvs yxs ycs)):=by rw[hRS,List.getElem?_map,List.getElem?_append_right (by omega),hyl,Nat.sub_self];rfl
  obtain⟨RS1,hRS1⟩:∃R,R=RS.set i (Tm.row (.mk zk zn za zb zvs zxs zcs)):=⟨_,rfl⟩
  have hRS2:RS1=((ys++[Tm.mk zk zn za zb zvs zxs zcs])++txs.drop (i+1)).map Tm.row:=by
   rw[hRS1,hRS,←List.map_set,List.set_append_right _ _ (by omega),hyl,Nat.sub_self];simp
  have hRSl:RS.length=txs.length:=by rw[hRS,List.length_map,List.length_append,List.length_cons,List.length_drop];omega
  simp only[Tm.row,Tm.Q3,Cs.Q3]at hRS0 hRS1;replace hRS1:=hRS1.symm;refine AWp.skip ?_;refine AWp.rg [] [] ?_ (hr:=by conv=>lhs;simp[Tm.row,Tm.Q3,Cs.Q3,h1y,hRS0,hRS1]);refine AWp.dw [] [.p (fun _=>.agg [.d (.int zk),.d (.int zn),.d (.str za),.d (.str zb),.d (Q8 zvs),.d (.sl (zxs.map Tm.row)),.d (.sl (zcs.map Cs.row))]) none] mixed ?_ (hr:=by conv=>lhs;simp[Tm.row,Tm.Q3,Cs.Q3,h1y,hRS0,hRS1]);refine AWp.rg [] [] ?_ (hr:=by conv=>lhs;simp[Tm.row,Tm.Q3,Cs.Q3,h1y,hRS0,hRS1]);refine⟨⟨(i+1,ys++[.mk zk zn za zb zvs zxs zcs],RS1),hi1,⟨by rw[hsn],by simp[hyl],hRS2⟩⟩,by simp;omega,?_⟩;dsimp only;exact Le.sub (by simp) (by simp)
 have hi1:i=txs.length:=by have:=of_decide_eq_false hc;omega
 subst hi1;clear hc;obtain⟨hys,hyl,hRS⟩:=hw;rw[List.drop_length,List.append_nil]at hRS;rw[List.take_length]at hys;rw[←hys]at hR;have hynm:nmH ys=nmH txs:=by
  rw[hys];rcases txs with _|⟨x,r⟩
  ·rfl
  ·exact Tm.fu_nm x
 rw[←hn0]at hynm;clear hys;subst hRS;refine AWp.exit ?_;refine AWp.rg [] [] ?_ (hr:=by conv=>lhs;simp[Tm.row,Tm.Q3,Cs.Q3]);repeat (first|refine AWp.seq ?_|refine AWp.block ?_)
 refine AWp.loop (σ:=fun u:{u:Nat×List Cs×List (List D) // u.1≤tcs.length∧(u.2.1=(tcs.take u.1).map (Cs.fu tk txs.length nm0)∧u.2.1.length=u.1∧u.2.2=(u.2.1++tcs.drop u.1).map Cs.row)}=>⟨68,[(1,.ptr 1 0),(2,.ptr 2 0),(26,.d (.int tcs.length)),(27,.d (.int (u.1.1:Int)))],[(1,some (.blk 45 [.d (.int tk),.d (.int tn),.d (.str ta),.d (.str tb),.d (Q8 tvs),.arr 400 0 txs.length,.arr 401 0 tcs.length])),(2,some (.blk 45 [.d (.int 0),.d (.int 0),.d (.str ByteArray.empty),.d (.str ByteArray.empty),.lit (.slice none 0 0),.lit (.slice none 0 0),.lit (.slice none 0 0)])),(400,some (.arr 45 7 (ys.map Tm.row))),(401,some (.arr 90 9 u.1.2.2))]⟩)
  (μ:=fun u=>tcs.length-u.1.1) ⟨(0,[],tcs.map Cs.row),⟨Nat.zero_le _,⟨by simp,rfl,by simp⟩⟩⟩ (Le.sub (by simp) (by simp)) (fun⟨(i,ds,RS),⟨hi8,hw2⟩⟩=>?_)
 dsimp only at hi8 hw2⊢;refine AWp.rg [] [] ?_ (hr:=by conv=>lhs;simp[Tm.row,Tm.Q3,Cs.Q3]);repeat (first|refine AWp.seq ?_|refine AWp.block ?_)
 refine AWp.cond rfl (fun hc=>?_) (fun hc=>?_)
 ·have hi1:i<tcs.length:=by have:=of_decide_eq_true hc;omega
  clear hc;have h1d:tcs[i]? =some tcs[i]:=List.getElem?_eq_getElem hi1;have hmd:tcs[i]∈tcs:=List.getElem_mem hi1;have hdd:tcs.drop i=tcs[i]::tcs.drop (i+1):=List.drop_eq_getElem_cons hi1;generalize tcs[i]=d at h1d hmd hdd;obtain⟨hds,hdl,hRS⟩:=hw2;have hdO:=hcO d hmd;have hdD:=hcD d hmd;have hsz:=Cs.X0 hmd;rw[hdd]at hRS;have hsn:(tcs.take (i+1)).map (Cs.fu tk txs.length nm0)=ds++[d.fu tk txs.length nm0]:=by rw[List.take_add_one,h1d,List.map_append,←hds];rfl
  obtain⟨dt,dws,y⟩:=d;have hx:=ih y (by simp only[Cs.sz]at hsz;omega) hdO.2.2 hdD.2;obtain⟨hfo,hfd⟩:=Tm.fu_ok y hdO.2.2 hdD.2;rw[Cs.fu]at hsn;generalize y.fu=z at hx hfo hfd hsn;obtain⟨yk,yn,ya,yb,yvs,yxs,ycs⟩:=y;obtain⟨zk,zn,za,zb,zvs,zxs,zcs⟩:=z;obtain⟨u,hu⟩:∃u,Yv tk txs.length nm0 dws (.mk zk zn za zb zvs zxs zcs)=u:=⟨_,rfl⟩
  rw[hu]at hsn;have hone:=fun(h:tk=7) (h2:txs.length=1)=>sp_one nm0 dt dws zk zn za zb zvs zxs zcs hfo hfd hdD.1 hdO.1
  obtain⟨uk,un,ua,ub,uvs,uxs,ucs⟩:=u;have hRSl:RS.length=tcs.length:=by rw[hRS,List.length_map,List.length_append,List.length_cons,List.length_drop];omega
  have hR0:RS[i]? =some [.int dt,Q8 dws,.int yk,.int yn,.str ya,.str yb,Q8 yvs,.sl (yxs.map Tm.row),.sl (ycs.map Cs.row)]:=by rw[hRS,List.getElem?_map,List.getElem?_append_right (by omega),hdl,Nat.sub_self];simp[Cs.row,Tm.row,Tm.Q3,Cs.Q3]
  obtain⟨R1,hR1⟩:∃R1,RS.set i [.int dt,Q8 dws,.int zk,.int zn,.str za,.str zb,Q8 zvs,.sl (zxs.map Tm.row),.sl (zcs.map Cs.row)]=R1:=⟨_,rfl⟩
  have hR1g:R1[i]? =some [.int dt,Q8 dws,.int zk,.int zn,.str za,.str zb,Q8 zvs,.sl (zxs.map Tm.row),.sl (zcs.map Cs.row)]:=by rw[←hR1];exact List.getElem?_set_self (by omega)
  have hR1l:R1.length=RS.length:=by rw[←hR1];simp
  have hRS2:RS.set i [.int dt,Q8 dws,.int uk,.int un,.str ua,.str ub,Q8 uvs,.sl (uxs.map Tm.row),.sl (ucs.map Cs.row)]=((ds++[Cs.mk dt dws (.mk uk un ua ub uvs uxs ucs)])++tcs.drop (i+1)).map Cs.row:=by
   rw[show([.int dt,Q8 dws,.int uk,.int un,.str ua,.str ub,Q8 uvs,.sl (uxs.map Tm.row),.sl (ucs.map Cs.row)]:List D)=Cs.row (Cs.mk dt dws (.mk uk un ua ub uvs uxs ucs))from by simp[Cs.row,Tm.row,Tm.Q3,Cs.Q3],hRS,←List.map_set,List.set_append_right _ _ (by omega),hdl,Nat.sub_self];simp
  refine AWp.skip ?_;refine AWp.rg [] [] ?_ (hr:=by conv=>lhs;simp[Tm.row,Tm.Q3,Cs.Q3,h1d,Cs.row,hR0,hR1,hR1g]);refine AWp.dw [] [.p (fun _=>.agg [.d (.int zk),.d (.int zn),.d (.str za),.d (.str zb),.d (Q8 zvs),.d (.sl (zxs.map Tm.row)),.d (.sl (zcs.map Cs.row))]) none] mixed ?_ (hr:=by conv=>lhs;simp[Tm.row,Tm.Q3,Cs.Q3,h1d,Cs.row,hR0,hR1,hR1g]);obtain⟨A,hA⟩:∃A:Int,(txs.length:Int)=A:=⟨_,rfl⟩
  by_cases q1:A=1
  ·by_cases q2:tk=7
   ·refine AWp.rg [] [] ?_ (hr:=by conv=>lhs;simp[Tm.row,Tm.Q3,Cs.Q3,h1d,Cs.row,hR0,hR1,hR1g,hA,q1,q2]);refine AWp.cy ?_;have hA1:A=1:=q1;subst q2;have hl1:txs.length=1:=by omega
    have hon:=hone rfl hl1;rw[hl1]at hu;rw[hu]at hon;obtain⟨y0,hy0⟩:∃y0,ys=[y0]:=by
     rcases ys with _|⟨y0,_|⟨y1,r⟩⟩
     ·simp at hyl;omega
     ·exact⟨y0,rfl⟩
     ·simp at hyl;omega
    obtain⟨ak,an,aa,ab,avs,axs,acs⟩:=y0;rw[hy0]at hynm;obtain rfl:nm0=aa:=hynm.symm;replace hy0:(ys.map Tm.row)[0]? =some [.int ak,.int an,.str nm0,.str ab,Q8 avs,.sl (axs.map Tm.row),.sl (acs.map Cs.row)]:=by rw[hy0];simp[Tm.row,Tm.Q3,Cs.Q3]
    obtain⟨R2,hR2⟩:∃R2,R1.set i [.int dt,Q8 dws,.int uk,.int un,.str ua,.str ub,Q8 uvs,.sl (uxs.map Tm.row),.sl (ucs.map Cs.row)]=R2:=⟨_,rfl⟩
    have hR2l:R2.length=R1.length:=by rw[←hR2];simp
    refine AWp.dw [] [.p (fun _=>.agg [.d (.int dt),.d (Q8 dws),.d (.int uk),.d (.int un),.d (.str ua),.d (.str ub),.d (Q8 uvs),.d (.sl (uxs.map Tm.row)),.d (.sl (ucs.map Cs.row))]) none] mixed ?_ (hr:=by conv=>lhs;simp[Tm.row,Tm.Q3,Cs.Q3,h1d,Cs.row,hR0,hR1g,hy0,hR2,q1]);refine AWp.rg [] [] ?_ (hr:=by conv=>lhs;simp[Tm.row,Tm.Q3,Cs.Q3,h1d,Cs.row,hR0,hR1g,hy0,hR2,q1]);refine⟨⟨(i+1,ds++[.mk dt dws (.mk uk un ua ub uvs uxs ucs)],R2),hi1,⟨hsn.symm,by simp[hdl],by rw[←hR2,←hR1,List.set_set];exact hRS2⟩⟩,by simp;omega,?_⟩;dsimp only;exact Le.sub (by simp) (by simp)
   refine AWp.rg [] [] ?_ (hr:=by conv=>lhs;simp[Tm.row,Tm.Q3,Cs.Q3,h1d,Cs.row,hR0,hR1,hR1g,hA,q1,q2]);refine AWp.cn ?_;refine AWp.skip ?_;have hzu:([.int dt,Q8 dws,.int zk,.int zn,.str za,.str zb,Q8 zvs,.sl (zxs.map Tm.row),.sl (zcs.map Cs.row)]:List D)=[.int dt,Q8 dws,.int uk,.int un,.str ua,.str ub,Q8 uvs,.sl (uxs.map Tm.row),.sl (ucs.map Cs.row)]:=by
    unfold Yv at hu;rw[if_neg (fun h=>q2 h.2.2.1)]at hu;injection hu with e1 e2 e3 e4 e5 e6 e7;subst e1 e2 e3 e4 e5 e6 e7;rfl
   refine AWp.rg [] [] ?_ (hr:=by conv=>lhs;simp[Tm.row,Tm.Q3,Cs.Q3,h1d,Cs.row,hR0,hR1,hR1g,q1,q2]);refine⟨⟨(i+1,ds++[.mk dt dws (.mk uk un ua ub uvs uxs ucs)],R1),hi1,⟨hsn.symm,by simp[hdl],by rw[←hR1,hzu];exact hRS2⟩⟩,by simp;omega,?_⟩;dsimp only;exact Le.sub (by simp) (by simp)
  refine AWp.rg [] [] ?_ (hr:=by conv=>lhs;simp[Tm.row,Tm.Q3,Cs.Q3,h1d,Cs.row,hR0,hR1,hR1g,hA,q1]);refine AWp.cn ?_;refine AWp.skip ?_;have hzu:([.int dt,Q8 dws,.int zk,.int zn,.str za,.str zb,Q8 zvs,.sl (zxs.map Tm.row),.sl (zcs.map Cs.row)]:List D)=[.int dt,Q8 dws,.int uk,.int un,.str ua,.str ub,Q8 uvs,.sl (uxs.map Tm.row),.sl (ucs.map Cs.row)]:=by
   unfold Yv at hu;rw[if_neg (fun h=>by have:=h.2.1;omega)]at hu;injection hu with e1 e2 e3 e4 e5 e6 e7;subst e1 e2 e3 e4 e5 e6 e7;rfl
  refine AWp.rg [] [] ?_ (hr:=by conv=>lhs;simp[Tm.row,Tm.Q3,Cs.Q3,h1d,Cs.row,hR0,hR1,hR1g,q1]);refine⟨⟨(i+1,ds++[.mk dt dws (.mk uk un ua ub uvs uxs ucs)],R1),hi1,⟨hsn.symm,by simp[hdl],by rw[←hR1,hzu];exact hRS2⟩⟩,by simp;omega,?_⟩;dsimp only;exact Le.sub (by simp) (by simp)
 have hi1:i=tcs.length:=by have:=of_decide_eq_false hc;omega
 subst hi1;clear hc;obtain⟨hds,hdl,hRS⟩:=hw2;rw[List.drop_length,List.append_nil]at hRS;rw[List.take_length]at hds;rw[←hds]at hR;replace hR:=hR.symm;injection hR with e1 e2 e3 e4 e5 e6 e7;subst e1 e2 e3 e4 e5 e6 e7;subst hRS;refine AWp.exit ?_;refine AWp.rg [] [] ?_ (hr:=by conv=>lhs;simp[Tm.row,Tm.Q3,Cs.Q3]);refine AWp.ret ?_;have htk1:List.take txs.length (List.map Tm.row ys)=List.map Tm.row ys:=List.take_of_length_le (by simp;omega);have htk2:List.take tcs.length (List.map Cs.row ds)=List.map Cs.row ds:=List.take_of_length_le (by simp;omega);try dsimp only[Qq,Q6]
 apply Z8.retF [400,401]
 ·rfl
 ·conv=>lhs;simp[htk1,htk2]
 ·conv=>lhs;simp[Q9,Tryz.results42,htk1,htk2]
 first|rfl|simp[Z6,X9,Tm.row,Tm.Q3,Cs.Q3,htk1,htk2]
theorem fu_all:∀N,FuN N
 |0=>fun t h=>by obtain⟨tk,tn,ta,tb,tvs,txs,tcs⟩:=t;simp only[Tm.sz]at h;omega
 |N+1=>fu_step N (fu_all N)
theorem sp_FuAll (l:List Fn) (hl:l.length≤879609302220) (hall:∀f∈l,f.body.Ok∧f.body.Du∧f.params.length≤6):Z4 Tryz.prog 20 [L6 l] (fun _=>L6 (l.map Fn.fu)) none:=by
 obtain⟨G,hG⟩:∃G,G=l.map Fn.fu:=⟨_,rfl⟩
 rw[←hG];refine Z4.of Tryz.func20 rfl rfl rfl (Nat.le_of_ble_eq_true rfl) ?_;show AWp _ _ (Z8 _ Tryz.f20 _ _ _) (Z7 26 _);refine AWp.rg [] [] ?_ (hr:=by conv=>lhs;simp[Fn.row,Tm.row,Tm.Q3,Cs.Q3]);refine AWp.rg [] [] ?_ (hr:=by conv=>lhs;simp[Fn.row,Tm.row,Tm.Q3,Cs.Q3]);refine AWp.rg [] [] ?_ (hr:=by conv=>lhs;simp[Fn.row,Tm.row,Tm.Q3,Cs.Q3]);repeat (first|refine AWp.seq ?_|refine AWp.block ?_)
 refine AWp.le (Le.low [400] [] (fr:=[(3,.arr 400 0 ([]:List Fn).length),(6,.d (.sl (l.map Fn.row))),(7,.d (.int (l.length:Int))),(8,.d (.int (0:Int)))]) (mem:=[(400,some (.arr 47 9 (([]:List Fn).map Fn.row)))]) rfl (by simp) (by simp)) ?_;refine AWp.loop (σ:=fun u:{u:Nat×List Fn // u.1≤l.length∧u.2=(l.take u.1).map Fn.fu}=>⟨26,[(3,.arr 400 0 u.1.2.length),(6,.d (.sl (l.map Fn.row))),(7,.d (.int (l.length:Int))),(8,.d (.int (u.1.1:Int)))],[(400,some (.arr 47 9 (u.1.2.map Fn.row)))]⟩)
  (μ:=fun u=>l.length-u.1.1) ⟨(0,[]),⟨Nat.zero_le _,by simp⟩⟩ (Le.sub (by simp) (by simp)) (fun⟨(i,gs),⟨hi3,hw⟩⟩=>?_)
 dsimp only at hi3 hw⊢;refine AWp.rg [] [] ?_ (hr:=by conv=>lhs;simp[Fn.row,Tm.row,Tm.Q3,Cs.Q3]);repeat (first|refine AWp.seq ?_|refine AWp.block ?_)
 refine AWp.cond rfl (fun hc=>?_) (fun hc=>?_)
 ·have hi1:i<l.length:=by have:=of_decide_eq_true hc;omega
  clear hc;have h1f:l[i]? =some l[i]:=List.getElem?_eq_getElem hi1;have hmf:l[i]∈l:=List.getElem_mem hi1;have hdf:l.drop i=l[i]::l.drop (i+1):=List.drop_eq_getElem_cons hi1;generalize l[i]=f at h1f hmf hdf;have hgl:gs.length=i:=by rw[hw,List.length_map,List.length_take];omega
  obtain⟨hfO,hfD,hfp⟩:=hall f hmf;have hx:=fu_all f.body.sz f.body (Nat.le_refl _) hfO hfD;have hcl:=Qz2 f.params (by omega);have hsn:(l.take (i+1)).map Fn.fu=gs++[⟨f.name,f.params,f.body.fu⟩]:=by rw[List.take_add_one,h1f,List.map_append,←hw];rfl
  obtain⟨fg,fps,fb⟩:=f;dsimp only at hx hcl hfp hsn;generalize fb.fu=z at hx hsn;obtain⟨fk,fn,fa,fb,fvs,fxs,fcs⟩:=fb;obtain⟨zk,zn,za,zb,zvs,zxs,zcs⟩:=z;refine AWp.skip ?_;refine AWp.rg [] [] ?_ (hr:=by conv=>lhs;simp[Fn.row,Tm.row,Tm.Q3,Cs.Q3,h1f]);refine AWp.dw [5] [.p (fun d=>.arr d 0 fps.length) (some (.arr 9 1 (fps.map Z0))),.p (fun _=>.agg [.d (.int zk),.d (.int zn),.d (.str za),.d (.str zb),.d (Q8 zvs),.d (.sl (zxs.map Tm.row)),.d (.sl (zcs.map Cs.row))]) none] mixed ?_ (hr:=by conv=>lhs;simp[Fn.row,Tm.row,Tm.Q3,Cs.Q3,h1f]);refine AWp.rg [] [] ?_ (hr:=by conv=>lhs;simp[Fn.row,Tm.row,Tm.Q3,Cs.Q3,h1f]);refine⟨⟨(i+1,gs++[⟨fg,fps,.mk zk zn za zb zvs zxs zcs⟩]),hi1,hsn.symm⟩,by simp;omega,?_⟩;dsimp only;exact Le.sub (by simp[Fn.row,Tm.row,Tm.Q3,Cs.Q3,hgl]) (by simp[Fn.row,Tm.row,Tm.Q3,Cs.Q3,hgl])
 have hi1:i=l.length:=by have:=of_decide_eq_false hc;omega
 subst hi1;clear hc;rw[List.take_length]at hw;obtain rfl:gs=G:=by rw[hw,hG]
 refine AWp.exit ?_;refine AWp.rg [] [] ?_ (hr:=by conv=>lhs;simp[Fn.row,Tm.row,Tm.Q3,Cs.Q3]);refine AWp.ret ?_;try dsimp only[Qq,Q6]
 apply Z8.retF [400]
 ·rfl
 ·conv=>lhs;simp
 ·conv=>lhs;simp[Q9,Tryz.results20]
 rfl
theorem Tm.P7 (x:Tm):∀(l:List Tm) (n:Int),Tm.Nj n (l++[x])=wr (Tm.Nj n l+x.stp)
 |[],n=>rfl
 |y::r,n=>by rw[List.cons_append,Tm.Nj,Tm.Nj,Tm.P7 x r]
theorem Cs.P7 (x:Cs):∀(l:List Cs) (n:Int),Cs.Nj n (l++[x])=wr (Cs.Nj n l+x.stp)
 |[],n=>rfl
 |y::r,n=>by rw[List.cons_append,Cs.Nj,Cs.Nj,Cs.P7 x r]
def StN (N:Nat):Prop:=∀t:Tm,t.sz≤N→t.Ok→Z4 Tryz.prog 41 [X9 t] (fun _=>.d (.int t.stp)) none
theorem StN_step (N:Nat) (ih:StN N):StN (N+1):=by
 intro t hsz hO;obtain⟨R,hR⟩:∃R,R=t.stp:=⟨_,rfl⟩
 rw[←hR];obtain⟨tk,tn,ta,tb,tvs,txs,tcs⟩:=t;have hxO:∀x∈txs,x.Ok:=fun x hx=>Tm.X8.1 hO.2.2.1 x hx
 have hcO:∀x∈tcs,x.Ok:=fun x hx=>Cs.X8.1 hO.2.2.2 x hx
 obtain⟨o1,o2,o3,o4,o5⟩:=hO.vars;rw[Tm.stp]at hR;simp only[Tm.sz]at hsz;refine Z4.of Tryz.func41 rfl rfl rfl (Nat.le_of_ble_eq_true rfl) ?_;show AWp _ _ (Z8 _ Tryz.f41 _ _ _) (Z7 37 _);refine AWp.rg [] [] ?_ (hr:=by conv=>lhs;simp[Tm.row,Tm.Q3,Cs.Q3]);refine AWp.rg [] [] ?_ (hr:=by conv=>lhs;simp[Tm.row,Tm.Q3,Cs.Q3]);by_cases q1:8≤tk
 ·refine AWp.rg [] [] ?_ (hr:=by conv=>lhs;simp[Tm.row,Tm.Q3,Cs.Q3,q1]);refine AWp.cy ?_;refine AWp.rg [] [] ?_ (hr:=by conv=>lhs;simp[Tm.row,Tm.Q3,Cs.Q3,q1]);rw[if_pos (by omega)]at hR;refine AWp.rg [] [] ?_ (hr:=by conv=>lhs;simp[Tm.row,Tm.Q3,Cs.Q3,q1]);repeat (first|refine AWp.seq ?_|refine AWp.block ?_)
  refine AWp.loop (σ:=fun u:{u:Nat×Int // u.1≤txs.length∧u.2=Tm.Nj 1 (txs.take u.1)}=>⟨37,[(1,.ptr 1 0),(3,.d (.int u.1.2)),(12,.d (.sl (txs.map Tm.row))),(13,.d (.int (txs.length:Int))),(14,.d (.int (u.1.1:Int)))],[(1,some (.blk 45 [.d (.int tk),.d (.int tn),.d (.str ta),.d (.str tb),.d (Q8 tvs),.d (.sl (txs.map Tm.row)),.d (.sl (tcs.map Cs.row))]))]⟩)
   (μ:=fun u=>txs.length-u.1.1) ⟨(0,1),⟨Nat.zero_le _,by simp[Tm.Nj]⟩⟩ (Le.sub (by simp) (by simp)) (fun⟨(i,n),⟨hi5,hw⟩⟩=>?_)
  dsimp only at hi5 hw⊢;refine AWp.rg [] [] ?_ (hr:=by conv=>lhs;simp[Tm.row,Tm.Q3,Cs.Q3,q1]);repeat (first|refine AWp.seq ?_|refine AWp.block ?_)
  refine AWp.cond rfl (fun hc=>?_) (fun hc=>?_)
  ·have hi1:i<txs.length:=by have:=of_decide_eq_true hc;omega
   clear hc;have h1y:txs[i]? =some txs[i]:=List.getElem?_eq_getElem hi1;have hmy:txs[i]∈txs:=List.getElem_mem hi1;have hdy:txs.drop i=txs[i]::txs.drop (i+1):=List.drop_eq_getElem_cons hi1;generalize txs[i]=y at h1y hmy hdy;have hx:=ih y (by have:=Tm.X0 hmy;omega) (hxO y hmy);have hsn:Tm.Nj 1 (txs.take (i+1))=wr (n+y.stp):=by rw[List.take_add_one,h1y];show Tm.Nj 1 (_++[y])=_;rw[Tm.P7,←hw]
   generalize y.stp=s at hx hsn;obtain⟨yk,yn,ya,yb,yvs,yxs,ycs⟩:=y;refine AWp.skip ?_;refine AWp.rg [] [] ?_ (hr:=by conv=>lhs;simp[Tm.row,Tm.Q3,Cs.Q3,h1y,q1]);refine AWp.rg [3] [.p (fun _=>.d (.int s)) none] ?_ (hr:=by conv=>lhs;simp[Tm.row,Tm.Q3,Cs.Q3,h1y,q1]);refine AWp.rg [] [] ?_ (hr:=by conv=>lhs;simp[Tm.row,Tm.Q3,Cs.Q3,h1y,q1]);refine⟨⟨(i+1,wr (n+s)),hi1,hsn.symm⟩,by simp;omega,?_⟩;dsimp only;exact Le.sub (by simp) (by simp)
  have hi1:i=txs.length:=by have:=of_decide_eq_false hc;omega
  subst hi1;clear hc;rw[List.take_length]at hw;rw[←hw]at hR;clear hw;refine AWp.exit ?_;refine AWp.rg [] [] ?_ (hr:=by conv=>lhs;simp[Tm.row,Tm.Q3,Cs.Q3,q1]);repeat (first|refine AWp.seq ?_|refine AWp.block ?_)
  refine AWp.loop (σ:=fun u:{u:Nat×Int // u.1≤tcs.length∧u.2=Cs.Nj n (tcs.take u.1)}=>⟨37,[(3,.d (.int u.1.2)),(24,.d (.sl (tcs.map Cs.row))),(25,.d (.int (tcs.length:Int))),(26,.d (.int (u.1.1:Int)))],[]⟩)
   (μ:=fun u=>tcs.length-u.1.1) ⟨(0,n),⟨Nat.zero_le _,by simp[Cs.Nj]⟩⟩ (Le.sub (by simp) (by simp)) (fun⟨(i,m),⟨hi10,hw2⟩⟩=>?_)
  dsimp only at hi10 hw2⊢;refine AWp.rg [] [] ?_ (hr:=by conv=>lhs;simp[Tm.row,Tm.Q3,Cs.Q3,q1]);repeat (first|refine AWp.seq ?_|refine AWp.block ?_)
  refine AWp.cond rfl (fun hc=>?_) (fun hc=>?_)
  ·have hi1:i<tcs.length:=by have:=of_decide_eq_true hc;omega
   clear hc;have h1d:tcs[i]? =some tcs[i]:=List.getElem?_eq_getElem hi1;have hmd:tcs[i]∈tcs:=List.getElem_mem hi1;have hdd:tcs.drop i=tcs[i]::tcs.drop (i+1):=List.drop_eq_getElem_cons hi1;generalize tcs[i]=d at h1d hmd hdd;have hsz2:=Cs.X0 hmd;have hsn:Cs.Nj n (tcs.take (i+1))=wr (m+d.stp):=by rw[List.take_add_one,h1d];show Cs.Nj n (_++[d])=_;rw[Cs.P7,←hw2]
   obtain⟨dt,dws,y⟩:=d;have hx:=ih y (by simp only[Cs.sz]at hsz2;omega) (hcO _ hmd).2.2;rw[Cs.stp]at hsn;generalize y.stp=s at hx hsn;obtain⟨yk,yn,ya,yb,yvs,yxs,ycs⟩:=y;refine AWp.skip ?_;refine AWp.rg [] [] ?_ (hr:=by conv=>lhs;simp[Tm.row,Tm.Q3,Cs.Q3,h1d,Cs.row,q1]);refine AWp.rg [4] [.p (fun _=>.d (.int s)) none] ?_ (hr:=by conv=>lhs;simp[Tm.row,Tm.Q3,Cs.Q3,h1d,Cs.row,q1]);refine AWp.rg [] [] ?_ (hr:=by conv=>lhs;simp[Tm.row,Tm.Q3,Cs.Q3,h1d,Cs.row,q1]);refine⟨⟨(i+1,wr (m+s)),hi1,hsn.symm⟩,by simp;omega,?_⟩;dsimp only;exact Le.sub (by simp) (by simp)
  have hi1:i=tcs.length:=by have:=of_decide_eq_false hc;omega
  subst hi1;clear hc;rw[List.take_length]at hw2;rw[←hw2]at hR;subst hR;refine AWp.exit ?_;refine AWp.rg [] [] ?_ (hr:=by conv=>lhs;simp[Tm.row,Tm.Q3,Cs.Q3,q1]);refine AWp.ret ?_;try dsimp only[Qq,Q6]
  apply Z8.ret
  ·rfl
  ·conv=>lhs;simp[Q9,Tryz.results41]
  rfl
 refine AWp.rg [] [] ?_ (hr:=by conv=>lhs;simp[Tm.row,Tm.Q3,Cs.Q3,q1]);refine AWp.cn ?_;refine AWp.skip ?_;rw[if_neg (by omega)]at hR;refine AWp.rg [] [] ?_ (hr:=by conv=>lhs;simp[Tm.row,Tm.Q3,Cs.Q3,q1]);repeat (first|refine AWp.seq ?_|refine AWp.block ?_)
 refine AWp.loop (σ:=fun u:{u:Nat×Int // u.1≤txs.length∧u.2=Tm.Nj 0 (txs.take u.1)}=>⟨37,[(1,.ptr 1 0),(3,.d (.int u.1.2)),(12,.d (.sl (txs.map Tm.row))),(13,.d (.int (txs.length:Int))),(14,.d (.int (u.1.1:Int)))],[(1,some (.blk 45 [.d (.int tk),.d (.int tn),.d (.str ta),.d (.str tb),.d (Q8 tvs),.d (.sl (txs.map Tm.row)),.d (.sl (tcs.map Cs.row))]))]⟩)
  (μ:=fun u=>txs.length-u.1.1) ⟨(0,0),⟨Nat.zero_le _,by simp[Tm.Nj]⟩⟩ (Le.sub (by simp) (by simp)) (fun⟨(i,n),⟨hi5,hw⟩⟩=>?_)
 dsimp only at hi5 hw⊢;refine AWp.rg [] [] ?_ (hr:=by conv=>lhs;simp[Tm.row,Tm.Q3,Cs.Q3,q1]);repeat (first|refine AWp.seq ?_|refine AWp.block ?_)
 refine AWp.cond rfl (fun hc=>?_) (fun hc=>?_)
 ·have hi1:i<txs.length:=by have:=of_decide_eq_true hc;omega
  clear hc;have h1y:txs[i]? =some txs[i]:=List.getElem?_eq_getElem hi1;have hmy:txs[i]∈txs:=List.getElem_mem hi1;have hdy:txs.drop i=txs[i]::txs.drop (i+1):=List.drop_eq_getElem_cons hi1;generalize txs[i]=y at h1y hmy hdy;have hx:=ih y (by have:=Tm.X0 hmy;omega) (hxO y hmy);have hsn:Tm.Nj 0 (txs.take (i+1))=wr (n+y.stp):=by rw[List.take_add_one,h1y];show Tm.Nj 0 (_++[y])=_;rw[Tm.P7,←hw]
  generalize y.stp=s at hx hsn;obtain⟨yk,yn,ya,yb,yvs,yxs,ycs⟩:=y;refine AWp.skip ?_;refine AWp.rg [] [] ?_ (hr:=by conv=>lhs;simp[Tm.row,Tm.Q3,Cs.Q3,h1y,q1]);refine AWp.rg [3] [.p (fun _=>.d (.int s)) none] ?_ (hr:=by conv=>lhs;simp[Tm.row,Tm.Q3,Cs.Q3,h1y,q1]);refine AWp.rg [] [] ?_ (hr:=by conv=>lhs;simp[Tm.row,Tm.Q3,Cs.Q3,h1y,q1]);refine⟨⟨(i+1,wr (n+s)),hi1,hsn.symm⟩,by simp;omega,?_⟩;dsimp only;exact Le.sub (by simp) (by simp)
 have hi1:i=txs.length:=by have:=of_decide_eq_false hc;omega
 subst hi1;clear hc;rw[List.take_length]at hw;rw[←hw]at hR;clear hw;refine AWp.exit ?_;refine AWp.rg [] [] ?_ (hr:=by conv=>lhs;simp[Tm.row,Tm.Q3,Cs.Q3,q1]);repeat (first|refine AWp.seq ?_|refine AWp.block ?_)
 refine AWp.loop (σ:=fun u:{u:Nat×Int // u.1≤tcs.length∧u.2=Cs.Nj n (tcs.take u.1)}=>⟨37,[(3,.d (.int u.1.2)),(24,.d (.sl (tcs.map Cs.row))),(25,.d (.int (tcs.length:Int))),(26,.d (.int (u.1.1:Int)))],[]⟩)
  (μ:=fun u=>tcs.length-u.1.1) ⟨(0,n),⟨Nat.zero_le _,by simp[Cs.Nj]⟩⟩ (Le.sub (by simp) (by simp)) (fun⟨(i,m),⟨hi10,hw2⟩⟩=>?_)
 dsimp only at hi10 hw2⊢;refine AWp.rg [] [] ?_ (hr:=by conv=>lhs;simp[Tm.row,Tm.Q3,Cs.Q3,q1]);repeat (first|refine AWp.seq ?_|refine AWp.block ?_)
 refine AWp.cond rfl (fun hc=>?_) (fun hc=>?_)
 ·have hi1:i<tcs.length:=by have:=of_decide_eq_true hc;omega
  clear hc;have h1d:tcs[i]? =some tcs[i]:=List.getElem?_eq_getElem hi1;have hmd:tcs[i]∈tcs:=List.getElem_mem hi1;have hdd:tcs.drop i=tcs[i]::tcs.drop (i+1):=List.drop_eq_getElem_cons hi1;generalize tcs[i]=d at h1d hmd hdd;have hsz2:=Cs.X0 hmd;have hsn:Cs.Nj n (tcs.take (i+1))=wr (m+d.stp):=by rw[List.take_add_one,h1d];show Cs.Nj n (_++[d])=_;rw[Cs.P7,←hw2]
  obtain⟨dt,dws,y⟩:=d;have hx:=ih y (by simp only[Cs.sz]at hsz2;omega) (hcO _ hmd).2.2;rw[Cs.stp]at hsn;generalize y.stp=s at hx hsn;obtain⟨yk,yn,ya,yb,yvs,yxs,ycs⟩:=y;refine AWp.skip ?_;refine AWp.rg [] [] ?_ (hr:=by conv=>lhs;simp[Tm.row,Tm.Q3,Cs.Q3,h1d,Cs.row,q1]);refine AWp.rg [4] [.p (fun _=>.d (.int s)) none] ?_ (hr:=by conv=>lhs;simp[Tm.row,Tm.Q3,Cs.Q3,h1d,Cs.row,q1]);refine AWp.rg [] [] ?_ (hr:=by conv=>lhs;simp[Tm.row,Tm.Q3,Cs.Q3,h1d,Cs.row,q1]);refine⟨⟨(i+1,wr (m+s)),hi1,hsn.symm⟩,by simp;omega,?_⟩;dsimp only;exact Le.sub (by simp) (by simp)
 have hi1:i=tcs.length:=by have:=of_decide_eq_false hc;omega
 subst hi1;clear hc;rw[List.take_length]at hw2;rw[←hw2]at hR;subst hR;refine AWp.exit ?_;refine AWp.rg [] [] ?_ (hr:=by conv=>lhs;simp[Tm.row,Tm.Q3,Cs.Q3,q1]);refine AWp.ret ?_;try dsimp only[Qq,Q6]
 apply Z8.ret
 ·rfl
 ·conv=>lhs;simp[Q9,Tryz.results41]
 rfl
theorem StN_all:∀N,StN N
 |0=>fun t h=>by obtain⟨tk,tn,ta,tb,tvs,txs,tcs⟩:=t;simp only[Tm.sz]at h;omega
 |N+1=>StN_step N (StN_all N)
abbrev lsO:Qz:=.blk 86 [.mp 1001,.mp 1002,.mp 1003]
abbrev lcO (l:List (ByteArray×Int)):Qz:=.map true false 1 (Qw l)
abbrev liO (l:List (ByteArray×ByteArray)):Qz:=.map true false 1 (Xx l)
def LS.Bd (s:LS) (N:Int):Prop:=∀n,0≤s.c n∧s.c n≤N
theorem LS.Bd.at {s:LS} {N:Int} (h:s.Bd N) {n:ByteArray} {k:Int} (hk:lkA s.ct n=some k):0≤k∧k≤N:=by
 have:=h n;unfold LS.c at this
 rwa [hk]at this
theorem LS.Bd.mono {s:LS} {N M:Int} (h:s.Bd N) (hm:N≤M):s.Bd M:=fun n=>by have:=h n;omega
theorem LS.Bd.use {s:LS} {N:Int} (h:s.Bd N) (n:ByteArray):(s.Y6 n).2.Bd N:=by
 unfold LS.Y6;split
 ·exact h
 ·rename_i k hk;split
  ·exact h
  ·intro m;have h1:=h m;have h2:=h.at hk;rw[LS.c_put];split<;> omega
theorem LS.Bd.inc {s:LS} {N:Int} (h:s.Bd N) (n:ByteArray):(s.inc n).Bd (N+1):=fun m=>by
 have h1:=h m;have h2:=h n;unfold LS.inc;rw[LS.c_put];split<;> omega
theorem LS.P5 (c:List (ByteArray×Int)) (inn:List (ByteArray×ByteArray)) (tk:List (ByteArray×Int)) (n:ByteArray):∃e c2,LS.Y6 ⟨c,inn,tk⟩ n=(e,⟨c2,inn,tk⟩):=by
 unfold LS.Y6;split
 ·exact⟨_,_,rfl⟩
 ·split<;> exact⟨_,_,rfl⟩
theorem LS.useE_tk (s:LS) (n:ByteArray):(s.Y6 n).2.tk=s.tk∧(s.Y6 n).2.inn=s.inn:=by
 unfold LS.Y6;split
 ·exact⟨rfl,rfl⟩
 ·split<;> exact⟨rfl,rfl⟩
theorem cs_luse (s:LS) (n:ByteArray) (hB:s.Bd 4611686018427387904):Qv Tryz.prog 69 [.ptr 1000 0,.d (.str n)] [(1000,lsO),(1001,lcO s.ct),(1002,liO s.inn),(1003,lcO s.tk)] (.d (.int (s.Y6 n).1)) [(1000,lsO),(1001,lcO (s.Y6 n).2.ct),(1002,liO (s.Y6 n).2.inn),(1003,lcO (s.Y6 n).2.tk)]:=by
 obtain⟨ct,inn,tk⟩:=s;cases hk:lkA ct n with
 |none=>
  have hkg:D.Xz (.str n) (Qw ct)=none:=by rw[X4,hk];rfl
  rw[show LS.Y6 ⟨ct,inn,tk⟩ n=(6,⟨ct,inn,tk⟩)by unfold LS.Y6;rw[hk]];refine Qv.of Tryz.func69 rfl rfl (Nat.le_of_ble_eq_true rfl) ?_;show AWp _ _ (Qk _ Tryz.f69 _ _) (Zz 29 _ _);refine AWp.rg [] [] ?_ (hr:=by conv=>lhs;simp[Q5,hkg]);refine AWp.rg [] [] ?_ (hr:=by conv=>lhs;simp[Q5,hkg]);refine AWp.rg [] [] ?_ (hr:=by conv=>lhs;simp[Q5,hkg]);refine AWp.cy ?_;refine AWp.rg [] [] ?_ (hr:=by conv=>lhs;simp[Q5,hkg]);refine AWp.ret ?_;try dsimp only[Qq,Q6]
  apply Qk.ret
  ·rfl
  ·conv=>lhs;simp[Q9,Tryz.results69]
  ·first|rfl|simp
  ·simp[Qx,Q4]
 |some k=>
  have hkg:D.Xz (.str n) (Qw ct)=some [.int k]:=by rw[X4,hk];rfl
  have hkb:=hB.at hk;by_cases h1:k<1
  ·rw[show LS.Y6 ⟨ct,inn,tk⟩ n=(16,⟨ct,inn,tk⟩)by unfold LS.Y6;rw[hk];exact if_pos h1];refine Qv.of Tryz.func69 rfl rfl (Nat.le_of_ble_eq_true rfl) ?_;show AWp _ _ (Qk _ Tryz.f69 _ _) (Zz 29 _ _);refine AWp.rg [] [] ?_ (hr:=by conv=>lhs;simp[Q5,hkg,h1]);refine AWp.rg [] [] ?_ (hr:=by conv=>lhs;simp[Q5,hkg,h1]);refine AWp.rg [] [] ?_ (hr:=by conv=>lhs;simp[Q5,hkg,h1]);refine AWp.cn ?_;refine AWp.rg [] [] ?_ (hr:=by conv=>lhs;simp[Q5,hkg,h1]);refine AWp.cy ?_;refine AWp.rg [] [] ?_ (hr:=by conv=>lhs;simp[Q5,hkg,h1]);refine AWp.ret ?_;try dsimp only[Qq,Q6]
   apply Qk.ret
   ·rfl
   ·conv=>lhs;simp[Q9,Tryz.results69]
   ·first|rfl|simp
   ·simp[Qx,Q4]
  rw[show LS.Y6 ⟨ct,inn,tk⟩ n=(0,⟨Xj ct n (k-1),inn,tk⟩)by unfold LS.Y6;rw[hk];exact if_neg h1];refine Qv.of Tryz.func69 rfl rfl (Nat.le_of_ble_eq_true rfl) ?_;show AWp _ _ (Qk _ Tryz.f69 _ _) (Zz 29 _ _);refine AWp.rg [] [] ?_ (hr:=by conv=>lhs;simp[Q5,hkg,h1]);refine AWp.rg [] [] ?_ (hr:=by conv=>lhs;simp[Q5,hkg,h1]);refine AWp.rg [] [] ?_ (hr:=by conv=>lhs;simp[Q5,hkg,h1]);refine AWp.cn ?_;refine AWp.rg [] [] ?_ (hr:=by conv=>lhs;simp[Q5,hkg,h1]);refine AWp.cn ?_;refine AWp.skip ?_;refine AWp.rg [] [] ?_ (hr:=by conv=>lhs;simp[Q5,hkg,h1]);refine AWp.rg [] [] ?_ (hr:=by conv=>lhs;simp[Q5,hkg,h1]);refine AWp.ret ?_;try dsimp only[Qq,Q6]
  apply Qk.ret
  ·rfl
  ·conv=>lhs;simp[Q9,Tryz.results69]
  ·first|rfl|simp
  ·simp[Qx,Q4]
theorem cs_lthere (s:LS) (n:ByteArray) (hB:s.Bd 4611686018427387904):Qv Tryz.prog 108 [.ptr 1000 0,.d (.str n)] [(1000,lsO),(1001,lcO s.ct),(1002,liO s.inn),(1003,lcO s.tk)] (.d (.bool (s.there n))) [(1000,lsO),(1001,lcO s.ct),(1002,liO s.inn),(1003,lcO s.tk)]:=by
 obtain⟨ct,inn,tk⟩:=s;obtain⟨R,hR⟩:∃R,R=LS.there ⟨ct,inn,tk⟩ n:=⟨_,rfl⟩
 rw[←hR];refine Qv.of Tryz.func108 rfl rfl (Nat.le_of_ble_eq_true rfl) ?_;show AWp _ _ (Qk _ Tryz.f108 _ _) (Zz 33 _ _);refine AWp.rg [] [] ?_;cases hk:lkA ct n with
 |none=>
  have hkg:D.Xz (.str n) (Qw ct)=none:=by rw[X4,hk];rfl
  refine AWp.rg [] [] ?_ (hr:=by conv=>lhs;simp[hkg]);refine AWp.cn ?_;refine AWp.skip ?_;cases hi:lkA inn n with
  |none=>
   have hig:D.Xz (.str n) (Xx inn)=none:=by rw[Sz,hi];rfl
   refine AWp.rg [] [] ?_ (hr:=by conv=>lhs;simp[hkg,hig]);refine AWp.rg [] [] ?_ (hr:=by conv=>lhs;simp[hkg,hig]);refine AWp.ret ?_;obtain rfl:R=false:=by rw[hR];simp[LS.there,LS.c,hk,hi]
   try dsimp only[Qq,Q6]
   apply Qk.ret
   ·rfl
   ·conv=>lhs;simp[Q9,Tryz.results108]
   ·first|rfl|simp
   ·simp[Qx,Q4]
  |some up=>
   have hig:D.Xz (.str n) (Xx inn)=some [.str up]:=by rw[Sz,hi];rfl
   cases hu:lkA ct up with
   |none=>
    have hug:D.Xz (.str up) (Qw ct)=none:=by rw[X4,hu];rfl
    refine AWp.rg [] [] ?_ (hr:=by conv=>lhs;simp[hkg,hig,hug]);refine AWp.rg [] [] ?_ (hr:=by conv=>lhs;simp[hkg,hig,hug]);refine AWp.ret ?_;obtain rfl:R=false:=by rw[hR];simp[LS.there,LS.c,hk,hi,hu]
    try dsimp only[Qq,Q6]
    apply Qk.ret
    ·rfl
    ·conv=>lhs;simp[Q9,Tryz.results108]
    ·first|rfl|simp
    ·simp[Qx,Q4]
   |some u=>
    have hug:D.Xz (.str up) (Qw ct)=some [.int u]:=by rw[X4,hu];rfl
    have hub:=hB.at hu;refine AWp.rg [] [] ?_ (hr:=by conv=>lhs;simp[hkg,hig,hug]);refine AWp.rg [] [] ?_ (hr:=by conv=>lhs;simp[hkg,hig,hug]);refine AWp.ret ?_;obtain rfl:R=(decide (0<u)):=by rw[hR];simp[LS.there,LS.c,hk,hi,hu]
    try dsimp only[Qq,Q6]
    apply Qk.ret
    ·rfl
    ·conv=>lhs;simp[Q9,Tryz.results108]
    ·first|rfl|simp
    ·simp[Qx,Q4]
 |some k=>
  have hkg:D.Xz (.str n) (Qw ct)=some [.int k]:=by rw[X4,hk];rfl
  have hkb:=hB.at hk;by_cases q1:0<k
  ·refine AWp.rg [] [] ?_ (hr:=by conv=>lhs;simp[hkg,q1]);refine AWp.cy ?_;refine AWp.rg [] [] ?_ (hr:=by conv=>lhs;simp[hkg,q1]);refine AWp.ret ?_;obtain rfl:R=true:=by rw[hR];simp[LS.there,LS.c,hk,q1]
   try dsimp only[Qq,Q6]
   apply Qk.ret
   ·rfl
   ·conv=>lhs;simp[Q9,Tryz.results108]
   ·first|rfl|simp
   ·simp[Qx,Q4]
  refine AWp.rg [] [] ?_ (hr:=by conv=>lhs;simp[hkg,q1]);refine AWp.cn ?_;refine AWp.skip ?_;cases hi:lkA inn n with
  |none=>
   have hig:D.Xz (.str n) (Xx inn)=none:=by rw[Sz,hi];rfl
   refine AWp.rg [] [] ?_ (hr:=by conv=>lhs;simp[hkg,hig,q1]);refine AWp.rg [] [] ?_ (hr:=by conv=>lhs;simp[hkg,hig,q1]);refine AWp.ret ?_;obtain rfl:R=false:=by rw[hR];simp[LS.there,LS.c,hk,hi,q1]
   try dsimp only[Qq,Q6]
   apply Qk.ret
   ·rfl
   ·conv=>lhs;simp[Q9,Tryz.results108]
   ·first|rfl|simp
   ·simp[Qx,Q4]
  |some up=>
   have hig:D.Xz (.str n) (Xx inn)=some [.str up]:=by rw[Sz,hi];rfl
   cases hu:lkA ct up with
   |none=>
    have hug:D.Xz (.str up) (Qw ct)=none:=by rw[X4,hu];rfl
    refine AWp.rg [] [] ?_ (hr:=by conv=>lhs;simp[hkg,hig,hug,q1]);refine AWp.rg [] [] ?_ (hr:=by conv=>lhs;simp[hkg,hig,hug,q1]);refine AWp.ret ?_;obtain rfl:R=false:=by rw[hR];simp[LS.there,LS.c,hk,hi,hu,q1]
    try dsimp only[Qq,Q6]
    apply Qk.ret
    ·rfl
    ·conv=>lhs;simp[Q9,Tryz.results108]
    ·first|rfl|simp
    ·simp[Qx,Q4]
   |some u=>
    have hug:D.Xz (.str up) (Qw ct)=some [.int u]:=by rw[X4,hu];rfl
    have hub:=hB.at hu;refine AWp.rg [] [] ?_ (hr:=by conv=>lhs;simp[hkg,hig,hug,q1]);refine AWp.rg [] [] ?_ (hr:=by conv=>lhs;simp[hkg,hig,hug,q1]);refine AWp.ret ?_;obtain rfl:R=(decide (0<u)):=by rw[hR];simp[LS.there,LS.c,hk,hi,hu,q1]
    try dsimp only[Qq,Q6]
    apply Qk.ret
    ·rfl
    ·conv=>lhs;simp[Q9,Tryz.results108]
    ·first|rfl|simp
    ·simp[Qx,Q4]
theorem cs_lown (s:LS):Qv Tryz.prog 107 [.ptr 1000 0] [(1000,lsO),(1001,lcO s.ct),(1002,liO s.inn),(1003,lcO s.tk),(500,.arr 0 1 []),(501,.arr 0 1 []),(502,.arr 0 1 []),(503,.arr 0 1 [])] (.ptr 500 0)
  [(1000,lsO),(1001,lcO s.ct),(1002,liO s.inn),(1003,lcO s.tk),(500,.blk 86 [.mp 501,.mp 502,.mp 503]),(501,lcO s.ct),(502,liO s.inn),(503,lcO s.tk)]:=by
 obtain⟨ct,inn,tk⟩:=s;have h1:=cs_CloneI (Qw ct);have h2:=cs_CloneS (Xx inn);have h3:=cs_CloneI (Qw tk);refine Qv.of Tryz.func107 rfl rfl (Nat.le_of_ble_eq_true rfl) ?_;show AWp _ _ (Qk _ Tryz.f107 _ _) (Zz 20 _ _);refine AWp.rg [] [] ?_;refine AWp.dw [] [.n [(1000,1001),(500,401)] [.mp 1000] [(1000,.map true false 1 (Qw ct))] (.mp 500) [(1000,.map true false 1 (Qw ct)),(500,.map true false 1 (Qw ct))] [500],.n [(1000,1002),(500,402)] [.mp 1000] [(1000,.map true false 1 (Xx inn))] (.mp 500) [(1000,.map true false 1 (Xx inn)),(500,.map true false 1 (Xx inn))] [500],.n [(1000,1003),(500,403)] [.mp 1000] [(1000,.map true false 1 (Qw tk))] (.mp 500) [(1000,.map true false 1 (Qw tk)),(500,.map true false 1 (Qw tk))] [500]] mixed ?_;refine AWp.ret ?_;try dsimp only[Qq,Q6]
 apply Qk.le (Le.keep _ [2] [19,401,402,403,1000,1001,1002,1003]);apply Qk.le (Le.give _ 19 500 rfl rfl rfl);apply Qk.le (Le.give _ 401 501 rfl rfl rfl);apply Qk.le (Le.give _ 402 502 rfl rfl rfl);apply Qk.le (Le.give _ 403 503 rfl rfl rfl);try dsimp only[Qq,Q6]
 apply Qk.ret
 ·rfl
 ·conv=>lhs;simp[Q9,Tryz.results107,AS.swap,swN,Dq,Dw]
 ·rfl
 ·simp[Qx,Q4,AS.swap,swN,Dq,Dw]
end Go.Proofs.YtjpldhjgehoffaaGreatDoor
