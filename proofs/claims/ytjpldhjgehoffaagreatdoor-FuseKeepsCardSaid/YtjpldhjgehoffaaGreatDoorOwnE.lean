import Derived.Test.YtjpldhjgehoffaaGreatDoorNameO
import Derived.Test.YtjpldhjgehoffaaGreatDoorNameP
import Derived.Test.YtjpldhjgehoffaaGreatDoorOwnC
import Derived.Test.YtjpldhjgehoffaaGreatDoorParseF
import Derived.Test.YtjpldhjgehoffaaGreatDoorParseB
set_option maxRecDepth 20000
set_option maxHeartbeats 16000000
namespace Go.Proofs.YtjpldhjgehoffaaGreatDoor
open Go.RowKit
set_option linter.unusedVariables false
set_option linter.unusedSimpArgs false
abbrev Out:=Vl×Int×Int
def Oz (ws:List ByteArray) (vs:List Vl) (env:Env):Env:=(ws.zip vs).reverse++env
mutual
def Vl.Fine:Vl→Prop
 | .mk _ n ks=>(-2147483648≤n∧n≤2147483647)∧ks.length≤6∧Vl.Fines ks
def Vl.Fines:List Vl→Prop
 |[]=>True
 |t::r=>t.Fine∧Vl.Fines r
end
theorem Vl.Fines_iff:∀{l:List Vl},Vl.Fines l↔∀t∈l,t.Fine
 |[]=>by simp[Vl.Fines]
 |t::r=>by simp[Vl.Fines,Vl.Fines_iff (l:=r)]
theorem Vl.Fine.ok_at:∀(N:Nat) (v:Vl),v.sz<N→v.Fine→v.Ok:=by
 intro N;induction N with
 |zero=>intro v h;omega
 |succ N ih=>
 intro v hN h;obtain⟨c,n,ks⟩:=v;exact⟨⟨by have:=h.1.1;omega,by have:=h.1.2;omega⟩,by have:=h.2.1;omega,Vl.X8.2 fun x hx=>ih x (by have:=Vl.sz_kid (c:=c) (n:=n) hx;omega) (Vl.Fines_iff.1 h.2.2 x hx)⟩
theorem Vl.Fine.ok {v:Vl} (h:v.Fine):v.Ok:=Vl.Fine.ok_at _ v (Nat.lt_succ_self _) h
def EnvF (env:Env):Prop:=∀p∈env,p.2.Fine
theorem EnvF.get {s:ByteArray} {v:Vl}:∀{env:Env},EnvF env→H9 env s=some v→v.Fine
 |[],_,h=>by cases h
 |(x,u)::r,hF,h=>by
  rw[H9]at h;split at h
  ·cases h;exact hF _ (List.mem_cons_self ..)
  ·exact EnvF.get (fun p hp=>hF p (List.mem_cons_of_mem _ hp)) h
theorem EnvF.cons {env:Env} (h:EnvF env) {v:Vl} (hv:v.Fine) (s:ByteArray):EnvF ((s,v)::env):=fun p hp=>by
 rcases List.mem_cons.1 hp with rfl|hp
 ·exact hv
 ·exact h p hp
theorem EnvF.bind {env:Env} (h:EnvF env) {vs:List Vl} (hv:∀v∈vs,v.Fine) (ws:List ByteArray):EnvF (Oz ws vs env):=fun p hp=>by
 unfold Oz at hp;rcases List.mem_append.1 hp with hp|hp
 ·exact hv _ (List.of_mem_zip (List.mem_reverse.1 hp)).2
 ·exact h p hp
def CovE (env:Env) (names:List ByteArray):Prop:=∀s∈names,∃v,H9 env s=some v
theorem CovE.cons {env:Env} {names:List ByteArray} (h:CovE env names) (a:ByteArray) (v:Vl):CovE ((a,v)::env) (names++[a]):=fun s hs=>by
 by_cases e:a=s
 ·exact⟨v,by rw[H9,if_pos e]⟩
 ·rcases List.mem_append.1 hs with hs|hs
  ·obtain⟨u,hu⟩:=h s hs;exact⟨u,by rw[H9,if_neg e];exact hu⟩
  ·exact absurd (List.mem_singleton.1 hs).symm e
theorem envGet_append (s:ByteArray) (b:Env):∀a:Env,H9 (a++b) s=(H9 a s).or (H9 b s)
 |[]=>by simp[H9]
 |(x,v)::r=>by
  simp only[List.cons_append,H9];split
  ·rfl
  ·exact envGet_append s b r
theorem envGet_mem {s:ByteArray}:∀{a:Env},s∈a.map (·.1)→∃v,H9 a s=some v
 |(x,v)::r,h=>by
  by_cases e:x=s
  ·exact⟨v,by rw[H9,if_pos e]⟩
  ·rcases List.mem_cons.1 h with h|h
   ·exact absurd h.symm e
   ·obtain⟨u,hu⟩:=envGet_mem h;exact⟨u,by rw[H9,if_neg e];exact hu⟩
theorem CovE.bind {env:Env} {names ws:List ByteArray} {vs:List Vl} (h:CovE env names) (hl:ws.length=vs.length):CovE (Oz ws vs env) (names++ws):=fun s hs=>by
 unfold Oz;rw[envGet_append];by_cases hw:s∈ws
 ·have:s∈((ws.zip vs).reverse).map (·.1):=by
   rw[List.map_reverse,List.mem_reverse,List.map_fst_zip (by omega)];exact hw
  obtain⟨v,hv⟩:=envGet_mem this;exact⟨v,by rw[hv];rfl⟩
 ·rcases List.mem_append.1 hs with hs|hs
  ·obtain⟨v,hv⟩:=h s hs;cases H9 (ws.zip vs).reverse s with
   |none=>exact⟨v,by rw[hv];rfl⟩
   |some u=>exact⟨u,rfl⟩
  ·exact absurd hs hw
def ORel (o o':Out):Prop:=o.2=o'.2∧(o.2.2=0→o.1=o'.1)
theorem ORel.refl (o:Out):ORel o o:=⟨rfl,fun _=>rfl⟩
def Fmo {α:Type} (F:Int→α×Int×Int):Prop:=∀f,0≤f→0≤(F f).2.1∧∀k,0≤k→(F f).2.2≠12→F (f+k)=((F f).1,(F f).2.1+k,(F f).2.2)
theorem Fmo.const {α:Type} (v:α) (e:Int):Fmo fun f=>(v,f,e):=fun f hf=>⟨hf,fun k _ _=>rfl⟩
theorem Fmo.map {α β:Type} {F:Int→α×Int×Int} (h:Fmo F) (g:α→Int→β):Fmo fun f=>(g (F f).1 (F f).2.2,(F f).2.1,(F f).2.2):=fun f hf=>by
 obtain⟨h1,h2⟩:=h f hf;refine⟨h1,fun k hk he=>?_⟩;dsimp only at he⊢;rw[h2 k hk he]
theorem Fmo.bind {α β:Type} {F:Int→α×Int×Int} (h:Fmo F) (z:α→β) {G:α→Int→β×Int×Int} (hG:∀v,Fmo (G v)):
  Fmo fun f=>if (F f).2.2≠0 then (z (F f).1,(F f).2.1,(F f).2.2)else G (F f).1 (F f).2.1:=fun f hf=>by
 obtain⟨h1,h2⟩:=h f hf;dsimp only;by_cases he:(F f).2.2≠0
 ·rw[if_pos he];refine⟨h1,fun k hk h3=>?_⟩;dsimp only at h3;rw[h2 k hk h3];dsimp only;rw[if_pos he]
 ·rw[if_neg he];obtain⟨g1,g2⟩:=hG (F f).1 (F f).2.1 h1;refine⟨g1,fun k hk h3=>?_⟩;have h4:(F f).2.2≠12:=fun e=>he (by rw[e];omega)
  rw[h2 k hk h4];dsimp only;rw[if_neg he,g2 k hk h3]
theorem Fmo.congr {α:Type} {F G:Int→α×Int×Int} (h:Fmo F) (e:∀f,G f=F f):Fmo G:=by
 have:G=F:=funext e;rw[this];exact h
end Go.Proofs.YtjpldhjgehoffaaGreatDoor
namespace Go.Proofs.YtjpldhjgehoffaaGreatDoor
open Go.RowKit
attribute [local simp] Iz mkRc ldOf stOf stOk Nw Mv Rw Kj V9 Yj Yw J3 Y8 Bz evA Vj Dz Value.oneCell' Zj Q4 Z7 Qx1 U6 Z5 AS.after Zq Kq J8 AV.ids Mj Qz.ids frNo Nv G6 Wj H6 Y1 Y3 Vx U1 U0 Yz toD1 Sw setAt U9 Ij Dj L8 Gz L9 binI AV.cells J4 Jq Gq Wq AV.kill Qz.kill AV.has AV.K6 Op.operands Call.operands Dq Dw Zw Qv2 Zx Xq E8 moQ Mk R4 Yk AV.ren E5 Qz.ren Qz.like kept Zz Mw AV.frz Pz Ik Ak F8 Uk AS.frz Tw Rq Qz.frz Hq Hz bleF Nat.ble_eq G9 G7 Yq D.Y5 N7 R8 Vv Vw phO Ew Dk Gx Uj Kv Low Ex
set_option linter.unusedVariables false
set_option linter.unusedSimpArgs false
abbrev wkO (c:Int):Qz:=.blk 117 [.d (.int c)]
def bsR (b:ByteArray×Tm):List D:=.str b.1::b.2.row
def WtN (N:Nat):Prop:=∀(t:Tm) (c:Int),t.Rt N→t.Ok→
 Qv Tryz.prog 60 [.ptr 1000 0,X9 t] [(1000,wkO c)] (X9 (t.pl c).1) [(1000,wkO (t.pl c).2)]
theorem cs_atoms (N:Nat) (ih:WtN N) (l:List Tm) (c:Int) (hn:l.length≤6) (hl:∀x∈l,x.Rt N∧x.Ok):Qv Tryz.prog 92 [.ptr 1000 0,.d (.sl (l.map Tm.row))] [(1000,wkO c)] (.tuple [.d (.sl ((Tm.ats l c).1.map Tm.row)),.d (.sl ((Tm.ats l c).2.1.map bsR))]) [(1000,wkO (Tm.ats l c).2.2)]:=by
 obtain⟨R,hR⟩:∃R,R=Tm.ats l c:=⟨_,rfl⟩
 rw[←hR];refine Qv.of Tryz.func92 rfl rfl (Nat.le_of_ble_eq_true rfl) ?_;show AWp _ _ (Qk _ Tryz.f92 _ _) (Zz 53 _ _);refine AWp.rg [] [] ?_ (hr:=by conv=>lhs;simp[Tm.row,Tm.Q3,Cs.Q3,Dv,bsR]);refine AWp.rg [] [] ?_ (hr:=by conv=>lhs;simp[Tm.row,Tm.Q3,Cs.Q3,Dv,bsR]);refine AWp.rg [] [] ?_ (hr:=by conv=>lhs;simp[Tm.row,Tm.Q3,Cs.Q3,Dv,bsR]);refine AWp.rg [] [] ?_ (hr:=by conv=>lhs;simp[Tm.row,Tm.Q3,Cs.Q3,Dv,bsR]);repeat (first|refine AWp.seq ?_|refine AWp.block ?_)
 refine AWp.le (Le.low [400,401] [] (fr:=[(0,.ptr 1000 0),(6,.arr 400 0 ([]:List Tm).length),(7,.arr 401 0 ([]:Bs).length),(11,.d (.sl (l.map Tm.row))),(12,.d (.int (l.length:Int))),(13,.d (.int (0:Int)))]) (mem:=[(400,some (.arr 45 7 (([]:List Tm).map Tm.row))),(401,some (.arr 181 8 (([]:Bs).map bsR))),(1000,some (.blk 117 [.d (.int (c:Int))]))]) rfl (by simp) (by simp)) ?_;refine AWp.loop (σ:=fun u:{u:Nat×List Tm×Bs×Int // u.1≤l.length∧(Tm.ats l c=(u.2.1++(Tm.ats (l.drop u.1) u.2.2.2).1,u.2.2.1++(Tm.ats (l.drop u.1) u.2.2.2).2.1,(Tm.ats (l.drop u.1) u.2.2.2).2.2)∧u.2.1.length=u.1∧u.2.2.1.length≤u.1)}=>⟨53,[(0,.ptr 1000 0),(6,.arr 400 0 u.1.2.1.length),(7,.arr 401 0 u.1.2.2.1.length),(11,.d (.sl (l.map Tm.row))),(12,.d (.int (l.length:Int))),(13,.d (.int (u.1.1:Int)))],[(400,some (.arr 45 7 (u.1.2.1.map Tm.row))),(401,some (.arr 181 8 (u.1.2.2.1.map bsR))),(1000,some (.blk 117 [.d (.int u.1.2.2.2)]))]⟩)
  (μ:=fun u=>l.length-u.1.1) ⟨(0,[],[],c),⟨Nat.zero_le _,⟨by simp,rfl,Nat.le_refl _⟩⟩⟩ (Le.sub (by simp) (by simp)) (fun⟨(i,vs,bs,k),⟨hi4,hw⟩⟩=>?_)
 dsimp only at hi4 hw⊢;refine AWp.rg [] [] ?_ (hr:=by conv=>lhs;simp[Tm.row,Tm.Q3,Cs.Q3,Dv,bsR]);repeat (first|refine AWp.seq ?_|refine AWp.block ?_)
 refine AWp.cond rfl (fun hc=>?_) (fun hc=>?_)
 ·have hi1:i<l.length:=by have:=of_decide_eq_true hc;omega
  clear hc;have h1y:l[i]? =some l[i]:=List.getElem?_eq_getElem hi1;have hmy:l[i]∈l:=List.getElem_mem hi1;have hdy:l.drop i=l[i]::l.drop (i+1):=List.drop_eq_getElem_cons hi1;generalize l[i]=y at h1y hmy hdy;obtain⟨hap,hvl,hbl⟩:=hw;rw[hdy,Tm.ats]at hap;obtain⟨hyR,hyO⟩:=hl y hmy;obtain⟨yk,yn,ya,yb,yvs,yxs,ycs⟩:=y;rw[Tm.tk]at hap;refine AWp.skip ?_;refine AWp.rg [] [] ?_ (hr:=by conv=>lhs;simp[Tm.row,Tm.Q3,Cs.Q3,Dv,bsR,h1y]);by_cases q1:yk=1
  ·refine AWp.rg [] [] ?_ (hr:=by conv=>lhs;simp[Tm.row,Tm.Q3,Cs.Q3,Dv,bsR,h1y,q1]);refine AWp.cy ?_;subst q1;rw[if_pos rfl]at hap;refine AWp.rg [] [] ?_ (hr:=by conv=>lhs;simp[Tm.row,Tm.Q3,Cs.Q3,Dv,bsR,h1y]);refine AWp.exit ?_;refine AWp.rg [] [] ?_ (hr:=by conv=>lhs;simp[Tm.row,Tm.Q3,Cs.Q3,Dv,bsR,h1y]);refine⟨⟨(i+1,vs++[.mk 1 yn ya yb yvs yxs ycs],bs,k),hi1,⟨by rw[hap];simp,by simp[hvl],by dsimp only;omega⟩⟩,by simp;omega,?_⟩;dsimp only;exact Le.sub (by simp[bsR,Tm.row,Tm.Q3,Cs.Q3,hvl]) (by simp[bsR,Tm.row,Tm.Q3,Cs.Q3,hvl])
  refine AWp.rg [] [] ?_ (hr:=by conv=>lhs;simp[Tm.row,Tm.Q3,Cs.Q3,Dv,bsR,h1y,q1]);refine AWp.cn ?_;refine AWp.skip ?_;rw[if_neg q1]at hap;obtain⟨e,he⟩:∃e:Int,wr (k+1)=e:=⟨_,rfl⟩
  rw[he]at hap;have heI:inI e:=by rw[←he];exact wr_in _
  have hit:=sp_Itoa e heI;have hsz:=Rx heI;have h1s:(⟨#[119]⟩:ByteArray).size=1:=rfl;have hx:=ih (.mk yk yn ya yb yvs yxs ycs) e hyR hyO;generalize(Tm.mk yk yn ya yb yvs yxs ycs).pl e=o at hx hap;obtain⟨z,c2⟩:=o;dsimp only at hx hap;obtain⟨zk,zn,za,zb,zvs,zxs,zcs⟩:=z;refine AWp.rg [4] [] ?_ (hr:=by conv=>lhs;simp[Tm.row,Tm.Q3,Cs.Q3,Dv,bsR,h1y,he,q1]);refine AWp.rg [] [.p (fun _=>.d (.str (Gj e))) none] ?_ (hr:=by conv=>lhs;simp[Tm.row,Tm.Q3,Cs.Q3,Dv,bsR,h1y,he,q1]);obtain⟨s,hs⟩:∃s,s=⟨#[119]⟩++Gj e:=⟨_,rfl⟩
  rw[←hs];rw[wNm,←hs]at hap;refine AWp.rg [] [.c [] [.ptr 1000 0,.agg [.d (.int yk),.d (.int yn),.d (.str ya),.d (.str yb),.d (Q8 yvs),.d (.sl (yxs.map Tm.row)),.d (.sl (ycs.map Cs.row))]] [(1000,.blk 117 [.d (.int e)])] (.agg [.d (.int zk),.d (.int zn),.d (.str za),.d (.str zb),.d (Q8 zvs),.d (.sl (zxs.map Tm.row)),.d (.sl (zcs.map Cs.row))]) [(1000,.blk 117 [.d (.int c2)])]] ?_ (hr:=by conv=>lhs;simp[Tm.row,Tm.Q3,Cs.Q3,Dv,bsR,h1y,q1]);refine AWp.rg [] [] ?_ (hr:=by conv=>lhs;simp[Tm.row,Tm.Q3,Cs.Q3,Dv,bsR,h1y,q1]);refine AWp.rg [] [] ?_ (hr:=by conv=>lhs;simp[Tm.row,Tm.Q3,Cs.Q3,Dv,bsR,h1y,q1]);refine⟨⟨(i+1,vs++[.mk 1 0 s .empty [] [] []],bs++[(s,.mk zk zn za zb zvs zxs zcs)],c2),hi1,⟨by rw[hap];simp[varT],by simp[hvl],by dsimp only;simp;omega⟩⟩,by simp;omega,?_⟩;dsimp only;exact Le.sub (by simp[bsR,Tm.row,Tm.Q3,Cs.Q3,hvl]) (by simp[bsR,Tm.row,Tm.Q3,Cs.Q3,hvl])
 have hi1:i=l.length:=by have:=of_decide_eq_false hc;omega
 subst hi1;clear hc;obtain⟨hap,hvl,hbl⟩:=hw;rw[List.drop_length,Tm.ats]at hap;simp only[List.append_nil]at hap;rw[hap]at hR;try dsimp only at hR
 subst hR;refine AWp.exit ?_;refine AWp.rg [] [] ?_ (hr:=by conv=>lhs;simp[Tm.row,Tm.Q3,Cs.Q3,Dv,bsR]);refine AWp.ret ?_;try dsimp only[Qq,Q6]
 apply Qk.retF [400,401]
 ·rfl
 ·conv=>lhs;simp
 ·conv=>lhs;simp[Q9,Tryz.results92]
 ·rfl
 ·simp[Qx,Q4]
theorem sp_around (bs:Bs) (tk tn:Int) (ta tb:ByteArray) (tvs:List ByteArray) (txs:List Tm) (tcs:List Cs) (hn:bs.length≤6):Z4 Tryz.prog 93 [.d (.sl (bs.map bsR)),X9 (.mk tk tn ta tb tvs txs tcs)] (fun _=>X9 (around bs (.mk tk tn ta tb tvs txs tcs))) none:=by
 obtain⟨R,hR⟩:∃R,R=around bs (.mk tk tn ta tb tvs txs tcs):=⟨_,rfl⟩
 rw[←hR];obtain⟨rk,rn,ra,rb,rvs,rxs,rcs⟩:=R;refine Z4.of Tryz.func93 rfl rfl rfl (Nat.le_of_ble_eq_true rfl) ?_;show AWp _ _ (Z8 _ Tryz.f93 _ _ _) (Z7 27 _);refine AWp.rg [] [] ?_ (hr:=by conv=>lhs;simp[Tm.row,Tm.Q3,Cs.Q3,bsR]);refine AWp.rg [] [] ?_ (hr:=by conv=>lhs;simp[Tm.row,Tm.Q3,Cs.Q3,bsR]);repeat (first|refine AWp.seq ?_|refine AWp.block ?_)
 refine AWp.loop (σ:=fun u:{u:Nat×Int×Int×ByteArray×ByteArray×List ByteArray×List Tm×List Cs // (around bs (.mk tk tn ta tb tvs txs tcs)=around (bs.take u.1) (.mk u.2.1 u.2.2.1 u.2.2.2.1 u.2.2.2.2.1 u.2.2.2.2.2.1 u.2.2.2.2.2.2.1 u.2.2.2.2.2.2.2)∧u.1≤bs.length)}=>⟨27,[(0,.d (.sl (bs.map bsR))),(3,.ptr 3 0),(4,.ptr 4 0),(5,.d (.int ((u.1.1:Int)-1)))],[(3,some (.blk 45 [.d (.int u.1.2.1),.d (.int u.1.2.2.1),.d (.str u.1.2.2.2.1),.d (.str u.1.2.2.2.2.1),.d (Q8 u.1.2.2.2.2.2.1),.d (.sl (u.1.2.2.2.2.2.2.1.map Tm.row)),.d (.sl (u.1.2.2.2.2.2.2.2.map Cs.row))])),(4,some (.blk 45 [.d (.int 0),.d (.int 0),.d (.str ByteArray.empty),.d (.str ByteArray.empty),.lit (.slice none 0 0),.lit (.slice none 0 0),.lit (.slice none 0 0)]))]⟩)
  (μ:=fun u=>u.1.1) ⟨(bs.length,tk,tn,ta,tb,tvs,txs,tcs),⟨by rw[List.take_length],Nat.le_refl _⟩⟩ (Le.sub (by simp) (by simp)) (fun⟨(j0,zk,zn,za,zb,zvs,zxs,zcs),hw⟩=>?_)
 dsimp only at hw⊢;obtain⟨hw,hj⟩:=hw;rcases j0 with _|j
 ·rw[show((0:Nat):Int)-1= -1 from rfl];refine AWp.rg [] [] ?_ (hr:=by conv=>lhs;simp[Tm.row,Tm.Q3,Cs.Q3,bsR]);refine AWp.cn ?_;refine AWp.exit ?_;rw[List.take_zero]at hw;obtain⟨rfl,rfl,rfl,rfl,rfl,rfl,rfl⟩:zk=rk∧zn=rn∧za=ra∧zb=rb∧zvs=rvs∧zxs=rxs∧zcs=rcs:=by simpa[around]using (hR.trans hw).symm
  refine AWp.rg [] [] ?_ (hr:=by conv=>lhs;simp[Tm.row,Tm.Q3,Cs.Q3,bsR]);refine AWp.ret ?_;try dsimp only[Qq,Q6]
  apply Z8.ret
  ·rfl
  ·conv=>lhs;simp[Q9,Tryz.results93]
  first|rfl|simp[Z6,X9]
 rw[show((j+1:Nat):Int)-1=(j:Int)by omega];have hk0:=eq_true (Int.natCast_nonneg j);have hk1:j<bs.length:=by omega
 have h1p:bs[j]? =some bs[j]:=List.getElem?_eq_getElem hk1;have htk:bs.take (j+1)=bs.take j++[bs[j]]:=by rw[List.take_add_one,h1p];rfl
 generalize bs[j]=p at h1p htk;obtain⟨bn,xk,xn,xa,xb,xvs,xxs,xcs⟩:=p;rw[htk,around_append]at hw;dsimp only[around]at hw;refine AWp.rg [] [] ?_ (hr:=by conv=>lhs;simp[Tm.row,Tm.Q3,Cs.Q3,bsR,h1p,hk0]);refine AWp.cy ?_;refine AWp.skip ?_;refine AWp.dw [11] [] mixed ?_ (hr:=by conv=>lhs;simp[Tm.row,Tm.Q3,Cs.Q3,bsR,h1p,hk0]);repeat (first|refine AWp.seq ?_|refine AWp.block ?_)
 refine AWp.le (Le.low [] [] (fr:=[(0,.d (.sl (bs.map bsR))),(3,.ptr 3 0),(4,.ptr 4 0),(5,.d (.int (j:Int)))]) (mem:=[(3,some (.blk 45 [.d (.int 6),.d (.int 0),.d (.str bn),.d (.str ByteArray.empty),.d (.sl []),.d (.sl [[.int xk,.int xn,.str xa,.str xb,Q8 xvs,.sl (xxs.map Tm.row),.sl (xcs.map Cs.row)],[.int zk,.int zn,.str za,.str zb,Q8 zvs,.sl (zxs.map Tm.row),.sl (zcs.map Cs.row)]]),.d (.sl [])])),(4,some (.blk 45 [.d (.int 0),.d (.int 0),.d (.str ByteArray.empty),.d (.str ByteArray.empty),.lit (.slice none 0 0),.lit (.slice none 0 0),.lit (.slice none 0 0)]))]) rfl (by simp) (by simp)) ?_;refine AWp.rg [] [] ?_ (hr:=by conv=>lhs;simp[Tm.row,Tm.Q3,Cs.Q3,bsR,h1p,hk0]);refine⟨⟨(j,6,0,bn,.empty,[],[.mk xk xn xa xb xvs xxs xcs,.mk zk zn za zb zvs zxs zcs],[]),⟨hw,by omega⟩⟩,by simp only[];omega,?_⟩;dsimp only;exact Le.sub (by simp[Tm.row,Tm.Q3,Cs.Q3,Q8]) (by simp[Tm.row,Tm.Q3,Cs.Q3,Q8])
theorem I7:∀(l:List Tm) (c:Int),(Tm.ats l c).2.1.length≤l.length
 |[],_=>Nat.le_refl _
 |x::r,c=>by
  rw[Tm.ats];split
  ·have:=I7 r c;simp;omega
  ·have:=I7 r (x.pl (wr (c+1))).2;simp;omega
theorem wt_step (N:Nat) (ih:WtN N):WtN (N+1):=by
 intro t c hRt hO;obtain⟨R,hR⟩:∃R,R=t.pl c:=⟨_,rfl⟩
 rw[←hR];obtain⟨tk,tn,ta,tb,tvs,txs,tcs⟩:=t;obtain⟨hkk,hmany,h6,hxR,hcR0⟩:=hRt;have hxO:∀x∈txs,x.Ok:=fun x hx=>Tm.X8.1 hO.2.2.1 x hx
 have hcR:∀d∈tcs,d.3.Rt N∧d.3.Ok:=fun d hd=>⟨(hcR0 d hd).2,by
  obtain⟨dt,dws,y⟩:=d;exact(Cs.X8.1 hO.2.2.2 _ hd).2.2⟩
 refine Qv.of Tryz.func60 rfl rfl (Nat.le_of_ble_eq_true rfl) ?_;show AWp _ _ (Qk _ Tryz.f60 _ _) (Zz 92 _ _);refine AWp.rg [] [] ?_ (hr:=by conv=>lhs;simp[Tm.row,Tm.Q3,Cs.Q3]);refine AWp.rg [] [] ?_ (hr:=by conv=>lhs;simp[Tm.row,Tm.Q3,Cs.Q3]);by_cases q1:tk=3
 ·refine AWp.rg [] [] ?_ (hr:=by conv=>lhs;simp[Tm.row,Tm.Q3,Cs.Q3,q1]);refine AWp.cy ?_;refine AWp.skip ?_;refine AWp.cy ?_;subst q1;rw[Tm.pl,if_pos (by omega)]at hR;have hat:=cs_atoms N ih txs c (by omega) (fun x hx=>⟨hxR x hx,hxO x hx⟩);have hbl:=I7 txs c;generalize Tm.ats txs c=o at hat hR hbl;obtain⟨vs,bs,c2⟩:=o;dsimp only at hat hR hbl;have har:=sp_around bs 3 tn ta .empty [] vs [] (by omega);generalize around bs (.mk 3 tn ta .empty [] vs [])=z at har hR;subst hR;obtain⟨zk,zn,za,zb,zvs,zxs,zcs⟩:=z;replace har:=Z4.nilArgs (args:=[.d (.sl (bs.map bsR)),.agg [.d (.int 3),.d (.int tn),.d (.str ta),.d (.str .empty),.lit (.slice none 0 0),.d (.sl (vs.map Tm.row)),.lit (.slice none 0 0)]]) har;refine AWp.rg [] [.c [] [.ptr 1000 0,.d (.sl (txs.map Tm.row))] [(1000,.blk 117 [.d (.int c)])] (.tuple [.d (.sl (vs.map Tm.row)),.d (.sl (bs.map bsR))]) [(1000,.blk 117 [.d (.int c2)])]] ?_ (hr:=by conv=>lhs;simp[Tm.row,Tm.Q3,Cs.Q3]);refine AWp.rg [] [.p (fun _=>.agg [.d (.int zk),.d (.int zn),.d (.str za),.d (.str zb),.d (Q8 zvs),.d (.sl (zxs.map Tm.row)),.d (.sl (zcs.map Cs.row))]) none] ?_ (hr:=by conv=>lhs;simp[Tm.row,Tm.Q3,Cs.Q3]);refine AWp.ret ?_;try dsimp only[Qq,Q6]
  apply Qk.ret
  ·rfl
  ·conv=>lhs;simp[Q9,Tryz.results60]
  ·first|rfl|simp[Z6,X9,Tm.row,Tm.Q3,Cs.Q3,AV.Xk,K4,Q8]
  ·simp[Qx,Q4]
 refine AWp.rg [] [] ?_ (hr:=by conv=>lhs;simp[Tm.row,Tm.Q3,Cs.Q3,q1]);refine AWp.cn ?_;by_cases q2:tk=4
 ·refine AWp.rg [] [] ?_ (hr:=by conv=>lhs;simp[Tm.row,Tm.Q3,Cs.Q3,q1,q2]);refine AWp.cy ?_;refine AWp.skip ?_;refine AWp.cy ?_;subst q2;rw[Tm.pl,if_pos (by omega)]at hR;have hat:=cs_atoms N ih txs c (by omega) (fun x hx=>⟨hxR x hx,hxO x hx⟩);have hbl:=I7 txs c;generalize Tm.ats txs c=o at hat hR hbl;obtain⟨vs,bs,c2⟩:=o;dsimp only at hat hR hbl;have har:=sp_around bs 4 tn ta .empty [] vs [] (by omega);generalize around bs (.mk 4 tn ta .empty [] vs [])=z at har hR;subst hR;obtain⟨zk,zn,za,zb,zvs,zxs,zcs⟩:=z;replace har:=Z4.nilArgs (args:=[.d (.sl (bs.map bsR)),.agg [.d (.int 4),.d (.int tn),.d (.str ta),.d (.str .empty),.lit (.slice none 0 0),.d (.sl (vs.map Tm.row)),.lit (.slice none 0 0)]]) har;refine AWp.rg [] [.c [] [.ptr 1000 0,.d (.sl (txs.map Tm.row))] [(1000,.blk 117 [.d (.int c)])] (.tuple [.d (.sl (vs.map Tm.row)),.d (.sl (bs.map bsR))]) [(1000,.blk 117 [.d (.int c2)])]] ?_ (hr:=by conv=>lhs;simp[Tm.row,Tm.Q3,Cs.Q3,q1]);refine AWp.rg [] [.p (fun _=>.agg [.d (.int zk),.d (.int zn),.d (.str za),.d (.str zb),.d (Q8 zvs),.d (.sl (zxs.map Tm.row)),.d (.sl (zcs.map Cs.row))]) none] ?_ (hr:=by conv=>lhs;simp[Tm.row,Tm.Q3,Cs.Q3,q1]);refine AWp.ret ?_;try dsimp only[Qq,Q6]
  apply Qk.ret
  ·rfl
  ·conv=>lhs;simp[Q9,Tryz.results60]
  ·first|rfl|simp[Z6,X9,Tm.row,Tm.Q3,Cs.Q3,AV.Xk,K4,Q8]
  ·simp[Qx,Q4]
 refine AWp.rg [] [] ?_ (hr:=by conv=>lhs;simp[Tm.row,Tm.Q3,Cs.Q3,q1,q2]);refine AWp.cn ?_;by_cases q3:tk=5
 ·refine AWp.rg [] [] ?_ (hr:=by conv=>lhs;simp[Tm.row,Tm.Q3,Cs.Q3,q1,q2,q3]);refine AWp.cy ?_;subst q3;rw[Tm.pl,if_pos (by omega)]at hR;have hat:=cs_atoms N ih txs c (by omega) (fun x hx=>⟨hxR x hx,hxO x hx⟩);have hbl:=I7 txs c;generalize Tm.ats txs c=o at hat hR hbl;obtain⟨vs,bs,c2⟩:=o;dsimp only at hat hR hbl;have har:=sp_around bs 5 tn ta .empty [] vs [] (by omega);generalize around bs (.mk 5 tn ta .empty [] vs [])=z at har hR;subst hR;obtain⟨zk,zn,za,zb,zvs,zxs,zcs⟩:=z;replace har:=Z4.nilArgs (args:=[.d (.sl (bs.map bsR)),.agg [.d (.int 5),.d (.int tn),.d (.str ta),.d (.str .empty),.lit (.slice none 0 0),.d (.sl (vs.map Tm.row)),.lit (.slice none 0 0)]]) har;refine AWp.rg [] [.c [] [.ptr 1000 0,.d (.sl (txs.map Tm.row))] [(1000,.blk 117 [.d (.int c)])] (.tuple [.d (.sl (vs.map Tm.row)),.d (.sl (bs.map bsR))]) [(1000,.blk 117 [.d (.int c2)])]] ?_ (hr:=by conv=>lhs;simp[Tm.row,Tm.Q3,Cs.Q3,q1,q2]);refine AWp.rg [] [.p (fun _=>.agg [.d (.int zk),.d (.int zn),.d (.str za),.d (.str zb),.d (Q8 zvs),.d (.sl (zxs.map Tm.row)),.d (.sl (zcs.map Cs.row))]) none] ?_ (hr:=by conv=>lhs;simp[Tm.row,Tm.Q3,Cs.Q3,q1,q2]);refine AWp.ret ?_;try dsimp only[Qq,Q6]
  apply Qk.ret
  ·rfl
  ·conv=>lhs;simp[Q9,Tryz.results60]
  ·first|rfl|simp[Z6,X9,Tm.row,Tm.Q3,Cs.Q3,AV.Xk,K4,Q8]
  ·simp[Qx,Q4]
 refine AWp.rg [] [] ?_ (hr:=by conv=>lhs;simp[Tm.row,Tm.Q3,Cs.Q3,q1,q2,q3]);refine AWp.cn ?_;by_cases q4:tk=6
 ·refine AWp.rg [] [] ?_ (hr:=by conv=>lhs;simp[Tm.row,Tm.Q3,Cs.Q3,q1,q2,q3,q4]);refine AWp.cy ?_;subst q4;have hx2:txs.length=2∧tcs=[]:=by
   unfold X6 at hmany;simp at hmany;exact hmany
  obtain⟨hx2,rfl⟩:=hx2;obtain⟨x,y,rfl⟩:∃x y,txs=[x,y]:=by
   rcases txs with _|⟨x,_|⟨y,_|⟨z,l⟩⟩⟩
   ·cases hx2
   ·cases hx2
   ·exact⟨x,y,rfl⟩
   ·simp at hx2
  have hxx:=ih x c (hxR x (by simp)) (hxO x (by simp));rw[Tm.pl,if_neg (by omega),if_pos rfl,Tm.plL,Tm.plL,Tm.plL]at hR;dsimp only at hR;generalize x.pl c=o at hxx hR;obtain⟨z,c1⟩:=o;dsimp only at hxx hR;have hyy:=ih y c1 (hxR y (by simp)) (hxO y (by simp));generalize y.pl c1=o at hyy hR;obtain⟨u,c2⟩:=o;dsimp only at hyy hR;subst hR;obtain⟨xk,xn,xa,xb,xvs,xxs,xcs⟩:=x;obtain⟨yk,yn,ya,yb,yvs,yxs,ycs⟩:=y;obtain⟨zk,zn,za,zb,zvs,zxs,zcs⟩:=z;obtain⟨uk,un,ua,ub,uvs,uxs,ucs⟩:=u;refine AWp.rg [] [.c [] [.ptr 1000 0,.agg [.d (.int xk),.d (.int xn),.d (.str xa),.d (.str xb),.d (Q8 xvs),.d (.sl (xxs.map Tm.row)),.d (.sl (xcs.map Cs.row))]] [(1000,.blk 117 [.d (.int c)])] (.agg [.d (.int zk),.d (.int zn),.d (.str za),.d (.str zb),.d (Q8 zvs),.d (.sl (zxs.map Tm.row)),.d (.sl (zcs.map Cs.row))]) [(1000,.blk 117 [.d (.int c1)])]] ?_ (hr:=by conv=>lhs;simp[Tm.row,Tm.Q3,Cs.Q3,q1,q2,q3]);refine AWp.dw [9] [.c [] [.ptr 1000 0,.agg [.d (.int yk),.d (.int yn),.d (.str ya),.d (.str yb),.d (Q8 yvs),.d (.sl (yxs.map Tm.row)),.d (.sl (ycs.map Cs.row))]] [(1000,.blk 117 [.d (.int c1)])] (.agg [.d (.int uk),.d (.int un),.d (.str ua),.d (.str ub),.d (Q8 uvs),.d (.sl (uxs.map Tm.row)),.d (.sl (ucs.map Cs.row))]) [(1000,.blk 117 [.d (.int c2)])]] mixed ?_ (hr:=by conv=>lhs;simp[Tm.row,Tm.Q3,Cs.Q3,q1,q2,q3]);refine AWp.ret ?_;try dsimp only[Qq,Q6]
  apply Qk.ret
  ·rfl
  ·conv=>lhs;simp[Q9,Tryz.results60]
  ·first|rfl|simp[Z6,X9,Tm.row,Tm.Q3,Cs.Q3,AV.Xk,K4,Q8]
  ·simp[Qx,Q4]
 refine AWp.rg [] [] ?_ (hr:=by conv=>lhs;simp[Tm.row,Tm.Q3,Cs.Q3,q1,q2,q3,q4]);refine AWp.cn ?_;by_cases q5:tk=7
 ·refine AWp.rg [] [] ?_ (hr:=by conv=>lhs;simp[Tm.row,Tm.Q3,Cs.Q3,q1,q2,q3,q4,q5]);refine AWp.cy ?_;subst q5;rw[Tm.pl,if_neg (by omega),if_neg (by omega),if_pos rfl]at hR;have hat:=cs_atoms N ih txs c (by omega) (fun x hx=>⟨hxR x hx,hxO x hx⟩);have hbl:=I7 txs c;generalize Tm.ats txs c=o at hat hR hbl;obtain⟨vs,bs,c2⟩:=o;dsimp only at hat hR hbl;refine AWp.rg [] [.c [] [.ptr 1000 0,.d (.sl (txs.map Tm.row))] [(1000,.blk 117 [.d (.int c)])] (.tuple [.d (.sl (vs.map Tm.row)),.d (.sl (bs.map bsR))]) [(1000,.blk 117 [.d (.int c2)])]] ?_ (hr:=by conv=>lhs;simp[Tm.row,Tm.Q3,Cs.Q3,q1,q2,q3,q4]);refine AWp.rg [] [] ?_ (hr:=by conv=>lhs;simp[Tm.row,Tm.Q3,Cs.Q3,q1,q2,q3,q4]);refine AWp.rg [] [] ?_ (hr:=by conv=>lhs;simp[Tm.row,Tm.Q3,Cs.Q3,q1,q2,q3,q4]);repeat (first|refine AWp.seq ?_|refine AWp.block ?_)
  refine AWp.le (Le.low [400] [] (fr:=[(0,.ptr 1000 0),(4,.ptr 4 0),(9,.d (.sl (bs.map bsR))),(10,.ptr 10 0),(67,.d (.sl (tcs.map Cs.row))),(68,.d (.int (tcs.length:Int))),(69,.d (.int (0:Int)))]) (mem:=[(4,some (.blk 45 [.d (.int 0),.d (.int 0),.d (.str ByteArray.empty),.d (.str ByteArray.empty),.lit (.slice none 0 0),.lit (.slice none 0 0),.lit (.slice none 0 0)])),(10,some (.blk 45 [.d (.int 7),.d (.int 0),.d (.str ByteArray.empty),.d (.str ByteArray.empty),.lit (.slice none 0 0),.d (.sl (vs.map Tm.row)),.arr 400 0 ([]:List Cs).length])),(400,some (.arr 90 9 (([]:List Cs).map Cs.row))),(1000,some (.blk 117 [.d (.int (c2:Int))]))]) rfl (by simp) (by simp)) ?_;refine AWp.loop (σ:=fun u:{u:Nat×List Cs×Int // u.1≤tcs.length∧(Cs.plL tcs c2=(u.2.1++(Cs.plL (tcs.drop u.1) u.2.2).1,(Cs.plL (tcs.drop u.1) u.2.2).2)∧u.2.1.length=u.1)}=>⟨92,[(0,.ptr 1000 0),(4,.ptr 4 0),(9,.d (.sl (bs.map bsR))),(10,.ptr 10 0),(67,.d (.sl (tcs.map Cs.row))),(68,.d (.int (tcs.length:Int))),(69,.d (.int (u.1.1:Int)))],[(4,some (.blk 45 [.d (.int 0),.d (.int 0),.d (.str ByteArray.empty),.d (.str ByteArray.empty),.lit (.slice none 0 0),.lit (.slice none 0 0),.lit (.slice none 0 0)])),(10,some (.blk 45 [.d (.int 7),.d (.int 0),.d (.str ByteArray.empty),.d (.str ByteArray.empty),.lit (.slice none 0 0),.d (.sl (vs.map Tm.row)),.arr 400 0 u.1.2.1.length])),(400,some (.arr 90 9 (u.1.2.1.map Cs.row))),(1000,some (.blk 117 [.d (.int u.1.2.2)]))]⟩)
   (μ:=fun u=>tcs.length-u.1.1) ⟨(0,[],c2),⟨Nat.zero_le _,⟨by simp,rfl⟩⟩⟩ (Le.sub (by simp) (by simp)) (fun⟨(i,ds,c3),⟨hi14,hw⟩⟩=>?_)
  dsimp only at hi14 hw⊢;refine AWp.rg [] [] ?_ (hr:=by conv=>lhs;simp[Tm.row,Tm.Q3,Cs.Q3,q1,q2,q3,q4]);repeat (first|refine AWp.seq ?_|refine AWp.block ?_)
  refine AWp.cond rfl (fun hc=>?_) (fun hc=>?_)
  ·have hi1:i<tcs.length:=by have:=of_decide_eq_true hc;omega
   clear hc;have h1d:tcs[i]? =some tcs[i]:=List.getElem?_eq_getElem hi1;have hmd:tcs[i]∈tcs:=List.getElem_mem hi1;have hdd:tcs.drop i=tcs[i]::tcs.drop (i+1):=List.drop_eq_getElem_cons hi1;generalize tcs[i]=d at h1d hmd hdd;obtain⟨hap,hdl⟩:=hw;rw[hdd,Cs.plL]at hap;obtain⟨hyR,hyO⟩:=hcR d hmd;obtain⟨dt,dws,y⟩:=d;try dsimp only at hyR hyO
   rw[Cs.pl]at hap;have hx:=ih y c3 hyR hyO;generalize y.pl c3=o at hx hap;obtain⟨z,c4⟩:=o;dsimp only at hx hap;obtain⟨dk,dn,da,db,dvs,dxs,dcs⟩:=y;obtain⟨zk,zn,za,zb,zvs,zxs,zcs⟩:=z;refine AWp.skip ?_;refine AWp.rg [] [] ?_ (hr:=by conv=>lhs;simp[Tm.row,Tm.Q3,Cs.Q3,h1d,Cs.row,q1,q2,q3,q4]);refine AWp.dw [] [.c [] [.ptr 1000 0,.agg [.d (.int dk),.d (.int dn),.d (.str da),.d (.str db),.d (Q8 dvs),.d (.sl (dxs.map Tm.row)),.d (.sl (dcs.map Cs.row))]] [(1000,.blk 117 [.d (.int c3)])] (.agg [.d (.int zk),.d (.int zn),.d (.str za),.d (.str zb),.d (Q8 zvs),.d (.sl (zxs.map Tm.row)),.d (.sl (zcs.map Cs.row))]) [(1000,.blk 117 [.d (.int c4)])]] mixed ?_ (hr:=by conv=>lhs;simp[Tm.row,Tm.Q3,Cs.Q3,h1d,Cs.row,q1,q2,q3,q4]);refine AWp.rg [] [] ?_ (hr:=by conv=>lhs;simp[Tm.row,Tm.Q3,Cs.Q3,h1d,Cs.row,q1,q2,q3,q4]);refine⟨⟨(i+1,ds++[.mk dt dws (.mk zk zn za zb zvs zxs zcs)],c4),hi1,⟨by rw[hap];simp,by simp[hdl]⟩⟩,by simp;omega,?_⟩;dsimp only;exact Le.sub (by simp[Cs.row,Tm.row,Tm.Q3,Cs.Q3,hdl]) (by simp[Cs.row,Tm.row,Tm.Q3,Cs.Q3,hdl])
  have hi1:i=tcs.length:=by have:=of_decide_eq_false hc;omega
  subst hi1;clear hc;obtain⟨hap,hdl⟩:=hw;rw[List.drop_length,Cs.plL]at hap;simp only[List.append_nil]at hap;rw[hap]at hR;try dsimp only at hR
  have har:=sp_around bs 7 0 .empty .empty [] vs ds (by omega);generalize around bs (.mk 7 0 .empty .empty [] vs ds)=z at har hR;subst hR;obtain⟨zk,zn,za,zb,zvs,zxs,zcs⟩:=z;replace har:=Z4.nilArgs (args:=[.d (.sl (bs.map bsR)),.agg [.d (.int 7),.d (.int 0),.d (.str .empty),.d (.str .empty),.lit (.slice none 0 0),.d (.sl (vs.map Tm.row)),.d (.sl (ds.map Cs.row))]]) har;have htk:List.take tcs.length (List.map Cs.row ds)=List.map Cs.row ds:=List.take_of_length_le (by simp;omega);refine AWp.exit ?_;apply AWp.Uk [400]
  ·conv=>lhs;simp
  refine AWp.rg [] [.p (fun _=>.agg [.d (.int zk),.d (.int zn),.d (.str za),.d (.str zb),.d (Q8 zvs),.d (.sl (zxs.map Tm.row)),.d (.sl (zcs.map Cs.row))]) none] ?_ (hr:=by conv=>lhs;simp[Tm.row,Tm.Q3,Cs.Q3,htk,q1,q2,q3,q4]);refine AWp.ret ?_;try dsimp only[Qq,Q6]
  apply Qk.ret
  ·rfl
  ·conv=>lhs;simp[Q9,Tryz.results60]
  ·first|rfl|simp[Z6,X9,Tm.row,Tm.Q3,Cs.Q3,AV.Xk,K4,Q8]
  ·simp[Qx,Q4]
 refine AWp.rg [] [] ?_ (hr:=by conv=>lhs;simp[Tm.row,Tm.Q3,Cs.Q3,q1,q2,q3,q4,q5]);refine AWp.cn ?_;refine AWp.skip ?_;obtain rfl:R=(.mk tk tn ta tb tvs txs tcs,c):=by rw[hR,Tm.pl,if_neg (by omega),if_neg (by omega),if_neg (by omega)]
 refine AWp.rg [] [] ?_ (hr:=by conv=>lhs;simp[Tm.row,Tm.Q3,Cs.Q3,q1,q2,q3,q4,q5]);refine AWp.ret ?_;try dsimp only[Qq,Q6]
 apply Qk.ret
 ·rfl
 ·conv=>lhs;simp[Q9,Tryz.results60]
 ·first|rfl|simp[Z6,X9,Tm.row,Tm.Q3,Cs.Q3,AV.Xk,K4,Q8]
 ·simp[Qx,Q4]
theorem wt_all:∀N,WtN N
 |0=>fun _ _ h=>h.elim
 |N+1=>wt_step N (wt_all N)
theorem Fn.O6 (f:Fn) (hr:f.body.Rt 25):f.rn.body.Rt 25:=Go.Proofs.YtjpldhjgehoffaaGreatDoor.O6 25 f.body _ _ hr
theorem sp_Plain (f:Fn) (hb:f.body.Ok) (hr:f.body.Rt 25) (hp:f.params.length≤6):Z4 Tryz.prog 31 [Iw f] (fun _=>Iw f.pl) none:=by
 have hn:=sp_Named f hb hr hp;have hx:=wt_all 25 f.rn.body 0 (f.O6 hr) (f.rn_ok hb hr);unfold Fn.pl;generalize f.rn=g at hn hx⊢;obtain⟨gg,gps,gy⟩:=g;dsimp only at hx⊢;generalize gy.pl 0=o at hx⊢;obtain⟨z,c2⟩:=o;dsimp only at hx⊢;obtain⟨fg,fps,⟨fk,fn,fa,fb,fvs,fxs,fcs⟩⟩:=f;obtain⟨gk,gn,ga,gb,gvs,gxs,gcs⟩:=gy;obtain⟨zk,zn,za,zb,zvs,zxs,zcs⟩:=z;dsimp only[Iw]at hn;refine Z4.of Tryz.func31 rfl rfl rfl (Nat.le_of_ble_eq_true rfl) ?_;show AWp _ _ (Z8 _ Tryz.f31 _ _ _) (Z7 13 _);refine AWp.rg [] [] ?_ (hr:=by conv=>lhs;simp[Iw,Fn.row,Tm.row,Tm.Q3,Cs.Q3]);refine AWp.rg [] [.p (fun _=>.agg [.d (.str gg),.d (Q8 gps),.d (.int gk),.d (.int gn),.d (.str ga),.d (.str gb),.d (Q8 gvs),.d (.sl (gxs.map Tm.row)),.d (.sl (gcs.map Cs.row))]) none] ?_ (hr:=by conv=>lhs;simp[Iw,Fn.row,Tm.row,Tm.Q3,Cs.Q3]);refine AWp.rg [] [.c [(1000,7)] [.ptr 1000 0,.agg [.d (.int gk),.d (.int gn),.d (.str ga),.d (.str gb),.d (Q8 gvs),.d (.sl (gxs.map Tm.row)),.d (.sl (gcs.map Cs.row))]] [(1000,.blk 117 [.d (.int 0)])] (.agg [.d (.int zk),.d (.int zn),.d (.str za),.d (.str zb),.d (Q8 zvs),.d (.sl (zxs.map Tm.row)),.d (.sl (zcs.map Cs.row))]) [(1000,.blk 117 [.d (.int c2)])]] ?_ (hr:=by conv=>lhs;simp[Iw,Fn.row,Tm.row,Tm.Q3,Cs.Q3]);refine AWp.rg [] [] ?_ (hr:=by conv=>lhs;simp[Iw,Fn.row,Tm.row,Tm.Q3,Cs.Q3]);refine AWp.ret ?_;try dsimp only[Qq,Q6]
 apply Z8.ret
 ·rfl
 ·conv=>lhs;simp[Q9,Tryz.results31]
 rfl
theorem sp_EachPlain (l:List Fn) (hl:l.length≤879609302220) (hall:∀f∈l,f.body.Ok∧f.body.Rt 25∧f.params.length≤6):Z4 Tryz.prog 30 [L6 l,.d (.fn 31)] (fun _=>L6 (l.map Fn.pl)) none:=by
 obtain⟨G,hG⟩:∃G,G=l.map Fn.pl:=⟨_,rfl⟩
 rw[←hG];refine Z4.of Tryz.func30 rfl rfl rfl (Nat.le_of_ble_eq_true rfl) ?_;show AWp _ _ (Z8 _ Tryz.f30 _ _ _) (Z7 22 _);refine AWp.rg [] [] ?_ (hr:=by conv=>lhs;simp[Fn.row,Tm.row,Tm.Q3,Cs.Q3]);refine AWp.rg [] [] ?_ (hr:=by conv=>lhs;simp[Fn.row,Tm.row,Tm.Q3,Cs.Q3]);refine AWp.rg [] [] ?_ (hr:=by conv=>lhs;simp[Fn.row,Tm.row,Tm.Q3,Cs.Q3]);repeat (first|refine AWp.seq ?_|refine AWp.block ?_)
 refine AWp.le (Le.low [400] [] (fr:=[(1,.d (.fn 31)),(5,.arr 400 0 ([]:List Fn).length),(8,.d (.sl (l.map Fn.row))),(9,.d (.int (l.length:Int))),(10,.d (.int (0:Int)))]) (mem:=[(400,some (.arr 47 9 (([]:List Fn).map Fn.row)))]) rfl (by simp) (by simp)) ?_;refine AWp.loop (σ:=fun u:{u:Nat×List Fn // u.1≤l.length∧u.2=(l.take u.1).map Fn.pl}=>⟨22,[(1,.d (.fn 31)),(5,.arr 400 0 u.1.2.length),(8,.d (.sl (l.map Fn.row))),(9,.d (.int (l.length:Int))),(10,.d (.int (u.1.1:Int)))],[(400,some (.arr 47 9 (u.1.2.map Fn.row)))]⟩)
  (μ:=fun u=>l.length-u.1.1) ⟨(0,[]),⟨Nat.zero_le _,by simp⟩⟩ (Le.sub (by simp) (by simp)) (fun⟨(i,gs),⟨hi3,hw⟩⟩=>?_)
 dsimp only at hi3 hw⊢;refine AWp.rg [] [] ?_ (hr:=by conv=>lhs;simp[Fn.row,Tm.row,Tm.Q3,Cs.Q3]);repeat (first|refine AWp.seq ?_|refine AWp.block ?_)
 refine AWp.cond rfl (fun hc=>?_) (fun hc=>?_)
 ·have hi1:i<l.length:=by have:=of_decide_eq_true hc;omega
  clear hc;have h1f:l[i]? =some l[i]:=List.getElem?_eq_getElem hi1;have hmf:l[i]∈l:=List.getElem_mem hi1;have hdf:l.drop i=l[i]::l.drop (i+1):=List.drop_eq_getElem_cons hi1;generalize l[i]=f at h1f hmf hdf;have hgl:gs.length=i:=by rw[hw,List.length_map,List.length_take];omega
  obtain⟨k1,k2,k3⟩:=hall f hmf;have hx:=sp_Plain f k1 k2 k3;generalize hz:f.pl=z at hx;obtain⟨fg,fps,⟨fk,fn,fa,fb,fvs,fxs,fcs⟩⟩:=f;obtain⟨zg,zps,⟨zk,zn,za,zb,zvs,zxs,zcs⟩⟩:=z;dsimp only[Iw]at hx;refine AWp.skip ?_;refine AWp.rg [] [] ?_ (hr:=by conv=>lhs;simp[Fn.row,Tm.row,Tm.Q3,Cs.Q3,h1f]);refine AWp.rg [] [.p (fun _=>.agg [.d (.str zg),.d (Q8 zps),.d (.int zk),.d (.int zn),.d (.str za),.d (.str zb),.d (Q8 zvs),.d (.sl (zxs.map Tm.row)),.d (.sl (zcs.map Cs.row))]) none] ?_ (hr:=by conv=>lhs;simp[Fn.row,Tm.row,Tm.Q3,Cs.Q3,h1f]);refine AWp.rg [] [] ?_ (hr:=by conv=>lhs;simp[Fn.row,Tm.row,Tm.Q3,Cs.Q3,h1f]);refine⟨⟨(i+1,gs++[⟨zg,zps,.mk zk zn za zb zvs zxs zcs⟩]),hi1,by rw[hw,List.take_add_one,h1f,List.map_append,←hz];rfl⟩,by simp;omega,?_⟩;dsimp only;exact Le.sub (by simp[Fn.row,Tm.row,Tm.Q3,Cs.Q3,hgl]) (by simp[Fn.row,Tm.row,Tm.Q3,Cs.Q3,hgl])
 have hi1:i=l.length:=by have:=of_decide_eq_false hc;omega
 subst hi1;clear hc;rw[List.take_length]at hw;obtain rfl:gs=G:=by rw[hw,hG]
 refine AWp.exit ?_;refine AWp.rg [] [] ?_ (hr:=by conv=>lhs;simp[Fn.row,Tm.row,Tm.Q3,Cs.Q3]);refine AWp.ret ?_;try dsimp only[Qq,Q6]
 apply Z8.retF [400]
 ·rfl
 ·conv=>lhs;simp
 ·conv=>lhs;simp[Q9,Tryz.results30]
 rfl
def ShN (N:Nat):Prop:=∀t:Tm,t.sz≤N→t.In→t.wt≤4611686018427387904→Z4 Tryz.prog 38 [X9 t] (fun _=>.d (.str t.sh)) none
theorem sh_step (N:Nat) (ih:ShN N):ShN (N+1):=by
 intro t hsz hI hW;obtain⟨R,hR⟩:∃R,R=t.sh:=⟨_,rfl⟩
 rw[←hR];obtain⟨tk,tn,ta,tb,tvs,txs,tcs⟩:=t;obtain⟨hn,hxI,hcI⟩:=hI;rw[Tm.InL_iff]at hxI;rw[Cs.InL_iff]at hcI;rw[Tm.sz]at hsz;rw[Tm.wt]at hW;have hA:=Tm.Qz3 txs ⟨#[]⟩ (Tm.InL_iff.2 hxI);have hV:=Qk4 tvs 0 ⟨#[]⟩;have e0:(⟨#[]⟩:ByteArray).size=0:=rfl;rw[e0,Nat.zero_add]at hA hV;have hxl:=Tm.Qj1 txs;have hcl:=Cs.Qj1 tcs;have hvl:=strW_len tvs;have hit0:=sp_Itoa tn hn;have hT:=Rx hn;obtain⟨T,hT0⟩:∃T,T=Gj tn:=⟨_,rfl⟩
 rw[←hT0]at hit0 hT;rw[Tm.sh]at hR;have hx7:(7:Int)=7:=rfl;refine Z4.of Tryz.func38 rfl rfl rfl (Nat.le_of_ble_eq_true rfl) ?_;show AWp _ _ (Z8 _ Tryz.f38 _ _ _) (Z7 209 _);refine AWp.rg [] [] ?_ (hr:=by conv=>lhs;simp[Tm.row,Tm.Q3,Cs.Q3]);refine AWp.rg [] [] ?_ (hr:=by conv=>lhs;simp[Tm.row,Tm.Q3,Cs.Q3]);refine AWp.rg [] [] ?_ (hr:=by conv=>lhs;simp[Tm.row,Tm.Q3,Cs.Q3]);repeat (first|refine AWp.seq ?_|refine AWp.block ?_)
 refine AWp.loop (σ:=fun u:{u:Nat×ByteArray // u.1≤txs.length∧(Tm.shL txs ⟨#[]⟩=Tm.shL (txs.drop u.1) u.2∧u.2.size+Tm.wtL (txs.drop u.1)≤Tm.wtL txs)}=>⟨209,[(1,.ptr 1 0),(3,.d (.str u.1.2)),(16,.d (.sl (txs.map Tm.row))),(17,.d (.int (txs.length:Int))),(18,.d (.int (u.1.1:Int)))],[(1,some (.blk 45 [.d (.int tk),.d (.int tn),.d (.str ta),.d (.str tb),.d (Q8 tvs),.d (.sl (txs.map Tm.row)),.d (.sl (tcs.map Cs.row))]))]⟩)
  (μ:=fun u=>txs.length-u.1.1) ⟨(0,⟨#[]⟩),⟨Nat.zero_le _,⟨by rw[List.drop_zero],by rw[List.drop_zero];exact Nat.le_of_eq (Nat.zero_add _)⟩⟩⟩ (Le.sub (by simp) (by simp)) (fun⟨(i,o),⟨hi3,hw⟩⟩=>?_)
 dsimp only at hi3 hw⊢;refine AWp.rg [] [] ?_ (hr:=by conv=>lhs;simp[Tm.row,Tm.Q3,Cs.Q3]);repeat (first|refine AWp.seq ?_|refine AWp.block ?_)
 refine AWp.cond rfl (fun hc=>?_) (fun hc=>?_)
 ·have hi1:i<txs.length:=by have:=of_decide_eq_true hc;omega
  clear hc;have h1y:txs[i]? =some txs[i]:=List.getElem?_eq_getElem hi1;have hmy:txs[i]∈txs:=List.getElem_mem hi1;have hdy:txs.drop i=txs[i]::txs.drop (i+1):=List.drop_eq_getElem_cons hi1;generalize txs[i]=y at h1y hmy hdy;obtain⟨ho1,ho2⟩:=hw;have hyw:=Tm.Qj0 hmy;rw[hdy,Tm.shL]at ho1;rw[hdy,Tm.wtL]at ho2;have hx:=ih y (by have:=Tm.X0 hmy;omega) (hxI y hmy) (by omega);have hz:=Tm.sh_size y (hxI y hmy);generalize y.sh=z at hx hz ho1;generalize y.wt=yw at hz ho2 hyw;obtain⟨yk,yn,ya,yb,yvs,yxs,ycs⟩:=y;refine AWp.skip ?_;refine AWp.rg [] [] ?_ (hr:=by conv=>lhs;simp[Tm.row,Tm.Q3,Cs.Q3,h1y]);refine AWp.rg [] [.p (fun _=>.d (.str z)) none] ?_ (hr:=by conv=>lhs;simp[Tm.row,Tm.Q3,Cs.Q3,h1y]);refine AWp.rg [] [] ?_ (hr:=by conv=>lhs;simp[Tm.row,Tm.Q3,Cs.Q3,h1y]);refine⟨⟨(i+1,(o++⟨#[32]⟩)++z),hi1,⟨ho1,by dsimp only;try simp only[ByteArray.size_append,zl0,zl1,zl2,zl3,zl4,zl5,zl6,zl7,zl8,zl9,Qq9,Qq8,Qq7,Qq6,Qq5,Qq4,Qq3,Qq2,Qq1];omega⟩⟩,by simp;omega,?_⟩;dsimp only;exact Le.sub (by simp) (by simp)
 have hi1:i=txs.length:=by have:=of_decide_eq_false hc;omega
 subst hi1;clear hc;obtain⟨ho1,ho2⟩:=hw;rw[List.drop_length,Tm.shL]at ho1;rw[ho1]at hR hA;clear ho1 ho2;obtain⟨A,hAA⟩:∃A,A=o:=⟨_,rfl⟩
 rw[←hAA]at hR hA;refine AWp.exit ?_;rw[←hAA];clear hAA;refine AWp.rg [] [] ?_ (hr:=by conv=>lhs;simp[Tm.row,Tm.Q3,Cs.Q3]);refine AWp.rg [] [] ?_ (hr:=by conv=>lhs;simp[Tm.row,Tm.Q3,Cs.Q3]);repeat (first|refine AWp.seq ?_|refine AWp.block ?_)
 refine AWp.loop (σ:=fun u:{u:Nat×ByteArray // u.1≤tvs.length∧(Ej 0 tvs ⟨#[]⟩=Ej u.1 (tvs.drop u.1) u.2∧u.2.size+strW (tvs.drop u.1)≤(⟨#[]⟩:ByteArray).size+strW tvs)}=>⟨209,[(1,.ptr 1 0),(3,.d (.str A)),(6,.d (.str u.1.2)),(29,.d (Q8 tvs)),(30,.d (.int (tvs.length:Int))),(31,.d (.int (u.1.1:Int)))],[(1,some (.blk 45 [.d (.int tk),.d (.int tn),.d (.str ta),.d (.str tb),.d (Q8 tvs),.d (.sl (txs.map Tm.row)),.d (.sl (tcs.map Cs.row))]))]⟩)
  (μ:=fun u=>tvs.length-u.1.1) ⟨(0,⟨#[]⟩),⟨Nat.zero_le _,⟨by rw[List.drop_zero],by rw[List.drop_zero];exact Nat.le_refl _⟩⟩⟩ (Le.sub (by simp) (by simp)) (fun⟨(i,v),⟨hi9,hw⟩⟩=>?_)
 dsimp only at hi9 hw⊢;refine AWp.rg [] [] ?_ (hr:=by conv=>lhs;simp[Tm.row,Tm.Q3,Cs.Q3]);repeat (first|refine AWp.seq ?_|refine AWp.block ?_)
 refine AWp.cond rfl (fun hc=>?_) (fun hc=>?_)
 ·have hi1:i<tvs.length:=by have:=of_decide_eq_true hc;omega
  clear hc;have h1s:tvs[i]? =some tvs[i]:=List.getElem?_eq_getElem hi1;have hms:tvs[i]∈tvs:=List.getElem_mem hi1;have hds:tvs.drop i=tvs[i]::tvs.drop (i+1):=List.drop_eq_getElem_cons hi1;generalize tvs[i]=s at h1s hms hds;obtain⟨hj1,hj2⟩:=hw;rw[hds,Ej]at hj1;rw[hds,strW]at hj2;refine AWp.skip ?_;refine AWp.rg [] [] ?_ (hr:=by conv=>lhs;simp[Tm.row,Tm.Q3,Cs.Q3,h1s]);by_cases hp:0<i
  ·refine AWp.rg [] [] ?_ (hr:=by conv=>lhs;simp[Tm.row,Tm.Q3,Cs.Q3,h1s,hp]);refine AWp.cy ?_;refine AWp.rg [] [] ?_ (hr:=by conv=>lhs;simp[Tm.row,Tm.Q3,Cs.Q3,h1s,hp]);refine AWp.rg [] [] ?_ (hr:=by conv=>lhs;simp[Tm.row,Tm.Q3,Cs.Q3,h1s,hp]);refine AWp.rg [] [] ?_ (hr:=by conv=>lhs;simp[Tm.row,Tm.Q3,Cs.Q3,h1s,hp]);refine⟨⟨(i+1,(v++⟨#[32]⟩)++s),hi1,⟨by rw[hj1,if_pos (by omega)],by dsimp only;try simp only[ByteArray.size_append,zl0,zl1,zl2,zl3,zl4,zl5,zl6,zl7,zl8,zl9,Qq9,Qq8,Qq7,Qq6,Qq5,Qq4,Qq3,Qq2,Qq1];omega⟩⟩,by simp;omega,?_⟩;dsimp only;exact Le.sub (by simp) (by simp)
  refine AWp.rg [] [] ?_ (hr:=by conv=>lhs;simp[Tm.row,Tm.Q3,Cs.Q3,h1s,hp]);refine AWp.cn ?_;refine AWp.skip ?_;refine AWp.rg [] [] ?_ (hr:=by conv=>lhs;simp[Tm.row,Tm.Q3,Cs.Q3,h1s,hp]);refine AWp.rg [] [] ?_ (hr:=by conv=>lhs;simp[Tm.row,Tm.Q3,Cs.Q3,h1s,hp]);refine⟨⟨(i+1,v++s),hi1,⟨by rw[hj1,if_neg (by omega)],by dsimp only;try simp only[ByteArray.size_append,zl0,zl1,zl2,zl3,zl4,zl5,zl6,zl7,zl8,zl9,Qq9,Qq8,Qq7,Qq6,Qq5,Qq4,Qq3,Qq2,Qq1];omega⟩⟩,by simp;omega,?_⟩;dsimp only;exact Le.sub (by simp) (by simp)
 have hi1:i=tvs.length:=by have:=of_decide_eq_false hc;omega
 subst hi1;clear hc;obtain⟨hj1,hj2⟩:=hw;rw[List.drop_length,Ej]at hj1;rw[hj1]at hR hV;clear hj1 hj2;refine AWp.exit ?_;refine AWp.rg [] [.p (fun _=>.d (.str T)) none] ?_ (hr:=by conv=>lhs;simp[Tm.row,Tm.Q3,Cs.Q3]);refine AWp.rg [] [] ?_ (hr:=by conv=>lhs;simp[Tm.row,Tm.Q3,Cs.Q3]);by_cases q1:tk=1
 ·have q1t:=eq_true q1;refine AWp.rg [] [] ?_ (hr:=by conv=>lhs;simp[Tm.row,Tm.Q3,Cs.Q3,q1t]);refine AWp.cy ?_;rw[shK,if_pos (by omega)]at hR;rw[hR];refine AWp.rg [] [] ?_ (hr:=by conv=>lhs;simp[Tm.row,Tm.Q3,Cs.Q3,q1t]);refine AWp.ret ?_;try dsimp only[Qq,Q6]
  apply Z8.ret
  ·rfl
  ·conv=>lhs;simp[Q9,Tryz.results38]
  first|rfl|simp[Z6]
 refine AWp.rg [] [] ?_ (hr:=by conv=>lhs;simp[Tm.row,Tm.Q3,Cs.Q3,q1]);refine AWp.cn ?_;by_cases q2:tk=2
 ·have q2t:=eq_true q2;refine AWp.rg [] [] ?_ (hr:=by conv=>lhs;simp[Tm.row,Tm.Q3,Cs.Q3,q1,q2t]);refine AWp.cy ?_;rw[shK,if_neg (by omega),if_pos (by omega)]at hR;rw[←hT0]at hR;rw[hR];refine AWp.rg [] [.p (fun _=>.d (.str T)) none] ?_ (hr:=by conv=>lhs;simp[Tm.row,Tm.Q3,Cs.Q3,q1,q2t]);refine AWp.ret ?_;try dsimp only[Qq,Q6]
  apply Z8.ret
  ·rfl
  ·conv=>lhs;simp[Q9,Tryz.results38]
  first|rfl|simp[Z6]
 refine AWp.rg [] [] ?_ (hr:=by conv=>lhs;simp[Tm.row,Tm.Q3,Cs.Q3,q1,q2]);refine AWp.cn ?_;by_cases q3:tk=3
 ·have q3t:=eq_true q3;refine AWp.rg [] [] ?_ (hr:=by conv=>lhs;simp[Tm.row,Tm.Q3,Cs.Q3,q1,q2,q3t]);refine AWp.cy ?_;rw[shK,if_neg (by omega),if_neg (by omega),if_pos (by omega)]at hR;rw[←hT0]at hR;rw[hR];refine AWp.rg [] [] ?_ (hr:=by conv=>lhs;simp[Tm.row,Tm.Q3,Cs.Q3,q1,q2,q3t]);refine AWp.ret ?_;try dsimp only[Qq,Q6]
  apply Z8.ret
  ·rfl
  ·conv=>lhs;simp[Q9,Tryz.results38]
  first|rfl|simp[Z6]
 refine AWp.rg [] [] ?_ (hr:=by conv=>lhs;simp[Tm.row,Tm.Q3,Cs.Q3,q1,q2,q3]);refine AWp.cn ?_;by_cases q4:tk=4
 ·have q4t:=eq_true q4;refine AWp.rg [] [] ?_ (hr:=by conv=>lhs;simp[Tm.row,Tm.Q3,Cs.Q3,q1,q2,q3,q4t]);refine AWp.cy ?_;rw[shK,if_neg (by omega),if_neg (by omega),if_neg (by omega),if_pos (by omega)]at hR;rw[hR];refine AWp.rg [] [] ?_ (hr:=by conv=>lhs;simp[Tm.row,Tm.Q3,Cs.Q3,q1,q2,q3,q4t]);refine AWp.ret ?_;try dsimp only[Qq,Q6]
  apply Z8.ret
  ·rfl
  ·conv=>lhs;simp[Q9,Tryz.results38]
  first|rfl|simp[Z6]
 refine AWp.rg [] [] ?_ (hr:=by conv=>lhs;simp[Tm.row,Tm.Q3,Cs.Q3,q1,q2,q3,q4]);refine AWp.cn ?_;by_cases q5:tk=5
 ·have q5t:=eq_true q5;refine AWp.rg [] [] ?_ (hr:=by conv=>lhs;simp[Tm.row,Tm.Q3,Cs.Q3,q1,q2,q3,q4,q5t]);refine AWp.cy ?_;by_cases q6:0<tn
  ·by_cases q7:tn<6
   ·refine AWp.rg [] [] ?_ (hr:=by conv=>lhs;simp[Tm.row,Tm.Q3,Cs.Q3,q1,q2,q3,q4,q5t,q6,q7]);refine AWp.cy ?_;rw[shK,if_neg (by omega),if_neg (by omega),if_neg (by omega),if_neg (by omega),if_pos (by omega),if_pos (by omega)]at hR;rw[hR];refine AWp.rg [] [] ?_ (hr:=by conv=>lhs;simp[Tm.row,Tm.Q3,Cs.Q3,q1,q2,q3,q4,q5t,q6,q7]);refine AWp.ret ?_;try dsimp only[Qq,Q6]
    apply Z8.ret
    ·rfl
    ·conv=>lhs;simp[Q9,Tryz.results38]
    first|rfl|simp[Z6]
   refine AWp.rg [] [] ?_ (hr:=by conv=>lhs;simp[Tm.row,Tm.Q3,Cs.Q3,q1,q2,q3,q4,q5t,q6,q7]);refine AWp.cn ?_;refine AWp.skip ?_;rw[shK,if_neg (by omega),if_neg (by omega),if_neg (by omega),if_neg (by omega),if_pos (by omega),if_neg (by omega)]at hR;rw[hR];refine AWp.rg [] [] ?_ (hr:=by conv=>lhs;simp[Tm.row,Tm.Q3,Cs.Q3,q1,q2,q3,q4,q5t,q6,q7]);refine AWp.ret ?_;try dsimp only[Qq,Q6]
   apply Z8.ret
   ·rfl
   ·conv=>lhs;simp[Q9,Tryz.results38]
   first|rfl|simp[Z6]
  refine AWp.rg [] [] ?_ (hr:=by conv=>lhs;simp[Tm.row,Tm.Q3,Cs.Q3,q1,q2,q3,q4,q5t,q6]);refine AWp.cn ?_;refine AWp.skip ?_;rw[shK,if_neg (by omega),if_neg (by omega),if_neg (by omega),if_neg (by omega),if_pos (by omega),if_neg (by omega)]at hR;rw[hR];refine AWp.rg [] [] ?_ (hr:=by conv=>lhs;simp[Tm.row,Tm.Q3,Cs.Q3,q1,q2,q3,q4,q5t,q6]);refine AWp.ret ?_;try dsimp only[Qq,Q6]
  apply Z8.ret
  ·rfl
  ·conv=>lhs;simp[Q9,Tryz.results38]
  first|rfl|simp[Z6]
 refine AWp.rg [] [] ?_ (hr:=by conv=>lhs;simp[Tm.row,Tm.Q3,Cs.Q3,q1,q2,q3,q4,q5]);refine AWp.cn ?_;by_cases q8:tk=6
 ·have q8t:=eq_true q8;refine AWp.rg [] [] ?_ (hr:=by conv=>lhs;simp[Tm.row,Tm.Q3,Cs.Q3,q1,q2,q3,q4,q5,q8t]);refine AWp.cy ?_;rw[shK,if_neg (by omega),if_neg (by omega),if_neg (by omega),if_neg (by omega),if_neg (by omega),if_pos (by omega)]at hR;rw[hR];refine AWp.rg [] [] ?_ (hr:=by conv=>lhs;simp[Tm.row,Tm.Q3,Cs.Q3,q1,q2,q3,q4,q5,q8t]);refine AWp.ret ?_;try dsimp only[Qq,Q6]
  apply Z8.ret
  ·rfl
  ·conv=>lhs;simp[Q9,Tryz.results38]
  first|rfl|simp[Z6]
 refine AWp.rg [] [] ?_ (hr:=by conv=>lhs;simp[Tm.row,Tm.Q3,Cs.Q3,q1,q2,q3,q4,q5,q8]);refine AWp.cn ?_;by_cases q9:tk=7
 ·have q9t:=eq_true q9;refine AWp.rg [] [] ?_ (hr:=by conv=>lhs;simp[Tm.row,Tm.Q3,Cs.Q3,q1,q2,q3,q4,q5,q8,q9t]);refine AWp.cy ?_;rw[shK,if_neg (by omega),if_neg (by omega),if_neg (by omega),if_neg (by omega),if_neg (by omega),if_neg (by omega),if_pos (by omega)]at hR;obtain⟨M0,hM0⟩:∃M,M=⟨#[40,109,97,116,99,104]⟩++A:=⟨_,rfl⟩
  have hM0s:M0.size=6+A.size:=by rw[hM0,ByteArray.size_append];rfl
  rw[←hM0]at hR;refine AWp.rg [] [] ?_ (hr:=by conv=>lhs;simp[Tm.row,Tm.Q3,Cs.Q3,q1,q2,q3,q4,q5,q8,q9t]);rw[←hM0];clear hM0;refine AWp.rg [] [] ?_ (hr:=by conv=>lhs;simp[Tm.row,Tm.Q3,Cs.Q3,q1,q2,q3,q4,q5,q8,q9t]);repeat (first|refine AWp.seq ?_|refine AWp.block ?_)
  refine AWp.loop (σ:=fun u:{u:Nat×ByteArray // u.1≤tcs.length∧(Cs.shL tcs M0=Cs.shL (tcs.drop u.1) u.2∧u.2.size+Cs.wtL (tcs.drop u.1)≤M0.size+Cs.wtL tcs)}=>⟨209,[(10,.d (.str u.1.2)),(107,.d (.sl (tcs.map Cs.row))),(108,.d (.int (tcs.length:Int))),(109,.d (.int (u.1.1:Int)))],[]⟩)
   (μ:=fun u=>tcs.length-u.1.1) ⟨(0,M0),⟨Nat.zero_le _,⟨by rw[List.drop_zero],by rw[List.drop_zero];exact Nat.le_refl _⟩⟩⟩ (Le.sub (by simp) (by simp)) (fun⟨(i,m),⟨hi34,hw⟩⟩=>?_)
  dsimp only at hi34 hw⊢;refine AWp.rg [] [] ?_ (hr:=by conv=>lhs;simp[Tm.row,Tm.Q3,Cs.Q3,q1,q2,q3,q4,q5,q8,q9t]);repeat (first|refine AWp.seq ?_|refine AWp.block ?_)
  refine AWp.cond rfl (fun hc=>?_) (fun hc=>?_)
  ·have hi1:i<tcs.length:=by have:=of_decide_eq_true hc;omega
   clear hc;have h1y:tcs[i]? =some tcs[i]:=List.getElem?_eq_getElem hi1;have hmy:tcs[i]∈tcs:=List.getElem_mem hi1;have hdy:tcs.drop i=tcs[i]::tcs.drop (i+1):=List.drop_eq_getElem_cons hi1;generalize tcs[i]=y at h1y hmy hdy;obtain⟨hm1,hm2⟩:=hw;have hyw:=Cs.Qj0 hmy;rw[hdy,Cs.shL]at hm1;rw[hdy,Cs.wtL]at hm2;have hyI:=hcI y hmy;have hysz:=Cs.X0 hmy;obtain⟨dt,dws,y⟩:=y;rw[Cs.wt]at hm2 hyw;rw[Cs.sz]at hysz;have hit:=sp_Itoa dt hyI.1;have hT2:=Rx hyI.1;have hwl:=strW_len dws;have hx:=ih y (by omega) hyI.2 (by omega);have hz:=Tm.sh_size y hyI.2;rw[Cs.shC]at hm1;generalize Gj dt=T2 at hit hT2 hm1;generalize y.sh=z at hx hz hm1;generalize y.wt=yw at hz hm2 hyw;obtain⟨yk,yn,ya,yb,yvs,yxs,ycs⟩:=y;obtain⟨m1,hm1d⟩:∃x,x=((m++⟨#[32,40,35]⟩)++T2)++⟨#[32,40]⟩:=⟨_,rfl⟩
   have hm1s:m1.size=m.size+T2.size+5:=by rw[hm1d];try simp only[ByteArray.size_append,zl0,zl1,zl2,zl3,zl4,zl5,zl6,zl7,zl8,zl9,Qq9,Qq8,Qq7,Qq6,Qq5,Qq4,Qq3,Qq2,Qq1];omega
   rw[←hm1d]at hm1;refine AWp.skip ?_;refine AWp.rg [] [] ?_ (hr:=by conv=>lhs;simp[Tm.row,Tm.Q3,Cs.Q3,h1y,Cs.row,q1,q2,q3,q4,q5,q8,q9t]);refine AWp.rg [] [.p (fun _=>.d (.str T2)) none] ?_ (hr:=by conv=>lhs;simp[Tm.row,Tm.Q3,Cs.Q3,h1y,Cs.row,q1,q2,q3,q4,q5,q8,q9t]);rw[←hm1d];refine AWp.rg [] [] ?_ (hr:=by conv=>lhs;simp[Tm.row,Tm.Q3,Cs.Q3,h1y,Cs.row,q1,q2,q3,q4,q5,q8,q9t]);repeat (first|refine AWp.seq ?_|refine AWp.block ?_)
   refine AWp.loop (σ:=fun u:{u:Nat×ByteArray // u.1≤dws.length∧(Ej 0 dws m1=Ej u.1 (dws.drop u.1) u.2∧u.2.size+strW (dws.drop u.1)≤(m1:ByteArray).size+strW dws)}=>⟨209,[(10,.d (.str u.1.2)),(12,.ptr 12 0),(107,.d (.sl (tcs.map Cs.row))),(108,.d (.int (tcs.length:Int))),(109,.d (.int (i:Int))),(121,.d (Q8 dws)),(122,.d (.int (dws.length:Int))),(123,.d (.int (u.1.1:Int)))],[(12,some (.blk 90 [.d (.int dt),.d (Q8 dws),.d (.int yk),.d (.int yn),.d (.str ya),.d (.str yb),.d (Q8 yvs),.d (.sl (yxs.map Tm.row)),.d (.sl (ycs.map Cs.row))]))]⟩)
    (μ:=fun u=>dws.length-u.1.1) ⟨(0,m1),⟨Nat.zero_le _,⟨by rw[List.drop_zero],by rw[List.drop_zero];exact Nat.le_refl _⟩⟩⟩ (Le.sub (by simp) (by simp)) (fun⟨(j,v),⟨hi38,hw⟩⟩=>?_)
   dsimp only at hi38 hw⊢;refine AWp.rg [] [] ?_ (hr:=by conv=>lhs;simp[Tm.row,Tm.Q3,Cs.Q3,h1y,Cs.row,q1,q2,q3,q4,q5,q8,q9t]);repeat (first|refine AWp.seq ?_|refine AWp.block ?_)
   refine AWp.cond rfl (fun hc=>?_) (fun hc=>?_)
   ·have hi1:j<dws.length:=by have:=of_decide_eq_true hc;omega
    clear hc;have h1s:dws[j]? =some dws[j]:=List.getElem?_eq_getElem hi1;have hms:dws[j]∈dws:=List.getElem_mem hi1;have hds:dws.drop j=dws[j]::dws.drop (j+1):=List.drop_eq_getElem_cons hi1;generalize dws[j]=s at h1s hms hds;obtain⟨hj1,hj2⟩:=hw;rw[hds,Ej]at hj1;rw[hds,strW]at hj2;refine AWp.skip ?_;refine AWp.rg [] [] ?_ (hr:=by conv=>lhs;simp[Tm.row,Tm.Q3,Cs.Q3,h1y,Cs.row,h1s,q1,q2,q3,q4,q5,q8,q9t]);by_cases hp:0<j
    ·refine AWp.rg [] [] ?_ (hr:=by conv=>lhs;simp[Tm.row,Tm.Q3,Cs.Q3,h1y,Cs.row,h1s,q1,q2,q3,q4,q5,q8,q9t,hp]);refine AWp.cy ?_;refine AWp.rg [] [] ?_ (hr:=by conv=>lhs;simp[Tm.row,Tm.Q3,Cs.Q3,h1y,Cs.row,h1s,q1,q2,q3,q4,q5,q8,q9t,hp]);refine AWp.rg [] [] ?_ (hr:=by conv=>lhs;simp[Tm.row,Tm.Q3,Cs.Q3,h1y,Cs.row,h1s,q1,q2,q3,q4,q5,q8,q9t,hp]);refine AWp.rg [] [] ?_ (hr:=by conv=>lhs;simp[Tm.row,Tm.Q3,Cs.Q3,h1y,Cs.row,h1s,q1,q2,q3,q4,q5,q8,q9t,hp]);refine⟨⟨(j+1,(v++⟨#[32]⟩)++s),hi1,⟨by rw[hj1,if_pos (by omega)],by dsimp only;try simp only[ByteArray.size_append,zl0,zl1,zl2,zl3,zl4,zl5,zl6,zl7,zl8,zl9,Qq9,Qq8,Qq7,Qq6,Qq5,Qq4,Qq3,Qq2,Qq1];omega⟩⟩,by simp;omega,?_⟩;dsimp only;exact Le.sub (by simp) (by simp)
    refine AWp.rg [] [] ?_ (hr:=by conv=>lhs;simp[Tm.row,Tm.Q3,Cs.Q3,h1y,Cs.row,h1s,q1,q2,q3,q4,q5,q8,q9t,hp]);refine AWp.cn ?_;refine AWp.skip ?_;refine AWp.rg [] [] ?_ (hr:=by conv=>lhs;simp[Tm.row,Tm.Q3,Cs.Q3,h1y,Cs.row,h1s,q1,q2,q3,q4,q5,q8,q9t,hp]);refine AWp.rg [] [] ?_ (hr:=by conv=>lhs;simp[Tm.row,Tm.Q3,Cs.Q3,h1y,Cs.row,h1s,q1,q2,q3,q4,q5,q8,q9t,hp]);refine⟨⟨(j+1,v++s),hi1,⟨by rw[hj1,if_neg (by omega)],by dsimp only;try simp only[ByteArray.size_append,zl0,zl1,zl2,zl3,zl4,zl5,zl6,zl7,zl8,zl9,Qq9,Qq8,Qq7,Qq6,Qq5,Qq4,Qq3,Qq2,Qq1];omega⟩⟩,by simp;omega,?_⟩;dsimp only;exact Le.sub (by simp) (by simp)
   have hi1:j=dws.length:=by have:=of_decide_eq_false hc;omega
   subst hi1;clear hc;obtain⟨hj1,hj2⟩:=hw;rw[List.drop_length,Ej]at hj1;rw[List.drop_length,strW]at hj2;rw[hj1]at hm1;refine AWp.exit ?_;refine AWp.rg [] [.p (fun _=>.d (.str z)) none] ?_ (hr:=by conv=>lhs;simp[Tm.row,Tm.Q3,Cs.Q3,h1y,Cs.row,q1,q2,q3,q4,q5,q8,q9t]);refine AWp.rg [] [] ?_ (hr:=by conv=>lhs;simp[Tm.row,Tm.Q3,Cs.Q3,h1y,Cs.row,q1,q2,q3,q4,q5,q8,q9t]);refine⟨⟨(i+1,((v++⟨#[41,32]⟩)++z)++⟨#[41]⟩),hi1,⟨hm1,by dsimp only;try simp only[ByteArray.size_append,zl0,zl1,zl2,zl3,zl4,zl5,zl6,zl7,zl8,zl9,Qq9,Qq8,Qq7,Qq6,Qq5,Qq4,Qq3,Qq2,Qq1];omega⟩⟩,by simp;omega,?_⟩;dsimp only;exact Le.sub (by simp) (by simp)
  have hi1:i=tcs.length:=by have:=of_decide_eq_false hc;omega
  subst hi1;clear hc;obtain⟨hm1,hm2⟩:=hw;rw[List.drop_length,Cs.shL]at hm1;rw[hm1]at hR;rw[List.drop_length,Cs.wtL]at hm2;refine AWp.exit ?_;rw[hR];refine AWp.rg [] [] ?_ (hr:=by conv=>lhs;simp[Tm.row,Tm.Q3,Cs.Q3,q1,q2,q3,q4,q5,q8,q9t]);refine AWp.ret ?_;try dsimp only[Qq,Q6]
  apply Z8.ret
  ·rfl
  ·conv=>lhs;simp[Q9,Tryz.results38]
  first|rfl|simp[Z6]
 refine AWp.rg [] [] ?_ (hr:=by conv=>lhs;simp[Tm.row,Tm.Q3,Cs.Q3,q1,q2,q3,q4,q5,q8,q9]);refine AWp.cn ?_;by_cases q10:tk=8
 ·have q10t:=eq_true q10;refine AWp.rg [] [] ?_ (hr:=by conv=>lhs;simp[Tm.row,Tm.Q3,Cs.Q3,q1,q2,q3,q4,q5,q8,q9,q10t]);refine AWp.cy ?_;rw[shK,if_neg (by omega),if_neg (by omega),if_neg (by omega),if_neg (by omega),if_neg (by omega),if_neg (by omega),if_neg (by omega),if_pos (by omega)]at hR;rw[hR];refine AWp.rg [] [] ?_ (hr:=by conv=>lhs;simp[Tm.row,Tm.Q3,Cs.Q3,q1,q2,q3,q4,q5,q8,q9,q10t]);refine AWp.ret ?_;try dsimp only[Qq,Q6]
  apply Z8.ret
  ·rfl
  ·conv=>lhs;simp[Q9,Tryz.results38]
  first|rfl|simp[Z6]
 refine AWp.rg [] [] ?_ (hr:=by conv=>lhs;simp[Tm.row,Tm.Q3,Cs.Q3,q1,q2,q3,q4,q5,q8,q9,q10]);refine AWp.cn ?_;by_cases q11:tk=9
 ·have q11t:=eq_true q11;refine AWp.rg [] [] ?_ (hr:=by conv=>lhs;simp[Tm.row,Tm.Q3,Cs.Q3,q1,q2,q3,q4,q5,q8,q9,q10,q11t]);refine AWp.cy ?_;rw[shK,if_neg (by omega),if_neg (by omega),if_neg (by omega),if_neg (by omega),if_neg (by omega),if_neg (by omega),if_neg (by omega),if_neg (by omega),if_pos (by omega)]at hR;rw[hR];refine AWp.rg [] [] ?_ (hr:=by conv=>lhs;simp[Tm.row,Tm.Q3,Cs.Q3,q1,q2,q3,q4,q5,q8,q9,q10,q11t]);refine AWp.ret ?_;try dsimp only[Qq,Q6]
  apply Z8.ret
  ·rfl
  ·conv=>lhs;simp[Q9,Tryz.results38]
  first|rfl|simp[Z6]
 refine AWp.rg [] [] ?_ (hr:=by conv=>lhs;simp[Tm.row,Tm.Q3,Cs.Q3,q1,q2,q3,q4,q5,q8,q9,q10,q11]);refine AWp.cn ?_;by_cases q12:tk=10
 ·have q12t:=eq_true q12;refine AWp.rg [] [] ?_ (hr:=by conv=>lhs;simp[Tm.row,Tm.Q3,Cs.Q3,q1,q2,q3,q4,q5,q8,q9,q10,q11,q12t]);refine AWp.cy ?_;rw[shK,if_neg (by omega),if_neg (by omega),if_neg (by omega),if_neg (by omega),if_neg (by omega),if_neg (by omega),if_neg (by omega),if_neg (by omega),if_neg (by omega),if_pos (by omega)]at hR;rw[hR];refine AWp.rg [] [] ?_ (hr:=by conv=>lhs;simp[Tm.row,Tm.Q3,Cs.Q3,q1,q2,q3,q4,q5,q8,q9,q10,q11,q12t]);refine AWp.ret ?_;try dsimp only[Qq,Q6]
  apply Z8.ret
  ·rfl
  ·conv=>lhs;simp[Q9,Tryz.results38]
  first|rfl|simp[Z6]
 refine AWp.rg [] [] ?_ (hr:=by conv=>lhs;simp[Tm.row,Tm.Q3,Cs.Q3,q1,q2,q3,q4,q5,q8,q9,q10,q11,q12]);refine AWp.cn ?_;by_cases q13:tk=11
 ·have q13t:=eq_true q13;refine AWp.rg [] [] ?_ (hr:=by conv=>lhs;simp[Tm.row,Tm.Q3,Cs.Q3,q1,q2,q3,q4,q5,q8,q9,q10,q11,q12,q13t]);refine AWp.cy ?_;rw[shK,if_neg (by omega),if_neg (by omega),if_neg (by omega),if_neg (by omega),if_neg (by omega),if_neg (by omega),if_neg (by omega),if_neg (by omega),if_neg (by omega),if_neg (by omega),if_pos (by omega)]at hR;rw[hR];refine AWp.rg [] [] ?_ (hr:=by conv=>lhs;simp[Tm.row,Tm.Q3,Cs.Q3,q1,q2,q3,q4,q5,q8,q9,q10,q11,q12,q13t]);refine AWp.ret ?_;try dsimp only[Qq,Q6]
  apply Z8.ret
  ·rfl
  ·conv=>lhs;simp[Q9,Tryz.results38]
  first|rfl|simp[Z6]
 refine AWp.rg [] [] ?_ (hr:=by conv=>lhs;simp[Tm.row,Tm.Q3,Cs.Q3,q1,q2,q3,q4,q5,q8,q9,q10,q11,q12,q13]);refine AWp.cn ?_;by_cases q14:tk=12
 ·have q14t:=eq_true q14;refine AWp.rg [] [] ?_ (hr:=by conv=>lhs;simp[Tm.row,Tm.Q3,Cs.Q3,q1,q2,q3,q4,q5,q8,q9,q10,q11,q12,q13,q14t]);refine AWp.cy ?_;rw[shK,if_neg (by omega),if_neg (by omega),if_neg (by omega),if_neg (by omega),if_neg (by omega),if_neg (by omega),if_neg (by omega),if_neg (by omega),if_neg (by omega),if_neg (by omega),if_neg (by omega),if_pos (by omega)]at hR;rw[←hT0]at hR;rw[hR];refine AWp.rg [] [] ?_ (hr:=by conv=>lhs;simp[Tm.row,Tm.Q3,Cs.Q3,q1,q2,q3,q4,q5,q8,q9,q10,q11,q12,q13,q14t]);refine AWp.ret ?_;try dsimp only[Qq,Q6]
  apply Z8.ret
  ·rfl
  ·conv=>lhs;simp[Q9,Tryz.results38]
  first|rfl|simp[Z6]
 refine AWp.rg [] [] ?_ (hr:=by conv=>lhs;simp[Tm.row,Tm.Q3,Cs.Q3,q1,q2,q3,q4,q5,q8,q9,q10,q11,q12,q13,q14]);refine AWp.cn ?_;by_cases q15:tk=13
 ·have q15t:=eq_true q15;refine AWp.rg [] [] ?_ (hr:=by conv=>lhs;simp[Tm.row,Tm.Q3,Cs.Q3,q1,q2,q3,q4,q5,q8,q9,q10,q11,q12,q13,q14,q15t]);refine AWp.cy ?_;rw[shK,if_neg (by omega),if_neg (by omega),if_neg (by omega),if_neg (by omega),if_neg (by omega),if_neg (by omega),if_neg (by omega),if_neg (by omega),if_neg (by omega),if_neg (by omega),if_neg (by omega),if_neg (by omega),if_pos (by omega)]at hR;rw[hR];refine AWp.rg [] [] ?_ (hr:=by conv=>lhs;simp[Tm.row,Tm.Q3,Cs.Q3,q1,q2,q3,q4,q5,q8,q9,q10,q11,q12,q13,q14,q15t]);refine AWp.ret ?_;try dsimp only[Qq,Q6]
  apply Z8.ret
  ·rfl
  ·conv=>lhs;simp[Q9,Tryz.results38]
  first|rfl|simp[Z6]
 refine AWp.rg [] [] ?_ (hr:=by conv=>lhs;simp[Tm.row,Tm.Q3,Cs.Q3,q1,q2,q3,q4,q5,q8,q9,q10,q11,q12,q13,q14,q15]);refine AWp.cn ?_;refine AWp.skip ?_;rw[shK,if_neg (by omega),if_neg (by omega),if_neg (by omega),if_neg (by omega),if_neg (by omega),if_neg (by omega),if_neg (by omega),if_neg (by omega),if_neg (by omega),if_neg (by omega),if_neg (by omega),if_neg (by omega),if_neg (by omega)]at hR;rw[hR];refine AWp.rg [] [] ?_ (hr:=by conv=>lhs;simp[Tm.row,Tm.Q3,Cs.Q3,q1,q2,q3,q4,q5,q8,q9,q10,q11,q12,q13,q14,q15]);refine AWp.ret ?_;try dsimp only[Qq,Q6]
 apply Z8.ret
 ·rfl
 ·conv=>lhs;simp[Q9,Tryz.results38]
 first|rfl|simp[Z6]
theorem sh_all:∀N,ShN N
 |0=>fun t h=>by have:=t.sz_ge;omega
 |N+1=>sh_step N (sh_all N)
theorem sp_Show (t:Tm) (hI:t.In) (hW:t.wt≤4611686018427387904):Z4 Tryz.prog 38 [X9 t] (fun _=>.d (.str t.sh)) none:=sh_all t.sz t (Nat.le_refl _) hI hW
@[simp] theorem le_maxLen18:18≤maxLen:=by decide
end Go.Proofs.YtjpldhjgehoffaaGreatDoor
namespace Go.Proofs.YtjpldhjgehoffaaGreatDoor
open Go.RowKit
set_option linter.unusedVariables false
set_option linter.unusedSimpArgs false
theorem around_ok:∀(bs:Bs) (t:Tm),(∀b∈bs,b.1.size≤140737488355328∧b.2.Ok)→t.Ok→(around bs t).Ok
 |[],_,_,h=>h
 |b::r,t,hb,h=>by
  have h1:=around_ok r t (fun x hx=>hb x (List.mem_cons_of_mem _ hx)) h;obtain⟨h2,h3⟩:=hb b (List.mem_cons_self ..);exact⟨⟨h2,by simp,by simp⟩,⟨by simp,by simp,by simp⟩,⟨h3,h1,trivial⟩,trivial⟩
theorem varT_ok {s:ByteArray} (h:s.size≤140737488355328):(varT s).Ok:=
 ⟨⟨h,by simp,by simp⟩,⟨by simp,by simp,by simp⟩,trivial,trivial⟩
theorem pl_ok:∀(d:Nat) (t:Tm) (c:Int),t.Rt d→t.Ok→(t.pl c).1.Ok:=by
 intro d;induction d with
 |zero=>intro t _ h;exact h.elim
 |succ d ih=>
 intro t c hR hO;obtain⟨k,n,a,b,vs,xs,cs⟩:=t;obtain⟨_,_,_,hx,hc⟩:=hR;obtain⟨⟨o1,o2,o3⟩,⟨o4,o5,o6⟩,o7,o8⟩:=hO;have o7':=Tm.X8.1 o7;have o8':=Cs.X8.1 o8;have hA:∀(ys:List Tm) (c:Int),(∀y∈ys,y∈xs)→Tm.Oks (Tm.ats ys c).1∧∀b∈(Tm.ats ys c).2.1,b.1.size≤140737488355328∧b.2.Ok:=by
  intro ys;induction ys with
  |nil=>intro c _;exact⟨trivial,fun b h=>by simp[Tm.ats]at h⟩
  |cons y r ih2=>
   intro c hm;have hy:=hm y (List.mem_cons_self ..);rw[Tm.ats];split
   ·obtain⟨h1,h2⟩:=ih2 c fun z hz=>hm z (List.mem_cons_of_mem _ hz)
    exact⟨⟨o7' y hy,h1⟩,h2⟩
   ·obtain⟨h1,h2⟩:=ih2 (y.pl (wr (c+1))).2 fun z hz=>hm z (List.mem_cons_of_mem _ hz)
    refine⟨⟨varT_ok (wNm_le _),h1⟩,fun b hb=>?_⟩;rcases List.mem_cons.1 hb with rfl|hb
    ·exact⟨wNm_le _,ih y _ (hx y hy) (o7' y hy)⟩
    ·exact h2 b hb
 have hL:∀(ys:List Tm) (c:Int),(∀y∈ys,y∈xs)→Tm.Oks (Tm.plL ys c).1∧(Tm.plL ys c).1.length=ys.length:=by
  intro ys;induction ys with
  |nil=>intro c _;exact⟨trivial,rfl⟩
  |cons y r ih2=>
   intro c hm;have hy:=hm y (List.mem_cons_self ..);obtain⟨h1,h2⟩:=ih2 (y.pl c).2 fun z hz=>hm z (List.mem_cons_of_mem _ hz)
   rw[Tm.plL];exact⟨⟨ih y c (hx y hy) (o7' y hy),h1⟩,by simp[h2]⟩
 have hC:∀(ys:List Cs) (c:Int),(∀y∈ys,y∈cs)→Cs.Oks (Cs.plL ys c).1∧(Cs.plL ys c).1.length=ys.length:=by
  intro ys;induction ys with
  |nil=>intro c _;exact⟨trivial,rfl⟩
  |cons y r ih2=>
   intro c hm;have hy:=hm y (List.mem_cons_self ..);obtain⟨h1,h2⟩:=ih2 (y.pl c).2 fun z hz=>hm z (List.mem_cons_of_mem _ hz)
   obtain⟨t,ws,y⟩:=y;obtain⟨_,hyR⟩:=hc _ hy;obtain⟨p1,p2,p3⟩:=o8' _ hy;rw[Cs.plL];rw[Cs.pl]at h1 h2⊢;exact⟨⟨⟨p1,p2,ih y c hyR p3⟩,h1⟩,by simp[h2]⟩
 rw[Tm.pl];split
 ·obtain⟨h1,h2⟩:=hA xs c fun y hy=>hy
  refine around_ok _ _ h2 ⟨⟨o1,by simp,by simp⟩,⟨by simp,by rw[ats_len];exact o5,by simp⟩,h1,trivial⟩
 split
 ·obtain⟨h1,h2⟩:=hL xs c fun y hy=>hy
  exact⟨⟨o1,by simp,by simp⟩,⟨by simp,by rw[h2];exact o5,by simp⟩,h1,trivial⟩
 split
 ·obtain⟨h1,h2⟩:=hA xs c fun y hy=>hy
  obtain⟨h3,h4⟩:=hC cs (Tm.ats xs c).2.2 fun y hy=>hy
  exact around_ok _ _ h2 ⟨⟨by simp,by simp,by simp⟩,⟨by simp,by rw[ats_len];exact o5,by rw[h4];exact o6⟩,h1,h3⟩
 ·exact⟨⟨o1,o2,o3⟩,⟨o4,o5,o6⟩,o7,o8⟩
theorem Fn.pl_ok (f:Fn) (hb:f.body.Ok) (hr:f.body.Rt 25) (hp:f.params.length≤6):f.pl.body.Ok∧f.pl.params.length≤6:=
 ⟨Go.Proofs.YtjpldhjgehoffaaGreatDoor.pl_ok 25 _ 0 (f.O6 hr) (f.rn_ok hb hr),by unfold Fn.pl Fn.rn;dsimp only;rw[Wx];exact hp⟩
mutual
def Tm.isP:Tm→Bool
 | .mk k _ _ _ _ xs cs=>Tm.isL k xs && Cs.isL cs
def Tm.isL (k:Int):List Tm→Bool
 |[]=>true
 |x::r=>(if k=6 then x.isP else decide (x.tk=1)) && Tm.isL k r
def Cs.isL:List Cs→Bool
 |[]=>true
 |c::r=>c.isP && Cs.isL r
def Cs.isP:Cs→Bool
 | .mk _ _ y=>y.isP
end
def Tm.xs:Tm→List Tm
 | .mk _ _ _ _ _ xs _=>xs
def Tm.a0 (t:Tm):Tm:=t.xs.headD t
mutual
def Tm.sr:Tm→List ByteArray→List ByteArray×Tm
 | .mk k n a b vs xs cs,rest=>if k=8∧hasB rest a=true then Tm.srL xs (woN rest [a]) (.mk k n a b vs xs cs)else (rest,.mk k n a b vs xs cs)
def Tm.srL:List Tm→List ByteArray→Tm→List ByteArray×Tm
 |[],rest,t=>(rest,t)
 |x::_,rest,_=>x.sr rest
end
def Yv (k:Int) (na:Nat) (nm:ByteArray) (ws:List ByteArray) (body:Tm):Tm:=
 if ws.length≠0∧na=1∧k=7∧(body.sr ws).2.tk=9∧(body.sr ws).2.nm=nm then .mk 10 0 nm .empty ws [cnt 9 (body.sr ws).1 (body.sr ws).2.a0] []else body
mutual
def Tm.fu:Tm→Tm
 | .mk k n a b vs xs cs=>.mk k n a b vs (Tm.fuL xs) (Cs.fuL k xs.length (nmH xs) cs)
def Tm.fuL:List Tm→List Tm
 |[]=>[]
 |x::r=>x.fu::Tm.fuL r
def Cs.fuL (k:Int) (na:Nat) (nm:ByteArray):List Cs→List Cs
 |[]=>[]
 |c::r=>c.fu k na nm::Cs.fuL k na nm r
def Cs.fu (k:Int) (na:Nat) (nm:ByteArray):Cs→Cs
 | .mk t ws y=>.mk t ws (Yv k na nm ws y.fu)
end
theorem Tm.Ez:∀l:List Tm,Tm.fuL l=l.map Tm.fu
 |[]=>rfl
 |x::r=>by rw[Tm.fuL,Tm.Ez r];rfl
theorem Cs.Ez (k:Int) (na:Nat) (nm:ByteArray):∀l:List Cs,Cs.fuL k na nm l=l.map (Cs.fu k na nm)
 |[]=>rfl
 |x::r=>by rw[Cs.fuL,Cs.Ez k na nm r];rfl
theorem Tm.fu_nm (t:Tm):t.fu.nm=t.nm:=by
 obtain⟨k,n,a,b,vs,xs,cs⟩:=t;rw[Tm.fu];rfl
def Fn.fu (f:Fn):Fn:=⟨f.name,f.params,f.body.fu⟩
mutual
def Tm.stp:Tm→Int
 | .mk k _ _ _ _ xs cs=>Cs.Nj (Tm.Nj (if 8≤k then 1 else 0) xs) cs
def Tm.Nj:Int→List Tm→Int
 |n,[]=>n
 |n,x::r=>Tm.Nj (wr (n+x.stp)) r
def Cs.Nj:Int→List Cs→Int
 |n,[]=>n
 |n,c::r=>Cs.Nj (wr (n+c.stp)) r
def Cs.stp:Cs→Int
 | .mk _ _ y=>y.stp
end
mutual
def Tm.Du:Tm→Prop
 | .mk k _ _ _ _ xs cs=>(k=8∨k=9→xs≠[])∧Tm.DuL xs∧Cs.DuL cs
def Tm.DuL:List Tm→Prop
 |[]=>True
 |x::r=>x.Du∧Tm.DuL r
def Cs.DuL:List Cs→Prop
 |[]=>True
 |c::r=>c.Du∧Cs.DuL r
def Cs.Du:Cs→Prop
 | .mk _ ws y=>ws.length≤6∧y.Du
end
theorem Tm.Cj:∀{l:List Tm},Tm.DuL l↔∀x∈l,x.Du
 |[]=>by simp[Tm.DuL]
 |x::r=>by simp[Tm.DuL,Tm.Cj (l:=r)]
theorem Cs.Cj:∀{l:List Cs},Cs.DuL l↔∀x∈l,x.Du
 |[]=>by simp[Cs.DuL]
 |x::r=>by simp[Cs.DuL,Cs.Cj (l:=r)]
theorem Tm.Du.a0 {t:Tm} (h:t.Du):t.a0.Du:=by
 obtain⟨k,n,a,b,vs,xs,cs⟩:=t;unfold Tm.a0 Tm.xs;rcases xs with _|⟨x,r⟩
 ·exact h
 ·exact h.2.1.1
theorem cnt_du {k:Int}:∀(l:List ByteArray) {t:Tm},t.Du→(cnt k l t).Du
 |[],_,h=>h
 |s::r,t,h=>⟨fun _=>by simp,⟨cnt_du r h,trivial⟩,trivial⟩
theorem cnt_ok {k:Int}:∀(l:List ByteArray) {t:Tm},(∀s∈l,s.size≤140737488355328)→t.Ok→(cnt k l t).Ok
 |[],_,_,h=>h
 |s::r,t,hl,h=>⟨⟨hl s (List.mem_cons_self ..),by simp,by simp⟩,⟨by simp,by simp,by simp⟩,⟨cnt_ok r (fun x hx=>hl x (List.mem_cons_of_mem _ hx)) h,trivial⟩,trivial⟩
theorem Tm.Ok.a0 {t:Tm} (h:t.Ok):t.a0.Ok:=by
 obtain⟨k,n,a,b,vs,xs,cs⟩:=t;unfold Tm.a0 Tm.xs;rcases xs with _|⟨x,r⟩
 ·exact h
 ·exact h.2.2.1.1
mutual
theorem Tm.sr_ok:∀(t:Tm) (rest:List ByteArray),t.Ok→t.Du→(t.sr rest).2.Ok∧(t.sr rest).2.Du∧∀s∈(t.sr rest).1,s∈rest
 | .mk k n a b vs xs cs,rest,h,hd=>by
  rw[Tm.sr];split
  ·obtain⟨h1,h2,h3⟩:=Tm.srL_ok xs (woN rest [a]) (.mk k n a b vs xs cs) h hd h.2.2.1 hd.2.1;exact⟨h1,h2,fun s hs=>(List.mem_filter.1 (h3 s hs)).1⟩
  ·exact⟨h,hd,fun s hs=>hs⟩
theorem Tm.srL_ok:∀(l:List Tm) (rest:List ByteArray) (t:Tm),t.Ok→t.Du→Tm.Oks l→Tm.DuL l→(Tm.srL l rest t).2.Ok∧(Tm.srL l rest t).2.Du∧∀s∈(Tm.srL l rest t).1,s∈rest
 |[],rest,t,h,hd,_,_=>by rw[Tm.srL];exact⟨h,hd,fun s hs=>hs⟩
 |x::r,rest,t,_,_,h,hd=>by rw[Tm.srL];exact Tm.sr_ok x rest h.1 hd.1
end
theorem fuOne_ok {k:Int} {na:Nat} {nm:ByteArray} {ws:List ByteArray} {y:Tm} (h:y.Ok) (hd:y.Du) (hn:nm.size≤140737488355328) (hw:∀s∈ws,s.size≤140737488355328) (hwl:ws.length≤8796093022207):(Yv k na nm ws y).Ok∧(Yv k na nm ws y).Du:=by
 obtain⟨h1,h2,h3⟩:=Tm.sr_ok y ws h hd;unfold Yv;split
 ·exact⟨⟨⟨hn,by simp,hw⟩,⟨hwl,by simp,by simp⟩,⟨cnt_ok _ (fun s hs=>hw s (h3 s hs)) h1.a0,trivial⟩,trivial⟩,⟨fun _=>by simp,⟨cnt_du _ h2.a0,trivial⟩,trivial⟩⟩
 ·exact⟨h,hd⟩
theorem nmH_le {l:List Tm} (h:Tm.Oks l):(nmH l).size≤140737488355328:=by
 rcases l with _|⟨x,r⟩
 ·simp[nmH]
 ·exact h.1.nm
mutual
theorem Tm.fu_ok:∀(t:Tm),t.Ok→t.Du→t.fu.Ok∧t.fu.Du
 | .mk k n a b vs xs cs,h,hd=>by
  rw[Tm.fu];obtain⟨h1,h2,h3⟩:=Tm.fuL_ok xs h.2.2.1 hd.2.1;obtain⟨h4,h5,h6⟩:=Cs.fuL_ok k xs.length (nmH xs) (nmH_le h.2.2.1) cs h.2.2.2 hd.2.2;refine⟨⟨h.1,⟨h.2.1.1,by rw[h3];exact h.2.1.2.1,by rw[h6];exact h.2.1.2.2⟩,h1,h4⟩,fun hk e=>?_,h2,h5⟩;have:=hd.1 hk;rcases xs with _|⟨x,r⟩
  ·exact this rfl
  ·rw[Tm.fuL]at e;cases e
theorem Tm.fuL_ok:∀(l:List Tm),Tm.Oks l→Tm.DuL l→Tm.Oks (Tm.fuL l)∧Tm.DuL (Tm.fuL l)∧(Tm.fuL l).length=l.length
 |[],_,_=>by rw[Tm.fuL];exact⟨trivial,trivial,rfl⟩
 |x::r,h,hd=>by
  obtain⟨h1,h2⟩:=Tm.fu_ok x h.1 hd.1;obtain⟨h3,h4,h5⟩:=Tm.fuL_ok r h.2 hd.2;rw[Tm.fuL];exact⟨⟨h1,h3⟩,⟨h2,h4⟩,by simp[h5]⟩
theorem Cs.fuL_ok (k:Int) (na:Nat) (nm:ByteArray) (hn:nm.size≤140737488355328):∀(l:List Cs),Cs.Oks l→Cs.DuL l→Cs.Oks (Cs.fuL k na nm l)∧Cs.DuL (Cs.fuL k na nm l)∧(Cs.fuL k na nm l).length=l.length
 |[],_,_=>by rw[Cs.fuL];exact⟨trivial,trivial,rfl⟩
 |x::r,h,hd=>by
  obtain⟨h1,h2⟩:=Cs.fu_ok k na nm hn x h.1 hd.1;obtain⟨h3,h4,h5⟩:=Cs.fuL_ok k na nm hn r h.2 hd.2;rw[Cs.fuL];exact⟨⟨h1,h3⟩,⟨h2,h4⟩,by simp[h5]⟩
theorem Cs.fu_ok (k:Int) (na:Nat) (nm:ByteArray) (hn:nm.size≤140737488355328):∀(c:Cs),c.Ok→c.Du→(c.fu k na nm).Ok∧(c.fu k na nm).Du
 | .mk t ws y,h,hd=>by
  obtain⟨h1,h2⟩:=Tm.fu_ok y h.2.2 hd.2;obtain⟨h3,h4⟩:=fuOne_ok (k:=k) (na:=na) (nm:=nm) h1 h2 hn h.1 h.2.1;rw[Cs.fu];exact⟨⟨h.1,h.2.1,h3⟩,hd.1,h4⟩
end
theorem ow_ok:∀(d:Nat) (t:Tm) (has:List ByteArray),t.Rt d→t.Ok→(∀s∈has,s.size≤140737488355328)→(t.ow has).Ok∧(t.ow has).Du:=by
 intro d;induction d with
 |zero=>intro t _ h;exact h.elim
 |succ d ih=>
 intro t has hR hO hh;have hdu:∀t:Tm,∀d,t.Rt d→t.Du:=by
  intro t d;induction d generalizing t with
  |zero=>intro h;exact h.elim
  |succ d ih=>
   intro h;obtain⟨k,n,a,b,vs,xs,cs⟩:=t;obtain⟨h1,_,_,h2,h3⟩:=h;refine⟨fun hk=>by omega,Tm.Cj.2 fun x hx=>ih x (h2 x hx),Cs.Cj.2 fun c hc=>?_⟩;obtain⟨h4,h5⟩:=h3 c hc;obtain⟨t,ws,y⟩:=c;exact⟨h4,ih y h5⟩
 have hD:=hdu t _ hR;obtain⟨k,n,a,b,vs,xs,cs⟩:=t;obtain⟨hk,hmany,h6,hx,hc⟩:=hR;have hO':=hO;obtain⟨⟨o1,o2,o3⟩,⟨o4,o5,o6⟩,o7,o8⟩:=hO';have o7':=Tm.X8.1 o7;have o8':=Cs.X8.1 o8;rw[Tm.ow];generalize(Tm.mk k n a b vs xs cs).free=fr;have hG:∀s∈woN has fr,s.size≤140737488355328:=fun s hs=>hh s (List.mem_filter.1 hs).1
 have hI:∀s∈inN has fr,s.size≤140737488355328:=fun s hs=>hh s (List.mem_filter.1 hs).1
 generalize inN has fr=own at hI⊢
 suffices H:∀e:Tm,e.Ok→e.Du→(cnt 9 (woN has fr) e).Ok∧(cnt 9 (woN has fr) e).Du by
  split
  ·exact H _ (cnt_ok _ (fun s hs=>by
    obtain⟨x,hx,e⟩:=moreN_mem hs;rw[e];exact(o7' x hx).nm) hO) (cnt_du _ hD)
  split
  ·rename_i hk6;subst hk6;have hx2:xs.length=2∧cs=[]:=by
    unfold X6 at hmany;simp at hmany;exact hmany
   obtain⟨hx2,rfl⟩:=hx2;obtain⟨x,y,rfl⟩:∃x y,xs=[x,y]:=by
    rcases xs with _|⟨x,_|⟨y,_|⟨z,l⟩⟩⟩
    ·cases hx2
    ·cases hx2
    ·exact⟨x,y,rfl⟩
    ·simp at hx2
   rw[letD,letH,Tm.owZ,List.headD_cons,List.tail_cons,Tm.owZ,List.headD_cons,List.tail_cons,Tm.owZ];obtain⟨h1,h2⟩:=ih x (inN own x.free) (hx x (by simp)) (o7' x (by simp)) (fun s hs=>hI s (List.mem_filter.1 hs).1);obtain⟨h3,h4⟩:=ih y (inN own (woN y.free [a])++[a]) (hx y (by simp)) (o7' y (by simp)) (fun s hs=>(List.mem_append.1 hs).elim (fun h=>hI s (List.mem_filter.1 h).1) fun h=>by rw[List.mem_singleton.1 h];exact o1);exact H _ (cnt_ok _ (fun s hs=>hI s (List.mem_filter.1 (List.mem_filter.1 hs).1).1) ⟨⟨o1,by simp,by simp⟩,⟨by simp,by simp,by simp⟩,⟨h1,h3,trivial⟩,trivial⟩) (cnt_du _ ⟨fun h=>by omega,⟨h2,h4,trivial⟩,trivial⟩)
  split
  ·have hnm:=nmH_le o7;have hC:∀(l:List Cs),(∀c∈l,c∈cs)→Cs.Oks (Cs.owL l own (nmH xs))∧Cs.DuL (Cs.owL l own (nmH xs)):=by
    intro l;induction l with
    |nil=>intro _;exact⟨trivial,trivial⟩
    |cons c r ih2=>
     intro hm;have hcm:=hm c (List.mem_cons_self ..);obtain⟨g1,g2⟩:=ih2 fun z hz=>hm z (List.mem_cons_of_mem _ hz)
     obtain⟨t,ws,y⟩:=c;obtain⟨e1,e2⟩:=hc _ hcm;obtain⟨p1,p2,p3⟩:=o8' _ hcm;have hU:∀s∈inN ws y.free,s.size≤140737488355328:=fun s hs=>p1 s (List.mem_filter.1 hs).1
     have hH:∀s∈own++inN ws y.free,s.size≤140737488355328:=fun s hs=>(List.mem_append.1 hs).elim (hI s) (hU s)
     obtain⟨q1,q2⟩:=ih y (if hasB y.free (nmH xs)then own++inN ws y.free else woN (own++inN ws y.free) [nmH xs]) e2 p3 (fun s hs=>by
      split at hs
      ·exact hH s hs
      ·exact hH s (List.mem_filter.1 hs).1)
     rw[Cs.owL,Cs.ow];exact⟨⟨⟨p1,p2,cnt_ok _ hU (cnt_ok _ (fun s hs=>by split at hs<;> simp at hs;rw[hs];exact hnm) q1)⟩,g1⟩,⟨⟨e1,cnt_du _ (cnt_du _ q2)⟩,g2⟩⟩
   obtain⟨g1,g2⟩:=hC cs fun _ h=>h
   exact H _ ⟨⟨by simp,by simp,by simp⟩,⟨by simp,o5,by rw[Cs.owL_len];exact o6⟩,o7,g1⟩ ⟨fun h=>by omega,hD.2.1,g2⟩
  ·exact H _ hO hD
 exact fun e h1 h2=>⟨cnt_ok _ hG h1,cnt_du _ h2⟩
theorem O5:∀(d:Nat) (t:Tm) (e:Nat),d≤e→t.Rt d→t.Rt e:=by
 intro d;induction d with
 |zero=>intro t e _ h;exact h.elim
 |succ d ih=>
  intro t e he h;obtain⟨e,rfl⟩:∃e',e=e'+1:=⟨e-1,by omega⟩
  obtain⟨k,n,a,b,vs,xs,cs⟩:=t;obtain⟨h1,h2,h3,h4,h5⟩:=h;exact⟨h1,h2,h3,fun x hx=>ih x e (by omega) (h4 x hx),fun c hc=>⟨(h5 c hc).1,ih _ e (by omega) (h5 c hc).2⟩⟩
theorem around_rt (d:Nat):∀(bs:Bs) (t:Tm),(∀b∈bs,b.2.Rt d)→t.Rt d→(around bs t).Rt (bs.length+d)
 |[],t,_,h=>by simpa[around]using h
 |b::r,t,hb,h=>by
  have h1:=around_rt d r t (fun x hx=>hb x (List.mem_cons_of_mem _ hx)) h;rw[around,List.length_cons,show r.length+1+d=(r.length+d)+1 from by omega];refine⟨by omega,rfl,by simp,fun x hx=>?_,by simp⟩;rcases List.mem_cons.1 hx with rfl|hx
  ·exact O5 d _ _ (by omega) (hb b (List.mem_cons_self ..))
  ·rw[List.mem_singleton.1 hx];exact h1
theorem varT_rt (s:ByteArray) (d:Nat):(varT s).Rt (d+1):=⟨by omega,rfl,by simp,by simp,by simp⟩
theorem pl_rt:∀(d:Nat) (t:Tm) (c:Int),t.Rt d→(t.pl c).1.Rt (7 * d):=by
 intro d;induction d with
 |zero=>intro t _ h;exact h.elim
 |succ d ih=>
 intro t c hR;obtain⟨k,n,a,b,vs,xs,cs⟩:=t;have hR':=hR;obtain⟨hk,hmany,h6,hx,hc⟩:=hR';have hA:∀(ys:List Tm) (c:Int),(∀y∈ys,y∈xs)→(∀x∈(Tm.ats ys c).1,x.Rt (7 * d))∧∀b∈(Tm.ats ys c).2.1,b.2.Rt (7 * d):=by
  intro ys;induction ys with
  |nil=>intro c _;exact⟨fun x h=>by simp[Tm.ats]at h,fun b h=>by simp[Tm.ats]at h⟩
  |cons y r ih2=>
   intro c hm;have hy:=hx y (hm y (List.mem_cons_self ..));have hd0:0<d:=by
    rcases d with _|d
    ·exact hy.elim
    ·omega
   rw[Tm.ats];split
   ·obtain⟨h1,h2⟩:=ih2 c fun z hz=>hm z (List.mem_cons_of_mem _ hz)
    refine⟨fun x hx=>?_,h2⟩;rcases List.mem_cons.1 hx with rfl|hx
    ·exact O5 d _ _ (by omega) hy
    ·exact h1 x hx
   ·obtain⟨h1,h2⟩:=ih2 (y.pl (wr (c+1))).2 fun z hz=>hm z (List.mem_cons_of_mem _ hz)
    refine⟨fun x hx=>?_,fun b hb=>?_⟩
    ·rcases List.mem_cons.1 hx with rfl|hx
     ·rw[show 7 * d=(7 * d-1)+1 from by omega];exact varT_rt _ _
     ·exact h1 x hx
    ·rcases List.mem_cons.1 hb with rfl|hb
     ·exact ih y _ hy
     ·exact h2 b hb
 have hL:∀(ys:List Tm) (c:Int),(∀y∈ys,y∈xs)→(∀x∈(Tm.plL ys c).1,x.Rt (7 * d))∧(Tm.plL ys c).1.length=ys.length:=by
  intro ys;induction ys with
  |nil=>intro c _;exact⟨fun x h=>by simp[Tm.plL]at h,rfl⟩
  |cons y r ih2=>
   intro c hm;obtain⟨h1,h2⟩:=ih2 (y.pl c).2 fun z hz=>hm z (List.mem_cons_of_mem _ hz)
   rw[Tm.plL];refine⟨fun x hx'=>?_,by simp[h2]⟩;rcases List.mem_cons.1 hx' with rfl|hx'
   ·exact ih y c (hx y (hm y (List.mem_cons_self ..)))
   ·exact h1 x hx'
 have hC:∀(ys:List Cs) (c:Int),(∀y∈ys,y∈cs)→(∀x∈(Cs.plL ys c).1,x.2.length≤6∧x.3.Rt (7 * d))∧(Cs.plL ys c).1.length=ys.length:=by
  intro ys;induction ys with
  |nil=>intro c _;exact⟨fun x h=>by simp[Cs.plL]at h,rfl⟩
  |cons y r ih2=>
   intro c hm;obtain⟨h1,h2⟩:=ih2 (y.pl c).2 fun z hz=>hm z (List.mem_cons_of_mem _ hz)
   obtain⟨g1,g2⟩:=hc y (hm y (List.mem_cons_self ..));obtain⟨t,ws,y⟩:=y;rw[Cs.plL];refine⟨fun x hx'=>?_,by simp[h2]⟩;rcases List.mem_cons.1 hx' with rfl|hx'
   ·rw[Cs.pl];exact⟨g1,ih y c g2⟩
   ·exact h1 x hx'
 have hbl:=I7 xs c;have hvl:=ats_len xs c;obtain⟨hv,hb⟩:=hA xs c fun _ h=>h
 have hxs:xs.length+cs.length≤6:=h6;rw[Tm.pl];split
 ·rename_i hk3;have hcs:cs=[]:=by
   unfold X6 at hmany;rcases hk3 with rfl|rfl|rfl<;> simp at hmany<;> exact hmany.2
  subst hcs;have hN:(Tm.mk k n a .empty [] (Tm.ats xs c).1 []).Rt (7 * d+1):=⟨hk,by rw[hvl];exact hmany,by rw[hvl];exact h6,hv,by simp⟩
  exact O5 _ _ _ (by omega) (around_rt (7 * d+1) _ _ (fun b hb'=>O5 _ _ _ (by omega) (hb b hb')) hN)
 split
 ·rename_i hk6;subst hk6;have hx2:xs.length=2∧cs=[]:=by
   unfold X6 at hmany;simp at hmany;exact hmany
  obtain⟨g1,g2⟩:=hL xs c fun _ h=>h
  refine O5 (7 * d+1) _ _ (by omega) ⟨hk,?_,by rw[g2];simp;omega,g1,by simp⟩;rw[g2,hx2.1];rfl
 split
 ·rename_i hk7;subst hk7;obtain⟨g1,g2⟩:=hC cs (Tm.ats xs c).2.2 fun _ h=>h
  have hN:(Tm.mk 7 0 .empty .empty [] (Tm.ats xs c).1 (Cs.plL cs (Tm.ats xs c).2.2).1).Rt (7 * d+1):=⟨hk,by rw[hvl,g2];exact hmany,by rw[hvl,g2];exact h6,hv,g1⟩
  have hx1:xs.length=1:=by
   unfold X6 at hmany;simp at hmany;exact hmany
  exact O5 _ _ _ (by omega) (around_rt (7 * d+1) _ _ (fun b hb'=>O5 _ _ _ (by omega) (hb b hb')) hN)
 ·exact O5 (d+1) _ _ (by omega) hR
def bsz:Bs→Nat
 |[]=>0
 |b::r=>1+b.2.sz+bsz r
theorem around_sz:∀(bs:Bs) (t:Tm),(around bs t).sz=bsz bs+t.sz
 |[],t=>by simp[around,bsz]
 |b::r,t=>by
  have:=around_sz r t;simp only[around,Tm.sz,Tm.szs,Cs.szs,bsz,this];omega
theorem sz_pos (t:Tm):1≤t.sz:=by obtain⟨k,n,a,b,vs,xs,cs⟩:=t;simp only[Tm.sz];omega
mutual
theorem Tm.pl_sz:∀(t:Tm) (c:Int),(t.pl c).1.sz+2≤3 * t.sz
 | .mk k n a b vs xs cs,c=>by
  have hA:=Tm.ats_sz xs c;have hL:=Tm.plL_sz xs c;have hC:=Cs.plL_sz cs (Tm.ats xs c).2.2;rw[Tm.pl];split
  ·dsimp only;rw[around_sz];simp only[Tm.sz,Cs.szs];omega
  split
  ·simp only[Tm.sz,Cs.szs];omega
  split
  ·dsimp only;rw[around_sz];simp only[Tm.sz];omega
  ·simp only[Tm.sz];omega
theorem Tm.ats_sz:∀(l:List Tm) (c:Int),bsz (Tm.ats l c).2.1+Tm.szs (Tm.ats l c).1≤3 * Tm.szs l
 |[],c=>by simp[Tm.ats,bsz,Tm.szs]
 |x::r,c=>by
  have h1:=Tm.ats_sz r c;have h2:=Tm.pl_sz x (wr (c+1));have h3:=Tm.ats_sz r (x.pl (wr (c+1))).2;have h4:∀s,(varT s).sz=1:=fun s=>by simp[varT,Tm.sz,Tm.szs,Cs.szs]
  rw[Tm.ats];split
  ·simp only[Tm.szs];omega
  ·simp only[Tm.szs,bsz,h4];omega
theorem Tm.plL_sz:∀(l:List Tm) (c:Int),Tm.szs (Tm.plL l c).1≤3 * Tm.szs l
 |[],c=>by simp[Tm.plL,Tm.szs]
 |x::r,c=>by
  have h1:=Tm.plL_sz r (x.pl c).2;have h2:=Tm.pl_sz x c;rw[Tm.plL];simp only[Tm.szs];omega
theorem Cs.plL_sz:∀(l:List Cs) (c:Int),Cs.szs (Cs.plL l c).1≤3 * Cs.szs l
 |[],c=>by simp[Cs.plL,Cs.szs]
 |x::r,c=>by
  have h1:=Cs.plL_sz r (x.pl c).2;have h2:=Cs.pl_sz x c;rw[Cs.plL];simp only[Cs.szs];omega
theorem Cs.pl_sz:∀(d:Cs) (c:Int),(d.pl c).1.sz≤3 * d.sz
 | .mk t ws y,c=>by
  have:=Tm.pl_sz y c;rw[Cs.pl];simp only[Cs.sz];omega
end
mutual
theorem Tm.rn_sz:∀(t:Tm) (ps:Ps) (c:Int),(t.rn ps c).1.sz≤t.sz
 | .mk k n a b vs xs cs,ps,c=>by
  have h1:=Tm.rns_sz k a ps 0 xs a c;have h2:=Cs.rnL_sz cs ps (Tm.rns k a ps 0 xs a c).2.2;rw[Tm.rn];split
  ·simp only[Tm.sz,Tm.szs,Cs.szs];omega
  ·simp only[Tm.sz];omega
theorem Tm.rns_sz (k:Int) (a:ByteArray) (ps:Ps):∀(i:Nat) (l:List Tm) (nm:ByteArray) (c:Int),Tm.szs (Tm.rns k a ps i l nm c).1≤Tm.szs l
 |_,[],_,_=>by simp[Tm.rns,Tm.szs]
 |i,x::r,nm,c=>by
  rw[Tm.rns];split
  ·have h1:=Tm.rn_sz x (ps++[(a,vNm (wr (c+1)))]) (wr (c+1));have h2:=Tm.rns_sz k a ps (i+1) r (vNm (wr (c+1))) (x.rn (ps++[(a,vNm (wr (c+1)))]) (wr (c+1))).2;simp only[Tm.szs];omega
  ·have h1:=Tm.rn_sz x ps c;have h2:=Tm.rns_sz k a ps (i+1) r nm (x.rn ps c).2;simp only[Tm.szs];omega
theorem Cs.rnL_sz:∀(l:List Cs) (ps:Ps) (c:Int),Cs.szs (Cs.rnL l ps c).1≤Cs.szs l
 |[],_,_=>by simp[Cs.rnL,Cs.szs]
 |x::r,ps,c=>by
  have h1:=Cs.rn_sz x ps c;have h2:=Cs.rnL_sz r ps (x.rn ps c).2;rw[Cs.rnL];simp only[Cs.szs];omega
theorem Cs.rn_sz:∀(d:Cs) (ps:Ps) (c:Int),(d.rn ps c).1.sz≤d.sz
 | .mk t ws y,ps,c=>by
  have:=Tm.rn_sz y (ps++ws.zip (J2 ws c)) (U7 ws c);rw[Cs.rn];simp only[Cs.sz];omega
end
theorem Fn.pl_pt (f:Fn) (hb:f.body.Ok) (hr:f.body.Rt 25) (hp:f.params.length≤6) (hz:f.body.sz≤349525):f.pl.Pt:=by
 obtain⟨h1,h2⟩:=Fn.pl_ok f hb hr hp;have h3:f.rn.body.sz≤f.body.sz:=Tm.rn_sz f.body _ _;have h4:f.pl.body.sz+2≤3 * f.rn.body.sz:=Tm.pl_sz f.rn.body 0;refine⟨Go.Proofs.YtjpldhjgehoffaaGreatDoor.pl_rt 25 f.rn.body 0 (f.O6 hr),⟨h1,by omega⟩,h2,fun s hs=>Qx0 f.params 0 s ?_⟩;exact hs
def erK (k:Int):Bool:=decide (k=8∨k=9∨k=10∨k=11∨k=13)
mutual
def Tm.er:Tm→Tm
 | .mk k n a b vs xs cs=>if erK k=true∧xs.length=1 then Tm.erH xs else .mk (if k=12 then 3 else k) n a (if k=12 then⟨#[]⟩else b) vs (Tm.erL xs) (Cs.erL cs)
def Tm.erH:List Tm→Tm
 |[]=>.mk 0 0 .empty .empty [] [] []
 |x::_=>x.er
def Tm.erL:List Tm→List Tm
 |[]=>[]
 |x::r=>x.er::Tm.erL r
def Cs.erL:List Cs→List Cs
 |[]=>[]
 |c::r=>c.er::Cs.erL r
def Cs.er:Cs→Cs
 | .mk t ws y=>.mk t ws y.er
end
theorem cnt_er {k:Int} (hk:k=8∨k=9):∀(l:List ByteArray) (t:Tm),(cnt k l t).er=t.er
 |[],_=>rfl
 |s::r,t=>by
  have h:erK k=true:=by unfold erK;exact decide_eq_true (by omega)
  rw[cnt,Tm.er,if_pos ⟨h,rfl⟩,Tm.erH,cnt_er hk r t]
theorem erK_small {k:Int} (h:k≤7):erK k=false:=by unfold erK;exact decide_eq_false (by omega)
theorem er_rt:∀(d:Nat) (t:Tm),t.Rt d→t.er=t:=by
 intro d;induction d with
 |zero=>intro t h;exact h.elim
 |succ d ih=>
 intro t hR;obtain⟨k,n,a,b,vs,xs,cs⟩:=t;obtain⟨hk,_,_,hx,hc⟩:=hR;have hL:∀ys:List Tm,(∀y∈ys,y∈xs)→Tm.erL ys=ys:=by
  intro ys;induction ys with
  |nil=>intro _;rfl
  |cons y r ih2=>
   intro hm;rw[Tm.erL,ih y (hx y (hm y (List.mem_cons_self ..))),ih2 fun z hz=>hm z (List.mem_cons_of_mem _ hz)]
 have hC:∀ys:List Cs,(∀y∈ys,y∈cs)→Cs.erL ys=ys:=by
  intro ys;induction ys with
  |nil=>intro _;rfl
  |cons y r ih2=>
   intro hm;have hy:=hc y (hm y (List.mem_cons_self ..));obtain⟨t,ws,y⟩:=y;rw[Cs.erL,Cs.er,ih y hy.2,ih2 fun z hz=>hm z (List.mem_cons_of_mem _ hz)]
 rw[Tm.er,erK_small hk.2,if_neg (by simp),hL xs fun _ h=>h,hC cs fun _ h=>h,if_neg (by omega),if_neg (by omega)]
mutual
def Tm.PlS:Tm→Prop
 | .mk k n a b vs xs cs=>(k=6→n=0∧b= .empty∧vs=[]∧Tm.PlSs xs)∧(k=7→n=0∧a= .empty∧b= .empty∧vs=[]∧Cs.PlSs cs)
def Tm.PlSs:List Tm→Prop
 |[]=>True
 |x::r=>x.PlS∧Tm.PlSs r
def Cs.PlSs:List Cs→Prop
 |[]=>True
 |c::r=>c.PlS∧Cs.PlSs r
def Cs.PlS:Cs→Prop
 | .mk _ _ y=>y.PlS
end
theorem Tm.PlSs_iff:∀{l:List Tm},Tm.PlSs l↔∀t∈l,t.PlS
 |[]=>by simp[Tm.PlSs]
 |t::r=>by simp[Tm.PlSs,Tm.PlSs_iff (l:=r)]
theorem Cs.PlSs_iff:∀{l:List Cs},Cs.PlSs l↔∀t∈l,t.PlS
 |[]=>by simp[Cs.PlSs]
 |t::r=>by simp[Cs.PlSs,Cs.PlSs_iff (l:=r)]
theorem around_pls:∀(bs:Bs) (t:Tm),(∀b∈bs,b.2.PlS)→t.PlS→(around bs t).PlS
 |[],_,_,h=>h
 |b::r,t,hb,h=>by
  rw[around];exact⟨fun _=>⟨rfl,rfl,rfl,hb b (List.mem_cons_self ..),around_pls r t (fun x hx=>hb x (List.mem_cons_of_mem _ hx)) h,trivial⟩,fun h=>by omega⟩
theorem pl_pls:∀(d:Nat) (t:Tm) (c:Int),t.Rt d→(t.pl c).1.PlS:=by
 intro d;induction d with
 |zero=>intro t _ h;exact h.elim
 |succ d ih=>
 intro t c hR;obtain⟨k,n,a,b,vs,xs,cs⟩:=t;obtain⟨_,_,_,hx,hc⟩:=hR;have hA:∀(ys:List Tm) (c:Int),(∀y∈ys,y∈xs)→∀b∈(Tm.ats ys c).2.1,b.2.PlS:=by
  intro ys;induction ys with
  |nil=>intro c _ b h;simp[Tm.ats]at h
  |cons y r ih2=>
   intro c hm;have hy:=hm y (List.mem_cons_self ..);rw[Tm.ats];split
   ·exact ih2 c fun z hz=>hm z (List.mem_cons_of_mem _ hz)
   ·intro b hb;rcases List.mem_cons.1 hb with rfl|hb
    ·exact ih y _ (hx y hy)
    ·exact ih2 (y.pl (wr (c+1))).2 (fun z hz=>hm z (List.mem_cons_of_mem _ hz)) b hb
 have hL:∀(ys:List Tm) (c:Int),(∀y∈ys,y∈xs)→Tm.PlSs (Tm.plL ys c).1:=by
  intro ys;induction ys with
  |nil=>intro c _;exact trivial
  |cons y r ih2=>
   intro c hm;rw[Tm.plL];exact⟨ih y c (hx y (hm y (List.mem_cons_self ..))),ih2 (y.pl c).2 fun z hz=>hm z (List.mem_cons_of_mem _ hz)⟩
 have hC:∀(ys:List Cs) (c:Int),(∀y∈ys,y∈cs)→Cs.PlSs (Cs.plL ys c).1:=by
  intro ys;induction ys with
  |nil=>intro c _;exact trivial
  |cons y r ih2=>
   intro c hm;have hy:=hc y (hm y (List.mem_cons_self ..));have h2:=ih2 (y.pl c).2 fun z hz=>hm z (List.mem_cons_of_mem _ hz)
   obtain⟨t,ws,y⟩:=y;rw[Cs.plL];rw[Cs.pl]at h2⊢;exact⟨ih y c hy.2,h2⟩
 rw[Tm.pl];split
 ·exact around_pls _ _ (hA xs c fun _ h=>h) ⟨fun h=>by omega,fun h=>by omega⟩
 split
 ·exact⟨fun _=>⟨rfl,rfl,rfl,hL xs c fun _ h=>h⟩,fun h=>by omega⟩
 split
 ·exact around_pls _ _ (hA xs c fun _ h=>h) ⟨fun h=>by omega,fun _=>⟨rfl,rfl,rfl,rfl,hC cs _ fun _ h=>h⟩⟩
 ·exact⟨fun h=>by omega,fun h=>by omega⟩
theorem ow_er:∀(d:Nat) (t:Tm) (has:List ByteArray),t.Rt d→t.PlS→(t.ow has).er=t:=by
 intro d;induction d with
 |zero=>intro t _ h;exact h.elim
 |succ d ih=>
 intro t has hR hP;have hself:=er_rt _ t hR;obtain⟨k,n,a,b,vs,xs,cs⟩:=t;obtain⟨hk,hmany,_,hx,hc⟩:=hR;rw[Tm.ow,cnt_er (.inr rfl)];by_cases k3:k=3∨k=4∨k=5
 ·rw[if_pos k3,cnt_er (.inl rfl),hself]
 rw[if_neg k3];by_cases k6:k=6
 ·rw[if_pos k6,cnt_er (.inl rfl)];obtain⟨rfl,rfl,rfl,hxs⟩:=hP.1 k6;subst k6;have hx2:xs.length=2∧cs=[]:=by
   unfold X6 at hmany;simp at hmany;exact hmany
  obtain⟨hx2,rfl⟩:=hx2;obtain⟨x,y,rfl⟩:∃x y,xs=[x,y]:=by
   rcases xs with _|⟨x,_|⟨y,_|⟨z,l⟩⟩⟩
   ·cases hx2
   ·cases hx2
   ·exact⟨x,y,rfl⟩
   ·simp at hx2
  rw[letH,Tm.owZ,List.headD_cons,List.tail_cons,Tm.owZ,List.headD_cons,List.tail_cons,Tm.owZ];rw[Tm.er,erK_small (by omega),if_neg (by simp),Tm.erL,Tm.erL,Tm.erL,Cs.erL,ih x _ (hx x (by simp)) hxs.1,ih y _ (hx y (by simp)) hxs.2.1];rfl
 rw[if_neg k6];by_cases k7:k=7
 ·rw[if_pos k7];obtain⟨rfl,rfl,rfl,rfl,hcs⟩:=hP.2 k7;subst k7;have hC:∀(own:List ByteArray) (nm:ByteArray) (ys:List Cs),(∀y∈ys,y∈cs)→Cs.erL (Cs.owL ys own nm)=ys:=by
   intro own nm ys;induction ys with
   |nil=>intro _;rfl
   |cons y r ih2=>
    intro hm;have hm1:=hm y (List.mem_cons_self ..);have hy:=hc y hm1;have hp:=Cs.PlSs_iff.1 hcs y hm1;obtain⟨t,ws,y⟩:=y;rw[Cs.owL,Cs.erL,Cs.ow,Cs.er,cnt_er (.inl rfl),cnt_er (.inr rfl),ih y _ hy.2 hp,ih2 fun z hz=>hm z (List.mem_cons_of_mem _ hz)]
  have hL:Tm.erL xs=xs:=by
   have:∀ys:List Tm,(∀y∈ys,y∈xs)→Tm.erL ys=ys:=by
    intro ys;induction ys with
    |nil=>intro _;rfl
    |cons y r ih2=>
     intro hm;rw[Tm.erL,er_rt d y (hx y (hm y (List.mem_cons_self ..))),ih2 fun z hz=>hm z (List.mem_cons_of_mem _ hz)]
   exact this xs fun _ h=>h
  rw[Tm.er,erK_small (by omega),if_neg (by simp),hL,hC _ _ cs fun _ h=>h];rfl
 ·rw[if_neg k7,hself]
theorem Fn.ow_er (f:Fn) (hr:f.body.Rt 25):f.pl.ow.body.er=f.pl.body:=Go.Proofs.YtjpldhjgehoffaaGreatDoor.ow_er (7 * 25) f.pl.body f.pl.params (pl_rt 25 _ 0 (f.O6 hr)) (pl_pls 25 _ 0 (f.O6 hr))
end Go.Proofs.YtjpldhjgehoffaaGreatDoor
