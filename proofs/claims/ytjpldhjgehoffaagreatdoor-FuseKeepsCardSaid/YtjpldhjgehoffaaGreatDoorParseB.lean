import Derived.Test.YtjpldhjgehoffaaGreatDoorOwnC
set_option maxRecDepth 20000
set_option maxHeartbeats 16000000
namespace Go.Proofs.YtjpldhjgehoffaaGreatDoor
open Go.RowKit
attribute [local simp] Iz mkRc ldOf stOf stOk Nw Mv Rw Kj V9 Yj Yw J3 Y8 Bz evA Vj Dz Value.oneCell' Zj Q4 Z7 Qx1 U6 Z5 AS.after Zq Kq J8 AV.ids Mj Qz.ids frNo Nv G6 Wj H6 Y1 Y3 Vx U1 U0 Yz toD1 Sw setAt U9 Ij Dj L8 Gz L9 binI AV.cells J4 Jq Gq Wq AV.kill Qz.kill AV.has AV.K6 Op.operands Call.operands Dq Dw Zw Qv2 Zx Xq E8 moQ Mk R4 Yk AV.ren E5 Qz.ren Qz.like kept Zz Mw AV.frz Pz Ik Ak F8 Uk AS.frz Tw Rq Qz.frz Hq Hz bleF Nat.ble_eq G9 G7 Yq D.Y5 N7 R8 Vv Vw phO Ew Dk Gx Uj Kv Low Ex
set_option linter.unusedVariables false
set_option linter.unusedSimpArgs false
theorem tmrl2 (a:Tm):a.row.length=7:=by cases a;simp[Tm.row]
def OdN (N:Nat):Prop:=∀(t:Tm) (has:List ByteArray),t.Rt N→t.Fit→has.length+6 * N≤100000→(∀s∈has,s.size≤140737488355328)→
 Z4 Tryz.prog 61 [X9 t,Zk has] (fun _=>X9 (t.ow has)) none
theorem od_step (N:Nat) (ih:OdN N):OdN (N+1):=by
 intro t has hRt hF hhl hhs;obtain⟨R,hR⟩:∃R,R=t.ow has:=⟨_,rfl⟩
 rw[←hR];obtain⟨rk,rn,ra,rb,rvs,rxs,rcs⟩:=R;have hfr:=Qj4 t hF;have hfl:t.free.length≤1048576:=Nat.le_trans (Tm.H8 t) hF.sz;obtain⟨tk,tn,ta,tb,tvs,txs,tcs⟩:=t;obtain⟨hkk,hmany,h6,hxR,hcR⟩:=hRt;have hxF:∀x∈txs,x.Fit:=fun x hx=>hF.arg hx
 rw[Tm.ow]at hR;generalize(Tm.mk tk tn ta tb tvs txs tcs).free=fr at hfr hfl hR;have hou:=sp_pickO has fr (by omega) (by omega);have hin:=sp_pickI has fr (by omega) (by omega);have hGl:=F5 has fr;have hol:=Rj has fr;have hos:∀s∈inN has fr,s.size≤140737488355328:=fun s hs=>hhs s (List.mem_filter.1 hs).1
 generalize woN has fr=G at hou hGl hR;generalize inN has fr=own at hin hol hos hR;refine Z4.of Tryz.func61 rfl rfl rfl (Nat.le_of_ble_eq_true rfl) ?_;show AWp _ _ (Z8 _ Tryz.f61 _ _ _) (Z7 186 _);refine AWp.rg [] [] ?_ (hr:=by conv=>lhs;simp[Tm.row,Tm.Q3,Cs.Q3]);refine AWp.rg [1] [.p (fun d=>.arr d 0 fr.length) (some (.arr 9 1 (fr.map Z0)))] ?_ (hr:=by conv=>lhs;simp[Tm.row,Tm.Q3,Cs.Q3]);refine AWp.rg [] [.p (fun _=>.d (Q8 G)) none,.p (fun _=>.d (Q8 own)) none] ?_ (hr:=by conv=>lhs;simp[Tm.row,Tm.Q3,Cs.Q3]);refine AWp.rg [] [] ?_ (hr:=by conv=>lhs;simp[Tm.row,Tm.Q3,Cs.Q3]);refine AWp.rg [] [] ?_ (hr:=by conv=>lhs;simp[Tm.row,Tm.Q3,Cs.Q3]);by_cases q1:tk=3
 ·refine AWp.rg [] [] ?_ (hr:=by conv=>lhs;simp[Tm.row,Tm.Q3,Cs.Q3,q1]);refine AWp.cy ?_;refine AWp.skip ?_;refine AWp.cy ?_;subst q1;rw[if_pos (by omega)]at hR;refine AWp.rg [] [] ?_ (hr:=by conv=>lhs;simp[Tm.row,Tm.Q3,Cs.Q3]);refine AWp.rg [] [] ?_ (hr:=by conv=>lhs;simp[Tm.row,Tm.Q3,Cs.Q3]);repeat (first|refine AWp.seq ?_|refine AWp.block ?_)
  refine AWp.le (Le.low [400] [] (fr:=[(2,.ptr 2 0),(4,.ptr 4 0),(6,.d (Q8 G)),(7,.ptr 7 0),(8,.arr 400 0 ([]:List ByteArray).length),(37,.d (.sl (txs.map Tm.row))),(38,.d (.int (txs.length:Int))),(39,.d (.int (0:Int)))]) (mem:=[(2,some (.blk 45 [.d (.int 3),.d (.int tn),.d (.str ta),.d (.str tb),.d (Q8 tvs),.d (.sl (txs.map Tm.row)),.d (.sl (tcs.map Cs.row))])),(4,some (.blk 45 [.d (.int 0),.d (.int 0),.d (.str ByteArray.empty),.d (.str ByteArray.empty),.lit (.slice none 0 0),.lit (.slice none 0 0),.lit (.slice none 0 0)])),(7,some (.blk 45 [.d (.int 3),.d (.int tn),.d (.str ta),.d (.str tb),.d (Q8 tvs),.d (.sl (txs.map Tm.row)),.d (.sl (tcs.map Cs.row))])),(400,some (.arr 9 1 (([]:List ByteArray).map Z0)))]) rfl (by simp) (by simp)) ?_;refine AWp.loop (σ:=fun u:{u:Nat×List ByteArray // u.1≤txs.length∧(R3 [] txs=u.2++R3 ((txs.take u.1).map Tm.nm) (txs.drop u.1)∧u.2.length≤u.1)}=>⟨186,[(2,.ptr 2 0),(4,.ptr 4 0),(6,.d (Q8 G)),(7,.ptr 7 0),(8,.arr 400 0 u.1.2.length),(37,.d (.sl (txs.map Tm.row))),(38,.d (.int (txs.length:Int))),(39,.d (.int (u.1.1:Int)))],[(2,some (.blk 45 [.d (.int 3),.d (.int tn),.d (.str ta),.d (.str tb),.d (Q8 tvs),.d (.sl (txs.map Tm.row)),.d (.sl (tcs.map Cs.row))])),(4,some (.blk 45 [.d (.int 0),.d (.int 0),.d (.str ByteArray.empty),.d (.str ByteArray.empty),.lit (.slice none 0 0),.lit (.slice none 0 0),.lit (.slice none 0 0)])),(7,some (.blk 45 [.d (.int 3),.d (.int tn),.d (.str ta),.d (.str tb),.d (Q8 tvs),.d (.sl (txs.map Tm.row)),.d (.sl (tcs.map Cs.row))])),(400,some (.arr 9 1 (u.1.2.map Z0)))]⟩)
   (μ:=fun u=>txs.length-u.1.1) ⟨(0,[]),⟨Nat.zero_le _,⟨by simp,Nat.le_refl _⟩⟩⟩ (Le.sub (by simp) (by simp)) (fun⟨(i,us),⟨hi10,hw⟩⟩=>?_)
  dsimp only at hi10 hw⊢;refine AWp.rg [] [] ?_ (hr:=by conv=>lhs;simp[Tm.row,Tm.Q3,Cs.Q3]);repeat (first|refine AWp.seq ?_|refine AWp.block ?_)
  refine AWp.cond rfl (fun hc=>?_) (fun hc=>?_)
  ·have hi1:i<txs.length:=by have:=of_decide_eq_true hc;omega
   clear hc;have h1y:txs[i]? =some txs[i]:=List.getElem?_eq_getElem hi1;have hmy:txs[i]∈txs:=List.getElem_mem hi1;have hdy:txs.drop i=txs[i]::txs.drop (i+1):=List.drop_eq_getElem_cons hi1;generalize txs[i]=y at h1y hmy hdy;obtain⟨hap,hul⟩:=hw;rw[hdy,R3]at hap;obtain⟨yk,yn,ya,yb,yvs,yxs,ycs⟩:=y;rw[Tm.nm]at hap;obtain⟨pt,hpt⟩:∃pt,pt=txs.take i:=⟨_,rfl⟩
   have hptl:pt.length=i:=by rw[hpt,List.length_take];omega
   have hpr:List.take i (List.map Tm.row txs)=List.map Tm.row pt:=by rw[hpt,List.map_take]
   rw[←hpt]at hap;have htr:∀(i:Nat) (a:Tm),txs[i]? =some a→a.row.length=7:=fun _ a _=>tmrl2 a
   have hi1o:=hi1;refine AWp.skip ?_;refine AWp.rg [] [] ?_ (hr:=by conv=>lhs;simp[Tm.row,Tm.Q3,Cs.Q3,h1y,hpr]);refine AWp.rg [] [] ?_ (hr:=by conv=>lhs;simp[Tm.row,Tm.Q3,Cs.Q3,h1y,hpr]);repeat (first|refine AWp.seq ?_|refine AWp.block ?_)
   refine AWp.loop (σ:=fun u:{u:Nat // u≤pt.length∧∀z∈pt.take u,z.nm≠ya}=>⟨186,[(2,.ptr 2 0),(4,.ptr 4 0),(6,.d (Q8 G)),(7,.ptr 7 0),(8,.arr 400 0 us.length),(10,.ptr 10 0),(37,.d (.sl (txs.map Tm.row))),(38,.d (.int (txs.length:Int))),(39,.d (.int (i:Int))),(47,.d (.sl (pt.map Tm.row))),(48,.d (.int (pt.length:Int))),(49,.d (.int (u.1:Int)))],[(2,some (.blk 45 [.d (.int 3),.d (.int tn),.d (.str ta),.d (.str tb),.d (Q8 tvs),.d (.sl (txs.map Tm.row)),.d (.sl (tcs.map Cs.row))])),(4,some (.blk 45 [.d (.int 0),.d (.int 0),.d (.str ByteArray.empty),.d (.str ByteArray.empty),.lit (.slice none 0 0),.lit (.slice none 0 0),.lit (.slice none 0 0)])),(7,some (.blk 45 [.d (.int 3),.d (.int tn),.d (.str ta),.d (.str tb),.d (Q8 tvs),.d (.sl (txs.map Tm.row)),.d (.sl (tcs.map Cs.row))])),(10,some (.blk 45 [.d (.int yk),.d (.int yn),.d (.str ya),.d (.str yb),.d (Q8 yvs),.d (.sl (yxs.map Tm.row)),.d (.sl (ycs.map Cs.row))])),(400,some (.arr 9 1 (us.map Z0)))]⟩)
    (μ:=fun u=>pt.length-u.1) ⟨0,⟨Nat.zero_le _,by simp⟩⟩ (Le.sub (by simp) (by simp)) (fun⟨j,⟨hi13,hw2⟩⟩=>?_)
   dsimp only;refine AWp.rg [] [] ?_ (hr:=by conv=>lhs;simp[Tm.row,Tm.Q3,Cs.Q3,h1y,hpr]);repeat (first|refine AWp.seq ?_|refine AWp.block ?_)
   refine AWp.cond rfl (fun hc=>?_) (fun hc=>?_)
   ·have hi1:j<pt.length:=by have:=of_decide_eq_true hc;omega
    clear hc;have h1b:pt[j]? =some pt[j]:=List.getElem?_eq_getElem hi1;have hmb:pt[j]∈pt:=List.getElem_mem hi1;have hdb:pt.drop j=pt[j]::pt.drop (j+1):=List.drop_eq_getElem_cons hi1;generalize pt[j]=b at h1b hmb hdb;obtain⟨bk,bn,ba,bb,bvs,bxs,bcs⟩:=b;refine AWp.skip ?_;refine AWp.rg [] [] ?_ (hr:=by conv=>lhs;simp[Tm.row,Tm.Q3,Cs.Q3,h1y,hpr,h1b]);by_cases q2:ba=ya
    ·refine AWp.rg [] [] ?_ (hr:=by conv=>lhs;simp[Tm.row,Tm.Q3,Cs.Q3,h1y,hpr,h1b,q2]);refine AWp.cy ?_;have hq:hasB (pt.map Tm.nm) ya=true:=X3.2 (List.mem_map.2 ⟨_,hmb,by rw[Tm.nm];exact q2⟩);rw[hq]at hap;simp only[if_true]at hap;refine AWp.rg [] [] ?_ (hr:=by conv=>lhs;simp[Tm.row,Tm.Q3,Cs.Q3,h1y,hpr,h1b,q2]);refine AWp.exit ?_;refine AWp.rg [] [] ?_ (hr:=by conv=>lhs;simp[Tm.row,Tm.Q3,Cs.Q3,h1y,hpr,h1b,q2]);have hi1:=hi1o;refine⟨⟨(i+1,us++[ya]),hi1,⟨by rw[hap,List.take_add_one,h1y,List.map_append,←hpt];simp[Tm.nm],by dsimp only;first|omega|(simp;omega)⟩⟩,by simp;omega,?_⟩;dsimp only;exact Le.sub (by simp) (by simp)
    refine AWp.rg [] [] ?_ (hr:=by conv=>lhs;simp[Tm.row,Tm.Q3,Cs.Q3,h1y,hpr,h1b,q2]);refine AWp.cn ?_;refine AWp.skip ?_;refine AWp.rg [] [] ?_ (hr:=by conv=>lhs;simp[Tm.row,Tm.Q3,Cs.Q3,h1y,hpr,h1b,q2]);refine⟨⟨j+1,hi1,(fun z hz=>by rw[List.take_add_one,h1b]at hz;rcases List.mem_append.1 hz with hz|hz;exact hw2 z hz;rw[List.mem_singleton.1 hz,Tm.nm];exact q2)⟩,by simp;omega,?_⟩;dsimp only;exact Le.sub (by simp) (by simp)
   have hi1:j=pt.length:=by have:=of_decide_eq_false hc;omega
   subst hi1;clear hc;rw[List.take_length]at hw2;have hq:hasB (pt.map Tm.nm) ya=false:=H7.2 fun h=>by
    obtain⟨z,hz,e⟩:=List.mem_map.1 h;exact hw2 z hz e
   rw[hq]at hap;simp only[Bool.false_eq_true,if_false]at hap;refine AWp.exit ?_;refine AWp.rg [] [] ?_ (hr:=by conv=>lhs;simp[Tm.row,Tm.Q3,Cs.Q3,h1y,hpr]);have hi1:=hi1o;refine⟨⟨(i+1,us),hi1,⟨by rw[hap,List.take_add_one,h1y,List.map_append,←hpt];simp[Tm.nm],by dsimp only;first|omega|(simp;omega)⟩⟩,by simp;omega,?_⟩;dsimp only;exact Le.sub (by simp) (by simp)
  have hi1:i=txs.length:=by have:=of_decide_eq_false hc;omega
  subst hi1;clear hc;obtain⟨hap,hul⟩:=hw;rw[List.drop_length,R3,List.append_nil]at hap;refine AWp.exit ?_;apply AWp.Uk [400]
  ·conv=>lhs;simp
  have hml:=Qz6 txs [];rw[hap]at hR hml;have hd:=Ww 8 us 3 tn ta tb tvs txs tcs (by omega);generalize cnt 8 us (.mk 3 tn ta tb tvs txs tcs)=e at hd hR;obtain⟨ek,en,ea,eb,evs,exs,ecs⟩:=e;have hg:=Ww 9 G ek en ea eb evs exs ecs (by omega);generalize cnt 9 G (.mk ek en ea eb evs exs ecs)=r at hg hR;subst hR;refine AWp.rg [] [.p (fun _=>.agg [.d (.int ek),.d (.int en),.d (.str ea),.d (.str eb),.d (Q8 evs),.d (.sl (exs.map Tm.row)),.d (.sl (ecs.map Cs.row))]) none] ?_ (hr:=by conv=>lhs;simp[Tm.row,Tm.Q3,Cs.Q3]);refine AWp.rg [] [.p (fun _=>.agg [.d (.int rk),.d (.int rn),.d (.str ra),.d (.str rb),.d (Q8 rvs),.d (.sl (rxs.map Tm.row)),.d (.sl (rcs.map Cs.row))]) none] ?_ (hr:=by conv=>lhs;simp[Tm.row,Tm.Q3,Cs.Q3]);refine AWp.ret ?_;try dsimp only[Qq,Q6]
  apply Z8.ret
  ·rfl
  ·conv=>lhs;simp[Q9,Tryz.results61]
  first|rfl|simp[Z6,X9,Tm.row,Tm.Q3,Cs.Q3,AV.Xk,K4,Q8]
 refine AWp.rg [] [] ?_ (hr:=by conv=>lhs;simp[Tm.row,Tm.Q3,Cs.Q3,q1]);refine AWp.cn ?_;by_cases q3:tk=4
 ·refine AWp.rg [] [] ?_ (hr:=by conv=>lhs;simp[Tm.row,Tm.Q3,Cs.Q3,q1,q3]);refine AWp.cy ?_;refine AWp.skip ?_;refine AWp.cy ?_;subst q3;rw[if_pos (by omega)]at hR;refine AWp.rg [] [] ?_ (hr:=by conv=>lhs;simp[Tm.row,Tm.Q3,Cs.Q3,q1]);refine AWp.rg [] [] ?_ (hr:=by conv=>lhs;simp[Tm.row,Tm.Q3,Cs.Q3,q1]);repeat (first|refine AWp.seq ?_|refine AWp.block ?_)
  refine AWp.le (Le.low [400] [] (fr:=[(2,.ptr 2 0),(4,.ptr 4 0),(6,.d (Q8 G)),(7,.ptr 7 0),(8,.arr 400 0 ([]:List ByteArray).length),(37,.d (.sl (txs.map Tm.row))),(38,.d (.int (txs.length:Int))),(39,.d (.int (0:Int)))]) (mem:=[(2,some (.blk 45 [.d (.int 4),.d (.int tn),.d (.str ta),.d (.str tb),.d (Q8 tvs),.d (.sl (txs.map Tm.row)),.d (.sl (tcs.map Cs.row))])),(4,some (.blk 45 [.d (.int 0),.d (.int 0),.d (.str ByteArray.empty),.d (.str ByteArray.empty),.lit (.slice none 0 0),.lit (.slice none 0 0),.lit (.slice none 0 0)])),(7,some (.blk 45 [.d (.int 4),.d (.int tn),.d (.str ta),.d (.str tb),.d (Q8 tvs),.d (.sl (txs.map Tm.row)),.d (.sl (tcs.map Cs.row))])),(400,some (.arr 9 1 (([]:List ByteArray).map Z0)))]) rfl (by simp) (by simp)) ?_;refine AWp.loop (σ:=fun u:{u:Nat×List ByteArray // u.1≤txs.length∧(R3 [] txs=u.2++R3 ((txs.take u.1).map Tm.nm) (txs.drop u.1)∧u.2.length≤u.1)}=>⟨186,[(2,.ptr 2 0),(4,.ptr 4 0),(6,.d (Q8 G)),(7,.ptr 7 0),(8,.arr 400 0 u.1.2.length),(37,.d (.sl (txs.map Tm.row))),(38,.d (.int (txs.length:Int))),(39,.d (.int (u.1.1:Int)))],[(2,some (.blk 45 [.d (.int 4),.d (.int tn),.d (.str ta),.d (.str tb),.d (Q8 tvs),.d (.sl (txs.map Tm.row)),.d (.sl (tcs.map Cs.row))])),(4,some (.blk 45 [.d (.int 0),.d (.int 0),.d (.str ByteArray.empty),.d (.str ByteArray.empty),.lit (.slice none 0 0),.lit (.slice none 0 0),.lit (.slice none 0 0)])),(7,some (.blk 45 [.d (.int 4),.d (.int tn),.d (.str ta),.d (.str tb),.d (Q8 tvs),.d (.sl (txs.map Tm.row)),.d (.sl (tcs.map Cs.row))])),(400,some (.arr 9 1 (u.1.2.map Z0)))]⟩)
   (μ:=fun u=>txs.length-u.1.1) ⟨(0,[]),⟨Nat.zero_le _,⟨by simp,Nat.le_refl _⟩⟩⟩ (Le.sub (by simp) (by simp)) (fun⟨(i,us),⟨hi10,hw⟩⟩=>?_)
  dsimp only at hi10 hw⊢;refine AWp.rg [] [] ?_ (hr:=by conv=>lhs;simp[Tm.row,Tm.Q3,Cs.Q3,q1]);repeat (first|refine AWp.seq ?_|refine AWp.block ?_)
  refine AWp.cond rfl (fun hc=>?_) (fun hc=>?_)
  ·have hi1:i<txs.length:=by have:=of_decide_eq_true hc;omega
   clear hc;have h1y:txs[i]? =some txs[i]:=List.getElem?_eq_getElem hi1;have hmy:txs[i]∈txs:=List.getElem_mem hi1;have hdy:txs.drop i=txs[i]::txs.drop (i+1):=List.drop_eq_getElem_cons hi1;generalize txs[i]=y at h1y hmy hdy;obtain⟨hap,hul⟩:=hw;rw[hdy,R3]at hap;obtain⟨yk,yn,ya,yb,yvs,yxs,ycs⟩:=y;rw[Tm.nm]at hap;obtain⟨pt,hpt⟩:∃pt,pt=txs.take i:=⟨_,rfl⟩
   have hptl:pt.length=i:=by rw[hpt,List.length_take];omega
   have hpr:List.take i (List.map Tm.row txs)=List.map Tm.row pt:=by rw[hpt,List.map_take]
   rw[←hpt]at hap;have htr:∀(i:Nat) (a:Tm),txs[i]? =some a→a.row.length=7:=fun _ a _=>tmrl2 a
   have hi1o:=hi1;refine AWp.skip ?_;refine AWp.rg [] [] ?_ (hr:=by conv=>lhs;simp[Tm.row,Tm.Q3,Cs.Q3,h1y,hpr,q1]);refine AWp.rg [] [] ?_ (hr:=by conv=>lhs;simp[Tm.row,Tm.Q3,Cs.Q3,h1y,hpr,q1]);repeat (first|refine AWp.seq ?_|refine AWp.block ?_)
   refine AWp.loop (σ:=fun u:{u:Nat // u≤pt.length∧∀z∈pt.take u,z.nm≠ya}=>⟨186,[(2,.ptr 2 0),(4,.ptr 4 0),(6,.d (Q8 G)),(7,.ptr 7 0),(8,.arr 400 0 us.length),(10,.ptr 10 0),(37,.d (.sl (txs.map Tm.row))),(38,.d (.int (txs.length:Int))),(39,.d (.int (i:Int))),(47,.d (.sl (pt.map Tm.row))),(48,.d (.int (pt.length:Int))),(49,.d (.int (u.1:Int)))],[(2,some (.blk 45 [.d (.int 4),.d (.int tn),.d (.str ta),.d (.str tb),.d (Q8 tvs),.d (.sl (txs.map Tm.row)),.d (.sl (tcs.map Cs.row))])),(4,some (.blk 45 [.d (.int 0),.d (.int 0),.d (.str ByteArray.empty),.d (.str ByteArray.empty),.lit (.slice none 0 0),.lit (.slice none 0 0),.lit (.slice none 0 0)])),(7,some (.blk 45 [.d (.int 4),.d (.int tn),.d (.str ta),.d (.str tb),.d (Q8 tvs),.d (.sl (txs.map Tm.row)),.d (.sl (tcs.map Cs.row))])),(10,some (.blk 45 [.d (.int yk),.d (.int yn),.d (.str ya),.d (.str yb),.d (Q8 yvs),.d (.sl (yxs.map Tm.row)),.d (.sl (ycs.map Cs.row))])),(400,some (.arr 9 1 (us.map Z0)))]⟩)
    (μ:=fun u=>pt.length-u.1) ⟨0,⟨Nat.zero_le _,by simp⟩⟩ (Le.sub (by simp) (by simp)) (fun⟨j,⟨hi13,hw2⟩⟩=>?_)
   dsimp only;refine AWp.rg [] [] ?_ (hr:=by conv=>lhs;simp[Tm.row,Tm.Q3,Cs.Q3,h1y,hpr,q1]);repeat (first|refine AWp.seq ?_|refine AWp.block ?_)
   refine AWp.cond rfl (fun hc=>?_) (fun hc=>?_)
   ·have hi1:j<pt.length:=by have:=of_decide_eq_true hc;omega
    clear hc;have h1b:pt[j]? =some pt[j]:=List.getElem?_eq_getElem hi1;have hmb:pt[j]∈pt:=List.getElem_mem hi1;have hdb:pt.drop j=pt[j]::pt.drop (j+1):=List.drop_eq_getElem_cons hi1;generalize pt[j]=b at h1b hmb hdb;obtain⟨bk,bn,ba,bb,bvs,bxs,bcs⟩:=b;refine AWp.skip ?_;refine AWp.rg [] [] ?_ (hr:=by conv=>lhs;simp[Tm.row,Tm.Q3,Cs.Q3,h1y,hpr,h1b,q1]);by_cases q4:ba=ya
    ·refine AWp.rg [] [] ?_ (hr:=by conv=>lhs;simp[Tm.row,Tm.Q3,Cs.Q3,h1y,hpr,h1b,q1,q4]);refine AWp.cy ?_;have hq:hasB (pt.map Tm.nm) ya=true:=X3.2 (List.mem_map.2 ⟨_,hmb,by rw[Tm.nm];exact q4⟩);rw[hq]at hap;simp only[if_true]at hap;refine AWp.rg [] [] ?_ (hr:=by conv=>lhs;simp[Tm.row,Tm.Q3,Cs.Q3,h1y,hpr,h1b,q1,q4]);refine AWp.exit ?_;refine AWp.rg [] [] ?_ (hr:=by conv=>lhs;simp[Tm.row,Tm.Q3,Cs.Q3,h1y,hpr,h1b,q1,q4]);have hi1:=hi1o;refine⟨⟨(i+1,us++[ya]),hi1,⟨by rw[hap,List.take_add_one,h1y,List.map_append,←hpt];simp[Tm.nm],by dsimp only;first|omega|(simp;omega)⟩⟩,by simp;omega,?_⟩;dsimp only;exact Le.sub (by simp) (by simp)
    refine AWp.rg [] [] ?_ (hr:=by conv=>lhs;simp[Tm.row,Tm.Q3,Cs.Q3,h1y,hpr,h1b,q1,q4]);refine AWp.cn ?_;refine AWp.skip ?_;refine AWp.rg [] [] ?_ (hr:=by conv=>lhs;simp[Tm.row,Tm.Q3,Cs.Q3,h1y,hpr,h1b,q1,q4]);refine⟨⟨j+1,hi1,(fun z hz=>by rw[List.take_add_one,h1b]at hz;rcases List.mem_append.1 hz with hz|hz;exact hw2 z hz;rw[List.mem_singleton.1 hz,Tm.nm];exact q4)⟩,by simp;omega,?_⟩;dsimp only;exact Le.sub (by simp) (by simp)
   have hi1:j=pt.length:=by have:=of_decide_eq_false hc;omega
   subst hi1;clear hc;rw[List.take_length]at hw2;have hq:hasB (pt.map Tm.nm) ya=false:=H7.2 fun h=>by
    obtain⟨z,hz,e⟩:=List.mem_map.1 h;exact hw2 z hz e
   rw[hq]at hap;simp only[Bool.false_eq_true,if_false]at hap;refine AWp.exit ?_;refine AWp.rg [] [] ?_ (hr:=by conv=>lhs;simp[Tm.row,Tm.Q3,Cs.Q3,h1y,hpr,q1]);have hi1:=hi1o;refine⟨⟨(i+1,us),hi1,⟨by rw[hap,List.take_add_one,h1y,List.map_append,←hpt];simp[Tm.nm],by dsimp only;first|omega|(simp;omega)⟩⟩,by simp;omega,?_⟩;dsimp only;exact Le.sub (by simp) (by simp)
  have hi1:i=txs.length:=by have:=of_decide_eq_false hc;omega
  subst hi1;clear hc;obtain⟨hap,hul⟩:=hw;rw[List.drop_length,R3,List.append_nil]at hap;refine AWp.exit ?_;apply AWp.Uk [400]
  ·conv=>lhs;simp
  have hml:=Qz6 txs [];rw[hap]at hR hml;have hd:=Ww 8 us 4 tn ta tb tvs txs tcs (by omega);generalize cnt 8 us (.mk 4 tn ta tb tvs txs tcs)=e at hd hR;obtain⟨ek,en,ea,eb,evs,exs,ecs⟩:=e;have hg:=Ww 9 G ek en ea eb evs exs ecs (by omega);generalize cnt 9 G (.mk ek en ea eb evs exs ecs)=r at hg hR;subst hR;refine AWp.rg [] [.p (fun _=>.agg [.d (.int ek),.d (.int en),.d (.str ea),.d (.str eb),.d (Q8 evs),.d (.sl (exs.map Tm.row)),.d (.sl (ecs.map Cs.row))]) none] ?_ (hr:=by conv=>lhs;simp[Tm.row,Tm.Q3,Cs.Q3,q1]);refine AWp.rg [] [.p (fun _=>.agg [.d (.int rk),.d (.int rn),.d (.str ra),.d (.str rb),.d (Q8 rvs),.d (.sl (rxs.map Tm.row)),.d (.sl (rcs.map Cs.row))]) none] ?_ (hr:=by conv=>lhs;simp[Tm.row,Tm.Q3,Cs.Q3,q1]);refine AWp.ret ?_;try dsimp only[Qq,Q6]
  apply Z8.ret
  ·rfl
  ·conv=>lhs;simp[Q9,Tryz.results61]
  first|rfl|simp[Z6,X9,Tm.row,Tm.Q3,Cs.Q3,AV.Xk,K4,Q8]
 refine AWp.rg [] [] ?_ (hr:=by conv=>lhs;simp[Tm.row,Tm.Q3,Cs.Q3,q1,q3]);refine AWp.cn ?_;by_cases q5:tk=5
 ·refine AWp.rg [] [] ?_ (hr:=by conv=>lhs;simp[Tm.row,Tm.Q3,Cs.Q3,q1,q3,q5]);refine AWp.cy ?_;subst q5;rw[if_pos (by omega)]at hR;refine AWp.rg [] [] ?_ (hr:=by conv=>lhs;simp[Tm.row,Tm.Q3,Cs.Q3,q1,q3]);refine AWp.rg [] [] ?_ (hr:=by conv=>lhs;simp[Tm.row,Tm.Q3,Cs.Q3,q1,q3]);repeat (first|refine AWp.seq ?_|refine AWp.block ?_)
  refine AWp.le (Le.low [400] [] (fr:=[(2,.ptr 2 0),(4,.ptr 4 0),(6,.d (Q8 G)),(7,.ptr 7 0),(8,.arr 400 0 ([]:List ByteArray).length),(37,.d (.sl (txs.map Tm.row))),(38,.d (.int (txs.length:Int))),(39,.d (.int (0:Int)))]) (mem:=[(2,some (.blk 45 [.d (.int 5),.d (.int tn),.d (.str ta),.d (.str tb),.d (Q8 tvs),.d (.sl (txs.map Tm.row)),.d (.sl (tcs.map Cs.row))])),(4,some (.blk 45 [.d (.int 0),.d (.int 0),.d (.str ByteArray.empty),.d (.str ByteArray.empty),.lit (.slice none 0 0),.lit (.slice none 0 0),.lit (.slice none 0 0)])),(7,some (.blk 45 [.d (.int 5),.d (.int tn),.d (.str ta),.d (.str tb),.d (Q8 tvs),.d (.sl (txs.map Tm.row)),.d (.sl (tcs.map Cs.row))])),(400,some (.arr 9 1 (([]:List ByteArray).map Z0)))]) rfl (by simp) (by simp)) ?_;refine AWp.loop (σ:=fun u:{u:Nat×List ByteArray // u.1≤txs.length∧(R3 [] txs=u.2++R3 ((txs.take u.1).map Tm.nm) (txs.drop u.1)∧u.2.length≤u.1)}=>⟨186,[(2,.ptr 2 0),(4,.ptr 4 0),(6,.d (Q8 G)),(7,.ptr 7 0),(8,.arr 400 0 u.1.2.length),(37,.d (.sl (txs.map Tm.row))),(38,.d (.int (txs.length:Int))),(39,.d (.int (u.1.1:Int)))],[(2,some (.blk 45 [.d (.int 5),.d (.int tn),.d (.str ta),.d (.str tb),.d (Q8 tvs),.d (.sl (txs.map Tm.row)),.d (.sl (tcs.map Cs.row))])),(4,some (.blk 45 [.d (.int 0),.d (.int 0),.d (.str ByteArray.empty),.d (.str ByteArray.empty),.lit (.slice none 0 0),.lit (.slice none 0 0),.lit (.slice none 0 0)])),(7,some (.blk 45 [.d (.int 5),.d (.int tn),.d (.str ta),.d (.str tb),.d (Q8 tvs),.d (.sl (txs.map Tm.row)),.d (.sl (tcs.map Cs.row))])),(400,some (.arr 9 1 (u.1.2.map Z0)))]⟩)
   (μ:=fun u=>txs.length-u.1.1) ⟨(0,[]),⟨Nat.zero_le _,⟨by simp,Nat.le_refl _⟩⟩⟩ (Le.sub (by simp) (by simp)) (fun⟨(i,us),⟨hi10,hw⟩⟩=>?_)
  dsimp only at hi10 hw⊢;refine AWp.rg [] [] ?_ (hr:=by conv=>lhs;simp[Tm.row,Tm.Q3,Cs.Q3,q1,q3]);repeat (first|refine AWp.seq ?_|refine AWp.block ?_)
  refine AWp.cond rfl (fun hc=>?_) (fun hc=>?_)
  ·have hi1:i<txs.length:=by have:=of_decide_eq_true hc;omega
   clear hc;have h1y:txs[i]? =some txs[i]:=List.getElem?_eq_getElem hi1;have hmy:txs[i]∈txs:=List.getElem_mem hi1;have hdy:txs.drop i=txs[i]::txs.drop (i+1):=List.drop_eq_getElem_cons hi1;generalize txs[i]=y at h1y hmy hdy;obtain⟨hap,hul⟩:=hw;rw[hdy,R3]at hap;obtain⟨yk,yn,ya,yb,yvs,yxs,ycs⟩:=y;rw[Tm.nm]at hap;obtain⟨pt,hpt⟩:∃pt,pt=txs.take i:=⟨_,rfl⟩
   have hptl:pt.length=i:=by rw[hpt,List.length_take];omega
   have hpr:List.take i (List.map Tm.row txs)=List.map Tm.row pt:=by rw[hpt,List.map_take]
   rw[←hpt]at hap;have htr:∀(i:Nat) (a:Tm),txs[i]? =some a→a.row.length=7:=fun _ a _=>tmrl2 a
   have hi1o:=hi1;refine AWp.skip ?_;refine AWp.rg [] [] ?_ (hr:=by conv=>lhs;simp[Tm.row,Tm.Q3,Cs.Q3,h1y,hpr,q1,q3]);refine AWp.rg [] [] ?_ (hr:=by conv=>lhs;simp[Tm.row,Tm.Q3,Cs.Q3,h1y,hpr,q1,q3]);repeat (first|refine AWp.seq ?_|refine AWp.block ?_)
   refine AWp.loop (σ:=fun u:{u:Nat // u≤pt.length∧∀z∈pt.take u,z.nm≠ya}=>⟨186,[(2,.ptr 2 0),(4,.ptr 4 0),(6,.d (Q8 G)),(7,.ptr 7 0),(8,.arr 400 0 us.length),(10,.ptr 10 0),(37,.d (.sl (txs.map Tm.row))),(38,.d (.int (txs.length:Int))),(39,.d (.int (i:Int))),(47,.d (.sl (pt.map Tm.row))),(48,.d (.int (pt.length:Int))),(49,.d (.int (u.1:Int)))],[(2,some (.blk 45 [.d (.int 5),.d (.int tn),.d (.str ta),.d (.str tb),.d (Q8 tvs),.d (.sl (txs.map Tm.row)),.d (.sl (tcs.map Cs.row))])),(4,some (.blk 45 [.d (.int 0),.d (.int 0),.d (.str ByteArray.empty),.d (.str ByteArray.empty),.lit (.slice none 0 0),.lit (.slice none 0 0),.lit (.slice none 0 0)])),(7,some (.blk 45 [.d (.int 5),.d (.int tn),.d (.str ta),.d (.str tb),.d (Q8 tvs),.d (.sl (txs.map Tm.row)),.d (.sl (tcs.map Cs.row))])),(10,some (.blk 45 [.d (.int yk),.d (.int yn),.d (.str ya),.d (.str yb),.d (Q8 yvs),.d (.sl (yxs.map Tm.row)),.d (.sl (ycs.map Cs.row))])),(400,some (.arr 9 1 (us.map Z0)))]⟩)
    (μ:=fun u=>pt.length-u.1) ⟨0,⟨Nat.zero_le _,by simp⟩⟩ (Le.sub (by simp) (by simp)) (fun⟨j,⟨hi13,hw2⟩⟩=>?_)
   dsimp only;refine AWp.rg [] [] ?_ (hr:=by conv=>lhs;simp[Tm.row,Tm.Q3,Cs.Q3,h1y,hpr,q1,q3]);repeat (first|refine AWp.seq ?_|refine AWp.block ?_)
   refine AWp.cond rfl (fun hc=>?_) (fun hc=>?_)
   ·have hi1:j<pt.length:=by have:=of_decide_eq_true hc;omega
    clear hc;have h1b:pt[j]? =some pt[j]:=List.getElem?_eq_getElem hi1;have hmb:pt[j]∈pt:=List.getElem_mem hi1;have hdb:pt.drop j=pt[j]::pt.drop (j+1):=List.drop_eq_getElem_cons hi1;generalize pt[j]=b at h1b hmb hdb;obtain⟨bk,bn,ba,bb,bvs,bxs,bcs⟩:=b;refine AWp.skip ?_;refine AWp.rg [] [] ?_ (hr:=by conv=>lhs;simp[Tm.row,Tm.Q3,Cs.Q3,h1y,hpr,h1b,q1,q3]);by_cases q6:ba=ya
    ·refine AWp.rg [] [] ?_ (hr:=by conv=>lhs;simp[Tm.row,Tm.Q3,Cs.Q3,h1y,hpr,h1b,q1,q3,q6]);refine AWp.cy ?_;have hq:hasB (pt.map Tm.nm) ya=true:=X3.2 (List.mem_map.2 ⟨_,hmb,by rw[Tm.nm];exact q6⟩);rw[hq]at hap;simp only[if_true]at hap;refine AWp.rg [] [] ?_ (hr:=by conv=>lhs;simp[Tm.row,Tm.Q3,Cs.Q3,h1y,hpr,h1b,q1,q3,q6]);refine AWp.exit ?_;refine AWp.rg [] [] ?_ (hr:=by conv=>lhs;simp[Tm.row,Tm.Q3,Cs.Q3,h1y,hpr,h1b,q1,q3,q6]);have hi1:=hi1o;refine⟨⟨(i+1,us++[ya]),hi1,⟨by rw[hap,List.take_add_one,h1y,List.map_append,←hpt];simp[Tm.nm],by dsimp only;first|omega|(simp;omega)⟩⟩,by simp;omega,?_⟩;dsimp only;exact Le.sub (by simp) (by simp)
    refine AWp.rg [] [] ?_ (hr:=by conv=>lhs;simp[Tm.row,Tm.Q3,Cs.Q3,h1y,hpr,h1b,q1,q3,q6]);refine AWp.cn ?_;refine AWp.skip ?_;refine AWp.rg [] [] ?_ (hr:=by conv=>lhs;simp[Tm.row,Tm.Q3,Cs.Q3,h1y,hpr,h1b,q1,q3,q6]);refine⟨⟨j+1,hi1,(fun z hz=>by rw[List.take_add_one,h1b]at hz;rcases List.mem_append.1 hz with hz|hz;exact hw2 z hz;rw[List.mem_singleton.1 hz,Tm.nm];exact q6)⟩,by simp;omega,?_⟩;dsimp only;exact Le.sub (by simp) (by simp)
   have hi1:j=pt.length:=by have:=of_decide_eq_false hc;omega
   subst hi1;clear hc;rw[List.take_length]at hw2;have hq:hasB (pt.map Tm.nm) ya=false:=H7.2 fun h=>by
    obtain⟨z,hz,e⟩:=List.mem_map.1 h;exact hw2 z hz e
   rw[hq]at hap;simp only[Bool.false_eq_true,if_false]at hap;refine AWp.exit ?_;refine AWp.rg [] [] ?_ (hr:=by conv=>lhs;simp[Tm.row,Tm.Q3,Cs.Q3,h1y,hpr,q1,q3]);have hi1:=hi1o;refine⟨⟨(i+1,us),hi1,⟨by rw[hap,List.take_add_one,h1y,List.map_append,←hpt];simp[Tm.nm],by dsimp only;first|omega|(simp;omega)⟩⟩,by simp;omega,?_⟩;dsimp only;exact Le.sub (by simp) (by simp)
  have hi1:i=txs.length:=by have:=of_decide_eq_false hc;omega
  subst hi1;clear hc;obtain⟨hap,hul⟩:=hw;rw[List.drop_length,R3,List.append_nil]at hap;refine AWp.exit ?_;apply AWp.Uk [400]
  ·conv=>lhs;simp
  have hml:=Qz6 txs [];rw[hap]at hR hml;have hd:=Ww 8 us 5 tn ta tb tvs txs tcs (by omega);generalize cnt 8 us (.mk 5 tn ta tb tvs txs tcs)=e at hd hR;obtain⟨ek,en,ea,eb,evs,exs,ecs⟩:=e;have hg:=Ww 9 G ek en ea eb evs exs ecs (by omega);generalize cnt 9 G (.mk ek en ea eb evs exs ecs)=r at hg hR;subst hR;refine AWp.rg [] [.p (fun _=>.agg [.d (.int ek),.d (.int en),.d (.str ea),.d (.str eb),.d (Q8 evs),.d (.sl (exs.map Tm.row)),.d (.sl (ecs.map Cs.row))]) none] ?_ (hr:=by conv=>lhs;simp[Tm.row,Tm.Q3,Cs.Q3,q1,q3]);refine AWp.rg [] [.p (fun _=>.agg [.d (.int rk),.d (.int rn),.d (.str ra),.d (.str rb),.d (Q8 rvs),.d (.sl (rxs.map Tm.row)),.d (.sl (rcs.map Cs.row))]) none] ?_ (hr:=by conv=>lhs;simp[Tm.row,Tm.Q3,Cs.Q3,q1,q3]);refine AWp.ret ?_;try dsimp only[Qq,Q6]
  apply Z8.ret
  ·rfl
  ·conv=>lhs;simp[Q9,Tryz.results61]
  first|rfl|simp[Z6,X9,Tm.row,Tm.Q3,Cs.Q3,AV.Xk,K4,Q8]
 refine AWp.rg [] [] ?_ (hr:=by conv=>lhs;simp[Tm.row,Tm.Q3,Cs.Q3,q1,q3,q5]);refine AWp.cn ?_;by_cases q7:tk=6
 ·refine AWp.rg [] [] ?_ (hr:=by conv=>lhs;simp[Tm.row,Tm.Q3,Cs.Q3,q1,q3,q5,q7]);refine AWp.cy ?_;subst q7;have hx2:txs.length=2∧tcs=[]:=by
   unfold X6 at hmany;simp at hmany;exact hmany
  obtain⟨hx2,rfl⟩:=hx2;obtain⟨x,y,rfl⟩:∃x y,txs=[x,y]:=by
   rcases txs with _|⟨x,_|⟨y,_|⟨z,l⟩⟩⟩
   ·cases hx2
   ·cases hx2
   ·exact⟨x,y,rfl⟩
   ·simp at hx2
  rw[if_neg (by omega),if_pos rfl,letD,letH,Tm.owZ,List.headD_cons,List.tail_cons,Tm.owZ,List.headD_cons,List.tail_cons,Tm.owZ]at hR;have hxFt:=hxF x (by simp);have hyFt:=hxF y (by simp);have hfx:=Qj4 x hxFt;have hfy:=Qj4 y hyFt;have hxl:x.free.length≤1048576:=Nat.le_trans (Tm.H8 x) hxFt.sz;have hyl:y.free.length≤1048576:=Nat.le_trans (Tm.H8 y) hyFt.sz;have hzx:=ih x (inN own x.free) (hxR x (by simp)) hxFt (by have:=Rj own x.free;omega) (fun s hs=>hos s (List.mem_filter.1 hs).1);have hzy:=ih y (inN own (woN y.free [ta])++[ta]) (hxR y (by simp)) hyFt (by have:=Rj own (woN y.free [ta]);simp;omega) (fun s hs=>(List.mem_append.1 hs).elim (fun h=>hos s (List.mem_filter.1 h).1) fun h=>by rw[List.mem_singleton.1 h];exact hF.ok.1.1);generalize x.free=xf at hfx hxl hzx hR;generalize y.free=yf at hfy hyl hzy hR;have hp1:=sp_pickI own xf (by omega) (by omega);have hp2:=sp_pickI own yf (by omega) (by omega);have hP2:=Rj own yf;have hp3:Z4 Tryz.prog 95 [Zk (inN own yf),.d (.sl [[.str ta]]),.d (.bool false)] (fun _=>Zk (inN own (woN yf [ta]))) none:=by
   rw[←inN_woN];exact sp_pickO (inN own yf) [ta] (by omega) (by simp)
  have hI1:=Rj own xf;have hI2:=Rj own (woN yf [ta]);have hp4:Z4 Tryz.prog 95 [Zk (inN own xf),Zk (inN own (woN yf [ta])),.d (.bool true)] (fun _=>Zk (inN (inN own xf) (woN yf [ta]))) none:=by
   have h:=sp_pickI (inN own xf) (inN own (woN yf [ta])) (by omega) (by omega)
   rwa [inN_inN]at h
  have hI3:=Rj (inN own xf) (woN yf [ta]);generalize inN (inN own xf) (woN yf [ta])=I3 at hp4 hI3 hR;generalize inN own xf=I1 at hp1 hp4 hI1 hI3 hzx hR;generalize inN own yf=P2 at hp2 hp3 hP2;generalize inN own (woN yf [ta])=I2 at hp3 hp4 hI2 hzy hR;obtain⟨A2,hA⟩:∃A,A=I2++[ta]:=⟨_,rfl⟩
  rw[←hA]at hzy hR;have hA2:List.take (I2.length+1) (List.map Z0 I2++[[D.str ta]])=List.map Z0 A2:=by rw[hA,List.map_append,List.take_of_length_le (by simp)];rfl
  have hA2l:A2.length=I2.length+1:=by rw[hA];simp
  generalize x.ow I1=z at hzx hR;generalize y.ow A2=u at hzy hR;obtain⟨xk,xn,xa,xb,xvs,xxs,xcs⟩:=x;obtain⟨yk,yn,ya,yb,yvs,yxs,ycs⟩:=y;obtain⟨zk,zn,za,zb,zvs,zxs,zcs⟩:=z;obtain⟨uk,un,ua,ub,uvs,uxs,ucs⟩:=u;have hdu:=Ww 8 I3 6 0 ta .empty [] [.mk zk zn za zb zvs zxs zcs,.mk uk un ua ub uvs uxs ucs] [] (by omega);generalize cnt 8 I3 (.mk 6 0 ta .empty [] [.mk zk zn za zb zvs zxs zcs,.mk uk un ua ub uvs uxs ucs] [])=e at hdu hR;obtain⟨ek,en,ea,eb,evs,exs,ecs⟩:=e;replace hdu:Z4 Tryz.prog 96 [.d (.int 8),Zk I3,.agg [.d (.int 6),.d (.int 0),.d (.str ta),.d (.str .empty),.d (.sl []),.d (.sl [[.int zk,.int zn,.str za,.str zb,Q8 zvs,.sl (zxs.map Tm.row),.sl (zcs.map Cs.row)],[.int uk,.int un,.str ua,.str ub,Q8 uvs,.sl (uxs.map Tm.row),.sl (ucs.map Cs.row)]]),.d (.sl [])]] (fun _=>X9 (.mk ek en ea eb evs exs ecs)) none:=by
   simpa only[X9,Q8,List.map_cons,List.map_nil,Tm.row,Tm.Q3,Cs.Q3]using hdu
  have hg:=Ww 9 G ek en ea eb evs exs ecs (by omega);generalize cnt 9 G (.mk ek en ea eb evs exs ecs)=r at hg hR;subst hR;refine AWp.dw [5,12,16] [.p (fun d=>.arr d 0 xf.length) (some (.arr 9 1 (xf.map Z0))),.p (fun _=>.d (Q8 I1)) none,.p (fun d=>.arr d 0 yf.length) (some (.arr 9 1 (yf.map Z0))),.p (fun _=>.d (Q8 P2)) none,.p (fun _=>.d (Q8 I2)) none] mixed ?_ (hr:=by conv=>lhs;simp[Tm.row,Tm.Q3,Cs.Q3,q1,q3,q5]);refine AWp.dw [18,20] [.p (fun _=>.agg [.d (.int zk),.d (.int zn),.d (.str za),.d (.str zb),.d (Q8 zvs),.d (.sl (zxs.map Tm.row)),.d (.sl (zcs.map Cs.row))]) none,.p (fun _=>.agg [.d (.int uk),.d (.int un),.d (.str ua),.d (.str ub),.d (Q8 uvs),.d (.sl (uxs.map Tm.row)),.d (.sl (ucs.map Cs.row))]) none] mixed ?_ (hr:=by conv=>lhs;simp[Tm.row,Tm.Q3,Cs.Q3,hA2,q1,q3,q5]);repeat (first|refine AWp.seq ?_|refine AWp.block ?_)
  refine AWp.le (Le.low [] [] (fr:=[(4,.ptr 4 0),(6,.d (Q8 G)),(7,.ptr 7 0),(13,.d (Q8 I1)),(14,.d (Q8 I2))]) (mem:=[(4,some (.blk 45 [.d (.int 0),.d (.int 0),.d (.str ByteArray.empty),.d (.str ByteArray.empty),.lit (.slice none 0 0),.lit (.slice none 0 0),.lit (.slice none 0 0)])),(7,some (.blk 45 [.d (.int 6),.d (.int 0),.d (.str ta),.d (.str ByteArray.empty),.d (.sl []),.d (.sl [[.int zk,.int zn,.str za,.str zb,Q8 zvs,.sl (zxs.map Tm.row),.sl (zcs.map Cs.row)],[.int uk,.int un,.str ua,.str ub,Q8 uvs,.sl (uxs.map Tm.row),.sl (ucs.map Cs.row)]]),.d (.sl [])]))]) rfl (by simp) (by simp)) ?_;refine AWp.dw [] [.p (fun _=>.d (Q8 I3)) none,.p (fun _=>.agg [.d (.int ek),.d (.int en),.d (.str ea),.d (.str eb),.d (Q8 evs),.d (.sl (exs.map Tm.row)),.d (.sl (ecs.map Cs.row))]) none] mixed ?_ (hr:=by conv=>lhs;simp[Tm.row,Tm.Q3,Cs.Q3,q1,q3,q5]);refine AWp.rg [] [.p (fun _=>.agg [.d (.int rk),.d (.int rn),.d (.str ra),.d (.str rb),.d (Q8 rvs),.d (.sl (rxs.map Tm.row)),.d (.sl (rcs.map Cs.row))]) none] ?_ (hr:=by conv=>lhs;simp[Tm.row,Tm.Q3,Cs.Q3,q1,q3,q5]);refine AWp.ret ?_;try dsimp only[Qq,Q6]
  apply Z8.ret
  ·rfl
  ·conv=>lhs;simp[Q9,Tryz.results61]
  first|rfl|simp[Z6,X9,Tm.row,Tm.Q3,Cs.Q3,AV.Xk,K4,Q8]
 refine AWp.rg [] [] ?_ (hr:=by conv=>lhs;simp[Tm.row,Tm.Q3,Cs.Q3,q1,q3,q5,q7]);refine AWp.cn ?_;by_cases q8:tk=7
 ·refine AWp.rg [] [] ?_ (hr:=by conv=>lhs;simp[Tm.row,Tm.Q3,Cs.Q3,q1,q3,q5,q7,q8]);refine AWp.cy ?_;subst q8;have hx1:txs.length=1:=by
   unfold X6 at hmany;simp at hmany;exact hmany
  obtain⟨x,rfl⟩:∃x,txs=[x]:=by
   rcases txs with _|⟨x,_|⟨y,l⟩⟩
   ·cases hx1
   ·exact⟨x,rfl⟩
   ·simp at hx1
  rw[if_neg (by omega),if_neg (by omega),if_pos rfl]at hR;have hxa:=(hxF x (by simp)).ok.nm;obtain⟨xk,xn,xa,xb,xvs,xxs,xcs⟩:=x;rw[show nmH [.mk xk xn xa xb xvs xxs xcs]=xa from rfl]at hR;have hcF:=hF.cs;refine AWp.rg [] [] ?_ (hr:=by conv=>lhs;simp[Tm.row,Tm.Q3,Cs.Q3,q1,q3,q5,q7]);refine AWp.rg [] [] ?_ (hr:=by conv=>lhs;simp[Tm.row,Tm.Q3,Cs.Q3,q1,q3,q5,q7]);repeat (first|refine AWp.seq ?_|refine AWp.block ?_)
  refine AWp.le (Le.low [400] [] (fr:=[(1,.d (Q8 own)),(2,.ptr 2 0),(4,.ptr 4 0),(6,.d (Q8 G)),(7,.ptr 7 0),(121,.d (.sl (tcs.map Cs.row))),(122,.d (.int (tcs.length:Int))),(123,.d (.int (0:Int)))]) (mem:=[(2,some (.blk 45 [.d (.int 7),.d (.int tn),.d (.str ta),.d (.str tb),.d (Q8 tvs),.d (.sl (([.mk xk xn xa xb xvs xxs xcs]).map Tm.row)),.d (.sl (tcs.map Cs.row))])),(4,some (.blk 45 [.d (.int 0),.d (.int 0),.d (.str ByteArray.empty),.d (.str ByteArray.empty),.lit (.slice none 0 0),.lit (.slice none 0 0),.lit (.slice none 0 0)])),(7,some (.blk 45 [.d (.int 7),.d (.int 0),.d (.str ByteArray.empty),.d (.str ByteArray.empty),.lit (.slice none 0 0),.d (.sl (([.mk xk xn xa xb xvs xxs xcs]).map Tm.row)),.arr 400 0 ([]:List Cs).length])),(400,some (.arr 90 9 (([]:List Cs).map Cs.row)))]) rfl (by simp[Tm.row,Tm.Q3,Cs.Q3]) (by simp[Tm.row,Tm.Q3,Cs.Q3])) ?_;refine AWp.loop (σ:=fun u:{u:Nat×List Cs // u.1≤tcs.length∧u.2=Cs.owL (tcs.take u.1) own xa}=>⟨186,[(1,.d (Q8 own)),(2,.ptr 2 0),(4,.ptr 4 0),(6,.d (Q8 G)),(7,.ptr 7 0),(121,.d (.sl (tcs.map Cs.row))),(122,.d (.int (tcs.length:Int))),(123,.d (.int (u.1.1:Int)))],[(2,some (.blk 45 [.d (.int 7),.d (.int tn),.d (.str ta),.d (.str tb),.d (Q8 tvs),.d (.sl (([.mk xk xn xa xb xvs xxs xcs]).map Tm.row)),.d (.sl (tcs.map Cs.row))])),(4,some (.blk 45 [.d (.int 0),.d (.int 0),.d (.str ByteArray.empty),.d (.str ByteArray.empty),.lit (.slice none 0 0),.lit (.slice none 0 0),.lit (.slice none 0 0)])),(7,some (.blk 45 [.d (.int 7),.d (.int 0),.d (.str ByteArray.empty),.d (.str ByteArray.empty),.lit (.slice none 0 0),.d (.sl (([.mk xk xn xa xb xvs xxs xcs]).map Tm.row)),.arr 400 0 u.1.2.length])),(400,some (.arr 90 9 (u.1.2.map Cs.row)))]⟩)
   (μ:=fun u=>tcs.length-u.1.1) ⟨(0,[]),⟨Nat.zero_le _,by simp[Cs.owL]⟩⟩ (Le.sub (by simp[Tm.row,Tm.Q3,Cs.Q3]) (by simp[Tm.row,Tm.Q3,Cs.Q3])) (fun⟨(i,ds),⟨hi27,hw⟩⟩=>?_)
  dsimp only at hi27 hw⊢;refine AWp.rg [] [] ?_ (hr:=by conv=>lhs;simp[Tm.row,Tm.Q3,Cs.Q3,q1,q3,q5,q7]);repeat (first|refine AWp.seq ?_|refine AWp.block ?_)
  refine AWp.cond rfl (fun hc=>?_) (fun hc=>?_)
  ·have hi1:i<tcs.length:=by have:=of_decide_eq_true hc;omega
   clear hc;have h1d:tcs[i]? =some tcs[i]:=List.getElem?_eq_getElem hi1;have hmd:tcs[i]∈tcs:=List.getElem_mem hi1;have hdd:tcs.drop i=tcs[i]::tcs.drop (i+1):=List.drop_eq_getElem_cons hi1;generalize tcs[i]=d at h1d hmd hdd;have hdl:ds.length=i:=by rw[hw,Cs.owL_len,List.length_take];omega
   have hsn:=Cs.owL_snoc h1d own xa;rw[←hw]at hsn;obtain⟨hws,hyR⟩:=hcR d hmd;obtain⟨hwz,hyF⟩:=hcF d hmd;obtain⟨dt,dws,y⟩:=d;try dsimp only at hws hyR hwz hyF
   rw[Cs.ow]at hsn;have hfy:=Qj4 y hyF;have hyl:y.free.length≤1048576:=Nat.le_trans (Tm.H8 y) hyF.sz;generalize y.free=yf at hsn hfy hyl;have hin:=sp_pickI dws yf (by omega) (by omega);have hUl:=Rj dws yf;have hUz:∀s∈inN dws yf,s.size≤140737488355328:=fun s hs=>hwz s (List.mem_filter.1 hs).1
   generalize inN dws yf=U at hin hUl hUz hsn;obtain⟨H,hH⟩:∃H,H=own++U:=⟨_,rfl⟩
   rw[←hH]at hsn;have hHt:List.take (own.length+U.length) (List.map Z0 own++List.map Z0 U)=List.map Z0 H:=by rw[hH,List.map_append,List.take_of_length_le (by simp)]
   have hHl:H.length=own.length+U.length:=by rw[hH];simp
   have hHz:∀s∈H,s.size≤140737488355328:=fun s hs=>by
    rw[hH]at hs;exact(List.mem_append.1 hs).elim (hos s) (hUz s)
   have hct:=sp_Has yf xa (by omega);generalize hasB yf xa=q at hsn hct;obtain⟨yk,yn,ya,yb,yvs,yxs,ycs⟩:=y;refine AWp.skip ?_;refine AWp.rg [] [] ?_ (hr:=by conv=>lhs;simp[Tm.row,Tm.Q3,Cs.Q3,h1d,Cs.row,q1,q3,q5,q7]);cases q with
   |true=>
    simp only[if_true,cnt]at hsn;have hz:=ih (.mk yk yn ya yb yvs yxs ycs) H hyR hyF (by omega) hHz;generalize(Tm.mk yk yn ya yb yvs yxs ycs).ow H=z at hz hsn;obtain⟨ek,en,ea,eb,evs,exs,ecs⟩:=z;have hu:=Ww 8 U ek en ea eb evs exs ecs (by omega);generalize cnt 8 U (.mk ek en ea eb evs exs ecs)=u at hu hsn;obtain⟨uk,un,ua,ub,uvs,uxs,ucs⟩:=u;refine AWp.rg [2] [.p (fun d=>.arr d 0 yf.length) (some (.arr 9 1 (yf.map Z0)))] ?_ (hr:=by conv=>lhs;simp[Tm.row,Tm.Q3,Cs.Q3,h1d,Cs.row,q1,q3,q5,q7]);refine AWp.rg [] [.p (fun _=>.d (Q8 U)) none] ?_ (hr:=by conv=>lhs;simp[Tm.row,Tm.Q3,Cs.Q3,h1d,Cs.row,q1,q3,q5,q7]);refine AWp.rg [4] [] ?_ (hr:=by conv=>lhs;simp[Tm.row,Tm.Q3,Cs.Q3,h1d,Cs.row,hHt,q1,q3,q5,q7]);refine AWp.rg [] [] ?_ (hr:=by conv=>lhs;simp[Tm.row,Tm.Q3,Cs.Q3,h1d,Cs.row,q1,q3,q5,q7]);refine AWp.rg [] [.p (fun _=>.d (.bool true)) none] ?_ (hr:=by conv=>lhs;simp[Tm.row,Tm.Q3,Cs.Q3,h1d,Cs.row,q1,q3,q5,q7]);refine AWp.cy ?_;refine AWp.rg [] [.p (fun _=>.agg [.d (.int ek),.d (.int en),.d (.str ea),.d (.str eb),.d (Q8 evs),.d (.sl (exs.map Tm.row)),.d (.sl (ecs.map Cs.row))]) none] ?_ (hr:=by conv=>lhs;simp[Tm.row,Tm.Q3,Cs.Q3,h1d,Cs.row,q1,q3,q5,q7]);refine AWp.dw [] [.p (fun _=>.agg [.d (.int uk),.d (.int un),.d (.str ua),.d (.str ub),.d (Q8 uvs),.d (.sl (uxs.map Tm.row)),.d (.sl (ucs.map Cs.row))]) none] mixed ?_ (hr:=by conv=>lhs;simp[Tm.row,Tm.Q3,Cs.Q3,h1d,Cs.row,q1,q3,q5,q7]);refine AWp.rg [] [] ?_ (hr:=by conv=>lhs;simp[Tm.row,Tm.Q3,Cs.Q3,h1d,Cs.row,q1,q3,q5,q7]);refine⟨⟨(i+1,ds++[.mk dt dws (.mk uk un ua ub uvs uxs ucs)]),hi1,by rw[hsn]⟩,by simp;omega,?_⟩;dsimp only;exact Le.sub (by simp[Cs.row,Tm.row,Tm.Q3,Cs.Q3,hdl]) (by simp[Cs.row,Tm.row,Tm.Q3,Cs.Q3,hdl])
   |false=>
    simp only[Bool.false_eq_true,if_false]at hsn;have hou:Z4 Tryz.prog 95 [Zk H,.d (.sl [[.str xa]]),.d (.bool false)] (fun _=>Zk (woN H [xa])) none:=sp_pickO H [xa] (by omega) (by simp);have hWl:=F5 H [xa];have hWz:∀s∈woN H [xa],s.size≤140737488355328:=fun s hs=>hHz s (List.mem_filter.1 hs).1
    generalize woN H [xa]=W at hou hWl hWz hsn;have hz:=ih (.mk yk yn ya yb yvs yxs ycs) W hyR hyF (by omega) hWz;generalize(Tm.mk yk yn ya yb yvs yxs ycs).ow W=z at hz hsn;obtain⟨zk,zn,za,zb,zvs,zxs,zcs⟩:=z;have hd:Z4 Tryz.prog 96 [.d (.int 9),.d (.sl [[.str xa]]),X9 (.mk zk zn za zb zvs zxs zcs)] (fun _=>X9 (cnt 9 [xa] (.mk zk zn za zb zvs zxs zcs))) none:=Ww 9 [xa] zk zn za zb zvs zxs zcs (by simp);generalize cnt 9 [xa] (.mk zk zn za zb zvs zxs zcs)=e at hd hsn;obtain⟨ek,en,ea,eb,evs,exs,ecs⟩:=e;have hu:=Ww 8 U ek en ea eb evs exs ecs (by omega);generalize cnt 8 U (.mk ek en ea eb evs exs ecs)=u at hu hsn;obtain⟨uk,un,ua,ub,uvs,uxs,ucs⟩:=u;refine AWp.rg [2] [.p (fun d=>.arr d 0 yf.length) (some (.arr 9 1 (yf.map Z0)))] ?_ (hr:=by conv=>lhs;simp[Tm.row,Tm.Q3,Cs.Q3,h1d,Cs.row,q1,q3,q5,q7]);refine AWp.rg [] [.p (fun _=>.d (Q8 U)) none] ?_ (hr:=by conv=>lhs;simp[Tm.row,Tm.Q3,Cs.Q3,h1d,Cs.row,q1,q3,q5,q7]);refine AWp.rg [4] [] ?_ (hr:=by conv=>lhs;simp[Tm.row,Tm.Q3,Cs.Q3,h1d,Cs.row,hHt,q1,q3,q5,q7]);refine AWp.rg [] [] ?_ (hr:=by conv=>lhs;simp[Tm.row,Tm.Q3,Cs.Q3,h1d,Cs.row,q1,q3,q5,q7]);refine AWp.rg [] [.p (fun _=>.d (.bool false)) none] ?_ (hr:=by conv=>lhs;simp[Tm.row,Tm.Q3,Cs.Q3,h1d,Cs.row,q1,q3,q5,q7]);refine AWp.cn ?_;refine AWp.dw [5,14] [.p (fun _=>.d (Q8 W)) none,.p (fun _=>.agg [.d (.int zk),.d (.int zn),.d (.str za),.d (.str zb),.d (Q8 zvs),.d (.sl (zxs.map Tm.row)),.d (.sl (zcs.map Cs.row))]) none,.p (fun _=>.agg [.d (.int ek),.d (.int en),.d (.str ea),.d (.str eb),.d (Q8 evs),.d (.sl (exs.map Tm.row)),.d (.sl (ecs.map Cs.row))]) none] mixed ?_ (hr:=by conv=>lhs;simp[Tm.row,Tm.Q3,Cs.Q3,h1d,Cs.row,q1,q3,q5,q7]);refine AWp.dw [] [.p (fun _=>.agg [.d (.int uk),.d (.int un),.d (.str ua),.d (.str ub),.d (Q8 uvs),.d (.sl (uxs.map Tm.row)),.d (.sl (ucs.map Cs.row))]) none] mixed ?_ (hr:=by conv=>lhs;simp[Tm.row,Tm.Q3,Cs.Q3,h1d,Cs.row,q1,q3,q5,q7]);refine AWp.rg [] [] ?_ (hr:=by conv=>lhs;simp[Tm.row,Tm.Q3,Cs.Q3,h1d,Cs.row,q1,q3,q5,q7])
    refine⟨⟨(i+1,ds++[.mk dt dws (.mk uk un ua ub uvs uxs ucs)]),hi1,by rw[hsn]⟩,by simp;omega,?_⟩;dsimp only;exact Le.sub (by simp[Cs.row,Tm.row,Tm.Q3,Cs.Q3,hdl]) (by simp[Cs.row,Tm.row,Tm.Q3,Cs.Q3,hdl])
  have hi1:i=tcs.length:=by have:=of_decide_eq_false hc;omega
  subst hi1;clear hc;rw[List.take_length]at hw;subst hw;have hdl:=Cs.owL_len own xa tcs;generalize Cs.owL tcs own xa=ds at hdl hR⊢;refine AWp.exit ?_;apply AWp.Uk [400]
  ·conv=>lhs;simp
  repeat (first|refine AWp.seq ?_|refine AWp.block ?_)
  refine AWp.le (Le.low [] [] (fr:=[(4,.ptr 4 0),(6,.d (Q8 G)),(7,.ptr 7 0)]) (mem:=[(4,some (.blk 45 [.d (.int 0),.d (.int 0),.d (.str ByteArray.empty),.d (.str ByteArray.empty),.lit (.slice none 0 0),.lit (.slice none 0 0),.lit (.slice none 0 0)])),(7,some (.blk 45 [.d (.int 7),.d (.int 0),.d (.str ByteArray.empty),.d (.str ByteArray.empty),.d (.sl []),.d (.sl [[.int xk,.int xn,.str xa,.str xb,Q8 xvs,.sl (xxs.map Tm.row),.sl (xcs.map Cs.row)]]),.d (.sl (ds.map Cs.row))]))]) rfl (by simp[Tm.row,Tm.Q3,Cs.Q3]) (by simp[Tm.row,Tm.Q3,Cs.Q3])) ?_;have hg:Z4 Tryz.prog 96 [.d (.int 9),Zk G,.agg [.d (.int 7),.d (.int 0),.d (.str .empty),.d (.str .empty),.d (.sl []),.d (.sl [[.int xk,.int xn,.str xa,.str xb,Q8 xvs,.sl (xxs.map Tm.row),.sl (xcs.map Cs.row)]]),.d (.sl (ds.map Cs.row))]] (fun _=>X9 (cnt 9 G (.mk 7 0 .empty .empty [] [.mk xk xn xa xb xvs xxs xcs] ds))) none:=by
   simpa only[X9,Q8,List.map_cons,List.map_nil,Tm.row,Tm.Q3,Cs.Q3]using Ww 9 G 7 0 .empty .empty [] [.mk xk xn xa xb xvs xxs xcs] ds (by omega)
  generalize cnt 9 G (.mk 7 0 .empty .empty [] [.mk xk xn xa xb xvs xxs xcs] ds)=r at hg hR;subst hR;refine AWp.rg [] [.p (fun _=>.agg [.d (.int rk),.d (.int rn),.d (.str ra),.d (.str rb),.d (Q8 rvs),.d (.sl (rxs.map Tm.row)),.d (.sl (rcs.map Cs.row))]) none] ?_ (hr:=by conv=>lhs;simp[Tm.row,Tm.Q3,Cs.Q3,q1,q3,q5,q7]);refine AWp.ret ?_;try dsimp only[Qq,Q6]
  apply Z8.ret
  ·rfl
  ·conv=>lhs;simp[Q9,Tryz.results61]
  first|rfl|simp[Z6,X9,Tm.row,Tm.Q3,Cs.Q3,AV.Xk,K4,Q8]
 refine AWp.rg [] [] ?_ (hr:=by conv=>lhs;simp[Tm.row,Tm.Q3,Cs.Q3,q1,q3,q5,q7,q8]);refine AWp.cn ?_;refine AWp.skip ?_;rw[if_neg (by omega),if_neg (by omega),if_neg (by omega)]at hR;have hg:=Ww 9 G tk tn ta tb tvs txs tcs (by omega);generalize cnt 9 G (.mk tk tn ta tb tvs txs tcs)=r at hg hR;subst hR;refine AWp.rg [] [.p (fun _=>.agg [.d (.int rk),.d (.int rn),.d (.str ra),.d (.str rb),.d (Q8 rvs),.d (.sl (rxs.map Tm.row)),.d (.sl (rcs.map Cs.row))]) none] ?_ (hr:=by conv=>lhs;simp[Tm.row,Tm.Q3,Cs.Q3,q1,q3,q5,q7,q8]);refine AWp.ret ?_;try dsimp only[Qq,Q6]
 apply Z8.ret
 ·rfl
 ·conv=>lhs;simp[Q9,Tryz.results61]
 first|rfl|simp[Z6,X9,Tm.row,Tm.Q3,Cs.Q3,AV.Xk,K4,Q8]
theorem od_all:∀N,OdN N
 |0=>fun _ _ h=>h.elim
 |N+1=>od_step N (od_all N)
theorem sp_OdFn (f:Fn) (h:f.Pt):Z4 Tryz.prog 32 [Iw f] (fun _=>Iw f.ow) none:=by
 have hx:=od_all 175 f.body f.params h.rt h.fit (by have:=h.par;omega) h.pars;unfold Fn.ow;generalize f.body.ow f.params=z at hx⊢;obtain⟨fg,fps,⟨fk,fn,fa,fb,fvs,fxs,fcs⟩⟩:=f;obtain⟨zk,zn,za,zb,zvs,zxs,zcs⟩:=z;dsimp only at hx;refine Z4.of Tryz.func32 rfl rfl rfl (Nat.le_of_ble_eq_true rfl) ?_;show AWp _ _ (Z8 _ Tryz.f32 _ _ _) (Z7 13 _);refine AWp.rg [] [] ?_ (hr:=by conv=>lhs;simp[Iw,Fn.row,Tm.row,Tm.Q3,Cs.Q3]);refine AWp.dw [] [.p (fun _=>.agg [.d (.int zk),.d (.int zn),.d (.str za),.d (.str zb),.d (Q8 zvs),.d (.sl (zxs.map Tm.row)),.d (.sl (zcs.map Cs.row))]) none] mixed ?_ (hr:=by conv=>lhs;simp[Iw,Fn.row,Tm.row,Tm.Q3,Cs.Q3]);refine AWp.ret ?_;try dsimp only[Qq,Q6]
 apply Z8.ret
 ·rfl
 ·conv=>lhs;simp[Q9,Tryz.results32]
 rfl
theorem sp_EachOwned (l:List Fn) (hl:l.length≤879609302220) (hall:∀f∈l,f.Pt):Z4 Tryz.prog 30 [L6 l,.d (.fn 32)] (fun _=>L6 (l.map Fn.ow)) none:=by
 obtain⟨G,hG⟩:∃G,G=l.map Fn.ow:=⟨_,rfl⟩
 rw[←hG];refine Z4.of Tryz.func30 rfl rfl rfl (Nat.le_of_ble_eq_true rfl) ?_;show AWp _ _ (Z8 _ Tryz.f30 _ _ _) (Z7 22 _);refine AWp.rg [] [] ?_ (hr:=by conv=>lhs;simp[Fn.row,Tm.row,Tm.Q3,Cs.Q3]);refine AWp.rg [] [] ?_ (hr:=by conv=>lhs;simp[Fn.row,Tm.row,Tm.Q3,Cs.Q3]);refine AWp.rg [] [] ?_ (hr:=by conv=>lhs;simp[Fn.row,Tm.row,Tm.Q3,Cs.Q3]);repeat (first|refine AWp.seq ?_|refine AWp.block ?_)
 refine AWp.le (Le.low [400] [] (fr:=[(1,.d (.fn 32)),(5,.arr 400 0 ([]:List Fn).length),(8,.d (.sl (l.map Fn.row))),(9,.d (.int (l.length:Int))),(10,.d (.int (0:Int)))]) (mem:=[(400,some (.arr 47 9 (([]:List Fn).map Fn.row)))]) rfl (by simp) (by simp)) ?_;refine AWp.loop (σ:=fun u:{u:Nat×List Fn // u.1≤l.length∧u.2=(l.take u.1).map Fn.ow}=>⟨22,[(1,.d (.fn 32)),(5,.arr 400 0 u.1.2.length),(8,.d (.sl (l.map Fn.row))),(9,.d (.int (l.length:Int))),(10,.d (.int (u.1.1:Int)))],[(400,some (.arr 47 9 (u.1.2.map Fn.row)))]⟩)
  (μ:=fun u=>l.length-u.1.1) ⟨(0,[]),⟨Nat.zero_le _,by simp⟩⟩ (Le.sub (by simp) (by simp)) (fun⟨(i,gs),⟨hi3,hw⟩⟩=>?_)
 dsimp only at hi3 hw⊢;refine AWp.rg [] [] ?_ (hr:=by conv=>lhs;simp[Fn.row,Tm.row,Tm.Q3,Cs.Q3]);repeat (first|refine AWp.seq ?_|refine AWp.block ?_)
 refine AWp.cond rfl (fun hc=>?_) (fun hc=>?_)
 ·have hi1:i<l.length:=by have:=of_decide_eq_true hc;omega
  clear hc;have h1f:l[i]? =some l[i]:=List.getElem?_eq_getElem hi1;have hmf:l[i]∈l:=List.getElem_mem hi1;have hdf:l.drop i=l[i]::l.drop (i+1):=List.drop_eq_getElem_cons hi1;generalize l[i]=f at h1f hmf hdf;have hgl:gs.length=i:=by rw[hw,List.length_map,List.length_take];omega
  have hx:=sp_OdFn f (hall f hmf);generalize hz:f.ow=z at hx;obtain⟨fg,fps,⟨fk,fn,fa,fb,fvs,fxs,fcs⟩⟩:=f;obtain⟨zg,zps,⟨zk,zn,za,zb,zvs,zxs,zcs⟩⟩:=z;dsimp only[Iw]at hx;refine AWp.skip ?_;refine AWp.rg [] [] ?_ (hr:=by conv=>lhs;simp[Fn.row,Tm.row,Tm.Q3,Cs.Q3,h1f]);refine AWp.rg [] [.p (fun _=>.agg [.d (.str zg),.d (Q8 zps),.d (.int zk),.d (.int zn),.d (.str za),.d (.str zb),.d (Q8 zvs),.d (.sl (zxs.map Tm.row)),.d (.sl (zcs.map Cs.row))]) none] ?_ (hr:=by conv=>lhs;simp[Fn.row,Tm.row,Tm.Q3,Cs.Q3,h1f]);refine AWp.rg [] [] ?_ (hr:=by conv=>lhs;simp[Fn.row,Tm.row,Tm.Q3,Cs.Q3,h1f]);refine⟨⟨(i+1,gs++[⟨zg,zps,.mk zk zn za zb zvs zxs zcs⟩]),hi1,by rw[hw,List.take_add_one,h1f,List.map_append,←hz];rfl⟩,by simp;omega,?_⟩;dsimp only;exact Le.sub (by simp[Fn.row,Tm.row,Tm.Q3,Cs.Q3,hgl]) (by simp[Fn.row,Tm.row,Tm.Q3,Cs.Q3,hgl])
 have hi1:i=l.length:=by have:=of_decide_eq_false hc;omega
 subst hi1;clear hc;rw[List.take_length]at hw;obtain rfl:gs=G:=by rw[hw,hG]
 refine AWp.exit ?_;refine AWp.rg [] [] ?_ (hr:=by conv=>lhs;simp[Fn.row,Tm.row,Tm.Q3,Cs.Q3]);refine AWp.ret ?_;try dsimp only[Qq,Q6]
 apply Z8.retF [400]
 ·rfl
 ·conv=>lhs;simp
 ·conv=>lhs;simp[Q9,Tryz.results30]
 rfl
@[simp] theorem tyE_str:Ux Tryz.prog 9=none:=by kernel_rfl
theorem Qk9 {s:ByteArray} {a:Nat} {c:UInt8} (h:s[a]? =some c):s.data.toList.drop a=c::s.data.toList.drop (a+1):=by
 have h1:s.data.toList[a]? =some c:=by
  rw[Array.getElem?_toList];exact h
 obtain⟨h2,h3⟩:=List.getElem?_eq_some_iff.1 h1;rw[List.drop_eq_getElem_cons h2,h3]
theorem drop_end {s:ByteArray} {a:Nat} (h:s.size≤a):s.data.toList.drop a=[]:=List.drop_of_length_le (by rw[toList_size];exact h)
theorem pkA_on {s:ByteArray} {a:Nat} {c:UInt8} (h:s[a]? =some c) (hb:isBl c=true):pkA s (a+1)=pkA s a:=by
 unfold pkA;rw[Qk9 h,nBl,if_pos hb];omega
theorem pkA_stop {s:ByteArray} {a:Nat} {c:UInt8} (h:s[a]? =some c) (hb:isBl c=false):pkA s a=a:=by
 unfold pkA;rw[Qk9 h,nBl,if_neg (by rw[hb];decide)];omega
theorem pkA_end {s:ByteArray} {a:Nat} (h:s.size≤a):pkA s a=a:=by
 unfold pkA;rw[drop_end h,nBl];omega
def pkV (s:ByteArray) (a:Nat):Nat:=a+nWd (s.data.toList.drop a)
theorem O7 {s:ByteArray} {a:Nat} (h:s.size≤a):pkE s a=a:=by
 unfold pkE;rw[drop_end h,nPk];omega
theorem pkE_br {s:ByteArray} {a:Nat} {c:UInt8} (h:s[a]? =some c) (hb:Qz9 c=true):pkE s a=a+1:=by
 unfold pkE;rw[Qk9 h,nPk,if_pos hb]
theorem pkE_wd {s:ByteArray} {a:Nat} {c:UInt8} (h:s[a]? =some c) (hb:Qz9 c=false):pkE s a=pkV s a:=by
 unfold pkE pkV;rw[Qk9 h,nPk,if_neg (by rw[hb];decide)]
theorem F6 {s:ByteArray} {a:Nat} (h:s.size≤a):pkV s a=a:=by
 unfold pkV;rw[drop_end h,nWd];omega
theorem pkV_on {s:ByteArray} {a:Nat} {c:UInt8} (h:s[a]? =some c) (h1:isBl c=false) (hb:Qz9 c=false):pkV s (a+1)=pkV s a:=by
 unfold pkV;rw[Qk9 h,nWd,if_neg (by rw[h1,hb];decide)];omega
theorem Rv {s:ByteArray} {a:Nat} {c:UInt8} (h:s[a]? =some c) (hb:(isBl c||Qz9 c)=true):pkV s a=a:=by
 unfold pkV;rw[Qk9 h,nWd,if_pos hb];omega
theorem Yx {c:UInt8}:Qz9 c=(decide ((c.toNat:Int)=40)||decide ((c.toNat:Int)=41)):=by
 unfold Qz9;rw[Bool.eq_iff_iff];simp only[Bool.or_eq_true,beq_iff_eq,decide_eq_true_eq];omega
theorem sp_blank (c:UInt8):Z4 Tryz.prog 75 [.d (.num .u8 c.toNat)] (fun _=>.d (.bool (isBl c))) none:=by
 have hc:isBl c=(decide ((c.toNat:Int)=32)||(decide ((c.toNat:Int)=9)||decide ((c.toNat:Int)=10))):=by
  unfold isBl;rw[Bool.eq_iff_iff];simp only[Bool.or_eq_true,beq_iff_eq,decide_eq_true_eq];omega
 have h0:0≤(c.toNat:Int):=by omega
 have h1:(c.toNat:Int)≤255:=by have:=c.toNat_lt;omega
 rw[hc];clear hc;generalize(c.toNat:Int)=n at *;by_cases q1:n=32
 ·subst q1;refine Z4.of Tryz.func75 rfl rfl rfl (Nat.le_of_ble_eq_true rfl) ?_;show AWp _ _ (Z8 _ Tryz.f75 _ _ _) (Z7 13 _);repeat (first|refine AWp.seq ?_|refine AWp.block ?_)
  apply AWp.reg [] []
  ·conv=>lhs;simp
  ·trivial
  refine AWp.rg [] [] ?_;refine AWp.ret ?_;try dsimp only[Qq,Q6]
  apply Z8.ret
  ·rfl
  ·conv=>lhs;simp[Q9,Tryz.results75]
  rfl
 by_cases q2:n=9
 ·subst q2;refine Z4.of Tryz.func75 rfl rfl rfl (Nat.le_of_ble_eq_true rfl) ?_;show AWp _ _ (Z8 _ Tryz.f75 _ _ _) (Z7 13 _);repeat (first|refine AWp.seq ?_|refine AWp.block ?_)
  apply AWp.reg [] []
  ·conv=>lhs;simp
  ·trivial
  refine AWp.rg [] [] ?_;refine AWp.ret ?_;try dsimp only[Qq,Q6]
  apply Z8.ret
  ·rfl
  ·conv=>lhs;simp[Q9,Tryz.results75]
  rfl
 by_cases q3:n=10
 ·subst q3;refine Z4.of Tryz.func75 rfl rfl rfl (Nat.le_of_ble_eq_true rfl) ?_;show AWp _ _ (Z8 _ Tryz.f75 _ _ _) (Z7 13 _);repeat (first|refine AWp.seq ?_|refine AWp.block ?_)
  apply AWp.reg [] []
  ·conv=>lhs;simp
  ·trivial
  refine AWp.rg [] [] ?_;refine AWp.ret ?_;try dsimp only[Qq,Q6]
  apply Z8.ret
  ·rfl
  ·conv=>lhs;simp[Q9,Tryz.results75]
  rfl
 rw[show(decide (n=32)||(decide (n=9)||decide (n=10)))=false from by simp[q1,q2,q3]];refine Z4.of Tryz.func75 rfl rfl rfl (Nat.le_of_ble_eq_true rfl) ?_;show AWp _ _ (Z8 _ Tryz.f75 _ _ _) (Z7 13 _);repeat (first|refine AWp.seq ?_|refine AWp.block ?_)
 apply AWp.reg [] []
 ·conv=>lhs;simp
 ·trivial
 refine AWp.rg [] [] ?_ (hr:=by conv=>lhs;simp[q1,q2,q3]);refine AWp.ret ?_;try dsimp only[Qq,Q6]
 apply Z8.ret
 ·rfl
 ·conv=>lhs;simp[Q9,Tryz.results75]
 rfl
abbrev pO (s:ByteArray) (a e:Int):Qz:=.blk 94 [.d (.str s),.d (.int a),.d (.int e)]
theorem cs_bad (s:ByteArray) (a e x:Int):Qv Tryz.prog 77 [.ptr 1000 0,.d (.int x)] [(1000,pO s a e)] (.tuple []) [(1000,pO s a (I6 e x))]:=by
 unfold pO;by_cases he:e=0
 ·subst he;rw[show I6 0 x=x from rfl];refine Qv.of Tryz.func77 rfl rfl (Nat.le_of_ble_eq_true rfl) ?_;show AWp _ _ (Qk _ Tryz.f77 _ _) (Zz 13 _ _);refine AWp.rg [] [] ?_;refine AWp.cy ?_;refine AWp.rg [] [] ?_;try dsimp only[Qq,Q6]
  apply Qk.normal
  ·rfl
  ·conv=>lhs;simp[Q9,Tryz.results77]
  ·rfl
  ·simp[Qx,Q4]
 rw[show I6 e x=e from if_neg he];refine Qv.of Tryz.func77 rfl rfl (Nat.le_of_ble_eq_true rfl) ?_;show AWp _ _ (Qk _ Tryz.f77 _ _) (Zz 13 _ _);refine AWp.rg [] [] ?_ (hr:=by conv=>lhs;simp[he]);refine AWp.cn ?_;refine AWp.skip ?_;try dsimp only[Qq,Q6]
 apply Qk.normal
 ·rfl
 ·conv=>lhs;simp[Q9,Tryz.results77]
 ·rfl
 ·simp[Qx,Q4]
theorem O9 (s:ByteArray) (a:Nat) (e:Int) (ha:a≤s.size) (hs:s.size≤1500):Qv Tryz.prog 44 [.ptr 1000 0] [(1000,pO s a e)] (.d (.str (pkW s a))) [(1000,pO s (pkA s a) e)]:=by
 unfold pO;obtain⟨N,hN⟩:∃N:Int,(s.size:Int)=N:=⟨_,rfl⟩
 obtain⟨W,hW⟩:∃W,W=pkW s a:=⟨_,rfl⟩
 rw[←hW];unfold pkW at hW;obtain⟨A,hA⟩:∃A,A=pkA s a:=⟨_,rfl⟩
 rw[←hA]at hW⊢;refine Qv.of Tryz.func44 rfl rfl (Nat.le_of_ble_eq_true rfl) ?_;show AWp _ _ (Qk _ Tryz.f44 _ _) (Zz 117 _ _);refine AWp.rg [] [] ?_ (hr:=by conv=>lhs;simp[hN]);repeat (first|refine AWp.seq ?_|refine AWp.block ?_)
 refine AWp.loop (σ:=fun u:{u:Nat // (pkA s u=pkA s a∧u≤s.size)}=>⟨117,[(0,.ptr 1000 0)],[(1000,some (.blk 94 [.d (.str s),.d (.int (u.1:Int)),.d (.int e)]))]⟩)
  (μ:=fun u=>s.size-u.1) ⟨a,⟨rfl,ha⟩⟩ (Le.sub (by simp) (by simp)) (fun⟨j,hw⟩=>?_)
 dsimp only;obtain⟨hpk,hjl⟩:=hw;by_cases hj:(j:Int)<N
 ·have hj1:j<s.size:=by omega
  have h1c:s[j]? =some s[j]:=by rw[getElem?_pos]
  generalize s[j]=c at h1c;obtain⟨cn,hcn⟩:∃n:Int,(c.toNat:Int)=n:=⟨_,rfl⟩
  have hbl:=sp_blank c;obtain⟨q,hq⟩:∃q,isBl c=q:=⟨_,rfl⟩
  rw[hq,hcn]at hbl;cases q with
  |true=>
   refine AWp.dw [] [.p (fun _=>.d (.bool true)) none] mixed ?_ (hr:=by conv=>lhs;simp[hN,h1c,hcn,hj]);refine AWp.cy ?_;refine AWp.skip ?_;refine AWp.rg [] [] ?_ (hr:=by conv=>lhs;simp[hN,h1c,hcn,hj]);refine⟨⟨j+1,⟨by rw[pkA_on h1c hq];exact hpk,by omega⟩⟩,by dsimp only;omega,?_⟩;dsimp only;exact Le.sub (by simp[hN]) (by simp[hN])
  |false=>
   refine AWp.dw [] [.p (fun _=>.d (.bool false)) none] mixed ?_ (hr:=by conv=>lhs;simp[hN,h1c,hcn,hj]);refine AWp.cn ?_;refine AWp.exit ?_;rw[pkA_stop h1c hq]at hpk;clear hq hbl h1c hcn hj hj1;obtain rfl:A=j:=hA.trans hpk.symm;clear hpk;refine AWp.rg [] [] ?_ (hr:=by conv=>lhs;simp[hN]);by_cases hj:(A:Int)<N
   ·have hj1:A<s.size:=by omega
    have h1d:s[A]? =some s[A]:=by rw[getElem?_pos]
    generalize s[A]=d at h1d;obtain⟨dn,hdn⟩:∃n:Int,(d.toNat:Int)=n:=⟨_,rfl⟩
    by_cases q1:dn=40
    ·refine AWp.rg [] [] ?_ (hr:=by conv=>lhs;simp[hN,h1d,hdn,hj,q1]);refine AWp.cy ?_;have hbr:Qz9 d=true:=by rw[Yx,Bool.or_eq_true,decide_eq_true_eq,decide_eq_true_eq];omega
     rw[pkE_br h1d hbr]at hW;rw[hW];refine AWp.rg [] [] ?_ (hr:=by conv=>lhs;simp[hN,h1d,hdn,hj,q1]);refine AWp.ret ?_;try dsimp only[Qq,Q6]
     apply Qk.ret
     ·rfl
     ·conv=>lhs;simp[Q9,Tryz.results44]
     ·first|rfl|simp
     ·simp[Qx,Q4]
    by_cases q2:dn=41
    ·refine AWp.rg [] [] ?_ (hr:=by conv=>lhs;simp[hN,h1d,hdn,hj,q1,q2]);refine AWp.cy ?_;have hbr:Qz9 d=true:=by rw[Yx,Bool.or_eq_true,decide_eq_true_eq,decide_eq_true_eq];omega
     rw[pkE_br h1d hbr]at hW;rw[hW];refine AWp.rg [] [] ?_ (hr:=by conv=>lhs;simp[hN,h1d,hdn,hj,q1,q2]);refine AWp.ret ?_;try dsimp only[Qq,Q6]
     apply Qk.ret
     ·rfl
     ·conv=>lhs;simp[Q9,Tryz.results44]
     ·first|rfl|simp
     ·simp[Qx,Q4]
    refine AWp.rg [] [] ?_ (hr:=by conv=>lhs;simp[hN,h1d,hdn,hj,q1,q2]);refine AWp.cn ?_;refine AWp.skip ?_;repeat (first|refine AWp.seq ?_|refine AWp.block ?_)
    refine AWp.loop (σ:=fun u:{u:Nat // (pkV s u=pkV s A∧A≤u∧u≤s.size)}=>⟨117,[(0,.ptr 1000 0),(3,.d (.int (u.1:Int)))],[(1000,some (.blk 94 [.d (.str s),.d (.int (A:Int)),.d (.int e)]))]⟩)
     (μ:=fun u=>s.size-u.1) ⟨A,⟨rfl,Nat.le_refl _,hjl⟩⟩ (Le.sub (by simp) (by simp)) (fun⟨k,hw⟩=>?_)
    dsimp only;obtain⟨hpk,hk0,hkl⟩:=hw;by_cases hj:(k:Int)<N
    ·have hj1:k<s.size:=by omega
     have h1c:s[k]? =some s[k]:=by rw[getElem?_pos]
     generalize s[k]=c at h1c;obtain⟨cn,hcn⟩:∃n:Int,(c.toNat:Int)=n:=⟨_,rfl⟩
     have hbl:=sp_blank c;obtain⟨q,hq⟩:∃q,isBl c=q:=⟨_,rfl⟩
     rw[hq,hcn]at hbl;cases q with
     |true=>
      refine AWp.rg [] [.p (fun _=>.d (.bool true)) none] ?_ (hr:=by conv=>lhs;simp[hN,h1d,hdn,h1c,hcn,hj,q1,q2]);refine AWp.cn ?_;refine AWp.exit ?_;have hst:=Rv h1c (by rw[hq];rfl);have hbr:Qz9 d=false:=by rw[Yx,Bool.or_eq_false_iff,decide_eq_false_iff_not,decide_eq_false_iff_not];omega
      rw[pkE_wd h1d hbr]at hW;rw[hst]at hpk;rw[←hpk]at hW;rw[hW];refine AWp.dw [] [] mixed ?_ (hr:=by conv=>lhs;simp[hN,h1d,hdn,h1c,hcn,hj,q1,q2]);refine AWp.ret ?_;try dsimp only[Qq,Q6]
      apply Qk.ret
      ·rfl
      ·conv=>lhs;simp[Q9,Tryz.results44]
      ·first|rfl|simp
      ·simp[Qx,Q4]
     |false=>
      by_cases q3:cn=40
      ·have q3t:=eq_true q3;refine AWp.rg [] [.p (fun _=>.d (.bool false)) none] ?_ (hr:=by conv=>lhs;simp[hN,h1d,hdn,h1c,hcn,hj,q1,q2,q3t]);refine AWp.cn ?_;refine AWp.exit ?_;have hst:=Rv h1c (by rw[Bool.or_eq_true,Yx,Bool.or_eq_true,decide_eq_true_eq,decide_eq_true_eq];omega);have hbr:Qz9 d=false:=by rw[Yx,Bool.or_eq_false_iff,decide_eq_false_iff_not,decide_eq_false_iff_not];omega
       rw[pkE_wd h1d hbr]at hW;rw[hst]at hpk;rw[←hpk]at hW;rw[hW];refine AWp.dw [] [] mixed ?_ (hr:=by conv=>lhs;simp[hN,h1d,hdn,h1c,hcn,hj,q1,q2,q3t]);refine AWp.ret ?_;try dsimp only[Qq,Q6]
       apply Qk.ret
       ·rfl
       ·conv=>lhs;simp[Q9,Tryz.results44]
       ·first|rfl|simp
       ·simp[Qx,Q4]
      by_cases q4:cn=41
      ·have q4t:=eq_true q4;refine AWp.rg [] [.p (fun _=>.d (.bool false)) none] ?_ (hr:=by conv=>lhs;simp[hN,h1d,hdn,h1c,hcn,hj,q1,q2,q3,q4t]);refine AWp.cn ?_;refine AWp.exit ?_;have hst:=Rv h1c (by rw[Bool.or_eq_true,Yx,Bool.or_eq_true,decide_eq_true_eq,decide_eq_true_eq];omega);have hbr:Qz9 d=false:=by rw[Yx,Bool.or_eq_false_iff,decide_eq_false_iff_not,decide_eq_false_iff_not];omega
       rw[pkE_wd h1d hbr]at hW;rw[hst]at hpk;rw[←hpk]at hW;rw[hW];refine AWp.dw [] [] mixed ?_ (hr:=by conv=>lhs;simp[hN,h1d,hdn,h1c,hcn,hj,q1,q2,q3,q4t]);refine AWp.ret ?_;try dsimp only[Qq,Q6]
       apply Qk.ret
       ·rfl
       ·conv=>lhs;simp[Q9,Tryz.results44]
       ·first|rfl|simp
       ·simp[Qx,Q4]
      refine AWp.rg [] [.p (fun _=>.d (.bool false)) none] ?_ (hr:=by conv=>lhs;simp[hN,h1d,hdn,h1c,hcn,hj,q1,q2,q3,q4]);refine AWp.cy ?_;refine AWp.skip ?_;refine AWp.rg [] [] ?_ (hr:=by conv=>lhs;simp[hN,h1d,hdn,h1c,hcn,hj,q1,q2,q3,q4]);refine⟨⟨k+1,⟨by rw[pkV_on h1c hq (by rw[Yx,Bool.or_eq_false_iff,decide_eq_false_iff_not,decide_eq_false_iff_not];omega)];exact hpk,by omega,by omega⟩⟩,by dsimp only;omega,?_⟩;dsimp only;exact Le.sub (by simp[hN]) (by simp[hN])
    have hj1:s.size≤k:=by omega
    refine AWp.rg [] [] ?_ (hr:=by conv=>lhs;simp[hN,h1d,hdn,hj,q1,q2]);refine AWp.cn ?_;refine AWp.exit ?_;have hst:=F6 hj1;have hbr:Qz9 d=false:=by rw[Yx,Bool.or_eq_false_iff,decide_eq_false_iff_not,decide_eq_false_iff_not];omega
    rw[pkE_wd h1d hbr]at hW;rw[hst]at hpk;rw[←hpk]at hW;rw[hW];refine AWp.dw [] [] mixed ?_ (hr:=by conv=>lhs;simp[hN,h1d,hdn,hj,q1,q2]);refine AWp.ret ?_;try dsimp only[Qq,Q6]
    apply Qk.ret
    ·rfl
    ·conv=>lhs;simp[Q9,Tryz.results44]
    ·first|rfl|simp
    ·simp[Qx,Q4]
   have hj1:s.size≤A:=by omega
   have hA1:=hj1;refine AWp.rg [] [] ?_ (hr:=by conv=>lhs;simp[hN,hj]);refine AWp.cn ?_;refine AWp.skip ?_;repeat (first|refine AWp.seq ?_|refine AWp.block ?_)
   refine AWp.loop (σ:=fun u:{u:Nat // (pkV s u=pkV s A∧A≤u∧u≤s.size)}=>⟨117,[(0,.ptr 1000 0),(3,.d (.int (u.1:Int)))],[(1000,some (.blk 94 [.d (.str s),.d (.int (A:Int)),.d (.int e)]))]⟩)
    (μ:=fun u=>s.size-u.1) ⟨A,⟨rfl,Nat.le_refl _,hjl⟩⟩ (Le.sub (by simp) (by simp)) (fun⟨k,hw⟩=>?_)
   dsimp only;obtain⟨hpk,hk0,hkl⟩:=hw;by_cases hj:(k:Int)<N
   ·have hj1:k<s.size:=by omega
    have h1c:s[k]? =some s[k]:=by rw[getElem?_pos]
    generalize s[k]=c at h1c;obtain⟨cn,hcn⟩:∃n:Int,(c.toNat:Int)=n:=⟨_,rfl⟩
    have hbl:=sp_blank c;obtain⟨q,hq⟩:∃q,isBl c=q:=⟨_,rfl⟩
    rw[hq,hcn]at hbl;cases q with
    |true=>
     refine AWp.rg [] [.p (fun _=>.d (.bool true)) none] ?_ (hr:=by conv=>lhs;simp[hN,h1c,hcn,hj]);refine AWp.cn ?_;refine AWp.exit ?_;have hst:=Rv h1c (by rw[hq];rfl);rw[show pkE s A=pkV s A from by rw[O7 hA1,F6 hA1]]at hW;rw[hst]at hpk;rw[←hpk]at hW;rw[hW];refine AWp.dw [] [] mixed ?_ (hr:=by conv=>lhs;simp[hN,h1c,hcn,hj]);refine AWp.ret ?_;try dsimp only[Qq,Q6]
     apply Qk.ret
     ·rfl
     ·conv=>lhs;simp[Q9,Tryz.results44]
     ·first|rfl|simp
     ·simp[Qx,Q4]
    |false=>
     by_cases q5:cn=40
     ·have q5t:=eq_true q5;refine AWp.rg [] [.p (fun _=>.d (.bool false)) none] ?_ (hr:=by conv=>lhs;simp[hN,h1c,hcn,hj,q5t]);refine AWp.cn ?_;refine AWp.exit ?_;have hst:=Rv h1c (by rw[Bool.or_eq_true,Yx,Bool.or_eq_true,decide_eq_true_eq,decide_eq_true_eq];omega);rw[show pkE s A=pkV s A from by rw[O7 hA1,F6 hA1]]at hW;rw[hst]at hpk;rw[←hpk]at hW;rw[hW];refine AWp.dw [] [] mixed ?_ (hr:=by conv=>lhs;simp[hN,h1c,hcn,hj,q5t]);refine AWp.ret ?_;try dsimp only[Qq,Q6]
      apply Qk.ret
      ·rfl
      ·conv=>lhs;simp[Q9,Tryz.results44]
      ·first|rfl|simp
      ·simp[Qx,Q4]
     by_cases q6:cn=41
     ·have q6t:=eq_true q6;refine AWp.rg [] [.p (fun _=>.d (.bool false)) none] ?_ (hr:=by conv=>lhs;simp[hN,h1c,hcn,hj,q5,q6t]);refine AWp.cn ?_;refine AWp.exit ?_;have hst:=Rv h1c (by rw[Bool.or_eq_true,Yx,Bool.or_eq_true,decide_eq_true_eq,decide_eq_true_eq];omega);rw[show pkE s A=pkV s A from by rw[O7 hA1,F6 hA1]]at hW;rw[hst]at hpk;rw[←hpk]at hW;rw[hW];refine AWp.dw [] [] mixed ?_ (hr:=by conv=>lhs;simp[hN,h1c,hcn,hj,q5,q6t]);refine AWp.ret ?_;try dsimp only[Qq,Q6]
      apply Qk.ret
      ·rfl
      ·conv=>lhs;simp[Q9,Tryz.results44]
      ·first|rfl|simp
      ·simp[Qx,Q4]
     refine AWp.rg [] [.p (fun _=>.d (.bool false)) none] ?_ (hr:=by conv=>lhs;simp[hN,h1c,hcn,hj,q5,q6]);refine AWp.cy ?_;refine AWp.skip ?_;refine AWp.rg [] [] ?_ (hr:=by conv=>lhs;simp[hN,h1c,hcn,hj,q5,q6]);refine⟨⟨k+1,⟨by rw[pkV_on h1c hq (by rw[Yx,Bool.or_eq_false_iff,decide_eq_false_iff_not,decide_eq_false_iff_not];omega)];exact hpk,by omega,by omega⟩⟩,by dsimp only;omega,?_⟩;dsimp only;exact Le.sub (by simp[hN]) (by simp[hN])
   have hj1:s.size≤k:=by omega
   refine AWp.rg [] [] ?_ (hr:=by conv=>lhs;simp[hN,hj]);refine AWp.cn ?_;refine AWp.exit ?_;have hst:=F6 hj1;rw[show pkE s A=pkV s A from by rw[O7 hA1,F6 hA1]]at hW;rw[hst]at hpk;rw[←hpk]at hW;rw[hW];refine AWp.dw [] [] mixed ?_ (hr:=by conv=>lhs;simp[hN,hj]);refine AWp.ret ?_;try dsimp only[Qq,Q6]
   apply Qk.ret
   ·rfl
   ·conv=>lhs;simp[Q9,Tryz.results44]
   ·first|rfl|simp
   ·simp[Qx,Q4]
 have hj1:s.size≤j:=by omega
 refine AWp.dw [] [] mixed ?_ (hr:=by conv=>lhs;simp[hN,hj]);refine AWp.cn ?_;refine AWp.exit ?_;rw[pkA_end hj1]at hpk;clear hj hj1;obtain rfl:A=j:=hA.trans hpk.symm;clear hpk;refine AWp.rg [] [] ?_ (hr:=by conv=>lhs;simp[hN]);by_cases hj:(A:Int)<N
 ·have hj1:A<s.size:=by omega
  have h1d:s[A]? =some s[A]:=by rw[getElem?_pos]
  generalize s[A]=d at h1d;obtain⟨dn,hdn⟩:∃n:Int,(d.toNat:Int)=n:=⟨_,rfl⟩
  by_cases q7:dn=40
  ·refine AWp.rg [] [] ?_ (hr:=by conv=>lhs;simp[hN,h1d,hdn,hj,q7]);refine AWp.cy ?_;have hbr:Qz9 d=true:=by rw[Yx,Bool.or_eq_true,decide_eq_true_eq,decide_eq_true_eq];omega
   rw[pkE_br h1d hbr]at hW;rw[hW];refine AWp.rg [] [] ?_ (hr:=by conv=>lhs;simp[hN,h1d,hdn,hj,q7]);refine AWp.ret ?_;try dsimp only[Qq,Q6]
   apply Qk.ret
   ·rfl
   ·conv=>lhs;simp[Q9,Tryz.results44]
   ·first|rfl|simp
   ·simp[Qx,Q4]
  by_cases q8:dn=41
  ·refine AWp.rg [] [] ?_ (hr:=by conv=>lhs;simp[hN,h1d,hdn,hj,q7,q8]);refine AWp.cy ?_;have hbr:Qz9 d=true:=by rw[Yx,Bool.or_eq_true,decide_eq_true_eq,decide_eq_true_eq];omega
   rw[pkE_br h1d hbr]at hW;rw[hW];refine AWp.rg [] [] ?_ (hr:=by conv=>lhs;simp[hN,h1d,hdn,hj,q7,q8]);refine AWp.ret ?_;try dsimp only[Qq,Q6]
   apply Qk.ret
   ·rfl
   ·conv=>lhs;simp[Q9,Tryz.results44]
   ·first|rfl|simp
   ·simp[Qx,Q4]
  refine AWp.rg [] [] ?_ (hr:=by conv=>lhs;simp[hN,h1d,hdn,hj,q7,q8]);refine AWp.cn ?_;refine AWp.skip ?_;repeat (first|refine AWp.seq ?_|refine AWp.block ?_)
  refine AWp.loop (σ:=fun u:{u:Nat // (pkV s u=pkV s A∧A≤u∧u≤s.size)}=>⟨117,[(0,.ptr 1000 0),(3,.d (.int (u.1:Int)))],[(1000,some (.blk 94 [.d (.str s),.d (.int (A:Int)),.d (.int e)]))]⟩)
   (μ:=fun u=>s.size-u.1) ⟨A,⟨rfl,Nat.le_refl _,hjl⟩⟩ (Le.sub (by simp) (by simp)) (fun⟨k,hw⟩=>?_)
  dsimp only;obtain⟨hpk,hk0,hkl⟩:=hw;by_cases hj:(k:Int)<N
  ·have hj1:k<s.size:=by omega
   have h1c:s[k]? =some s[k]:=by rw[getElem?_pos]
   generalize s[k]=c at h1c;obtain⟨cn,hcn⟩:∃n:Int,(c.toNat:Int)=n:=⟨_,rfl⟩
   have hbl:=sp_blank c;obtain⟨q,hq⟩:∃q,isBl c=q:=⟨_,rfl⟩
   rw[hq,hcn]at hbl;cases q with
   |true=>
    refine AWp.rg [] [.p (fun _=>.d (.bool true)) none] ?_ (hr:=by conv=>lhs;simp[hN,h1d,hdn,h1c,hcn,hj,q7,q8]);refine AWp.cn ?_;refine AWp.exit ?_;have hst:=Rv h1c (by rw[hq];rfl);have hbr:Qz9 d=false:=by rw[Yx,Bool.or_eq_false_iff,decide_eq_false_iff_not,decide_eq_false_iff_not];omega
    rw[pkE_wd h1d hbr]at hW;rw[hst]at hpk;rw[←hpk]at hW;rw[hW];refine AWp.dw [] [] mixed ?_ (hr:=by conv=>lhs;simp[hN,h1d,hdn,h1c,hcn,hj,q7,q8]);refine AWp.ret ?_;try dsimp only[Qq,Q6]
    apply Qk.ret
    ·rfl
    ·conv=>lhs;simp[Q9,Tryz.results44]
    ·first|rfl|simp
    ·simp[Qx,Q4]
   |false=>
    by_cases q9:cn=40
    ·have q9t:=eq_true q9;refine AWp.rg [] [.p (fun _=>.d (.bool false)) none] ?_ (hr:=by conv=>lhs;simp[hN,h1d,hdn,h1c,hcn,hj,q7,q8,q9t]);refine AWp.cn ?_;refine AWp.exit ?_;have hst:=Rv h1c (by rw[Bool.or_eq_true,Yx,Bool.or_eq_true,decide_eq_true_eq,decide_eq_true_eq];omega);have hbr:Qz9 d=false:=by rw[Yx,Bool.or_eq_false_iff,decide_eq_false_iff_not,decide_eq_false_iff_not];omega
     rw[pkE_wd h1d hbr]at hW;rw[hst]at hpk;rw[←hpk]at hW;rw[hW];refine AWp.dw [] [] mixed ?_ (hr:=by conv=>lhs;simp[hN,h1d,hdn,h1c,hcn,hj,q7,q8,q9t]);refine AWp.ret ?_;try dsimp only[Qq,Q6]
     apply Qk.ret
     ·rfl
     ·conv=>lhs;simp[Q9,Tryz.results44]
     ·first|rfl|simp
     ·simp[Qx,Q4]
    by_cases q10:cn=41
    ·have q10t:=eq_true q10;refine AWp.rg [] [.p (fun _=>.d (.bool false)) none] ?_ (hr:=by conv=>lhs;simp[hN,h1d,hdn,h1c,hcn,hj,q7,q8,q9,q10t]);refine AWp.cn ?_;refine AWp.exit ?_;have hst:=Rv h1c (by rw[Bool.or_eq_true,Yx,Bool.or_eq_true,decide_eq_true_eq,decide_eq_true_eq];omega);have hbr:Qz9 d=false:=by rw[Yx,Bool.or_eq_false_iff,decide_eq_false_iff_not,decide_eq_false_iff_not];omega
     rw[pkE_wd h1d hbr]at hW;rw[hst]at hpk;rw[←hpk]at hW;rw[hW];refine AWp.dw [] [] mixed ?_ (hr:=by conv=>lhs;simp[hN,h1d,hdn,h1c,hcn,hj,q7,q8,q9,q10t]);refine AWp.ret ?_;try dsimp only[Qq,Q6]
     apply Qk.ret
     ·rfl
     ·conv=>lhs;simp[Q9,Tryz.results44]
     ·first|rfl|simp
     ·simp[Qx,Q4]
    refine AWp.rg [] [.p (fun _=>.d (.bool false)) none] ?_ (hr:=by conv=>lhs;simp[hN,h1d,hdn,h1c,hcn,hj,q7,q8,q9,q10]);refine AWp.cy ?_;refine AWp.skip ?_;refine AWp.rg [] [] ?_ (hr:=by conv=>lhs;simp[hN,h1d,hdn,h1c,hcn,hj,q7,q8,q9,q10]);refine⟨⟨k+1,⟨by rw[pkV_on h1c hq (by rw[Yx,Bool.or_eq_false_iff,decide_eq_false_iff_not,decide_eq_false_iff_not];omega)];exact hpk,by omega,by omega⟩⟩,by dsimp only;omega,?_⟩;dsimp only;exact Le.sub (by simp[hN]) (by simp[hN])
  have hj1:s.size≤k:=by omega
  refine AWp.rg [] [] ?_ (hr:=by conv=>lhs;simp[hN,h1d,hdn,hj,q7,q8]);refine AWp.cn ?_;refine AWp.exit ?_;have hst:=F6 hj1;have hbr:Qz9 d=false:=by rw[Yx,Bool.or_eq_false_iff,decide_eq_false_iff_not,decide_eq_false_iff_not];omega
  rw[pkE_wd h1d hbr]at hW;rw[hst]at hpk;rw[←hpk]at hW;rw[hW];refine AWp.dw [] [] mixed ?_ (hr:=by conv=>lhs;simp[hN,h1d,hdn,hj,q7,q8]);refine AWp.ret ?_;try dsimp only[Qq,Q6]
  apply Qk.ret
  ·rfl
  ·conv=>lhs;simp[Q9,Tryz.results44]
  ·first|rfl|simp
  ·simp[Qx,Q4]
 have hj1:s.size≤A:=by omega
 have hA1:=hj1;refine AWp.rg [] [] ?_ (hr:=by conv=>lhs;simp[hN,hj]);refine AWp.cn ?_;refine AWp.skip ?_;repeat (first|refine AWp.seq ?_|refine AWp.block ?_)
 refine AWp.loop (σ:=fun u:{u:Nat // (pkV s u=pkV s A∧A≤u∧u≤s.size)}=>⟨117,[(0,.ptr 1000 0),(3,.d (.int (u.1:Int)))],[(1000,some (.blk 94 [.d (.str s),.d (.int (A:Int)),.d (.int e)]))]⟩)
  (μ:=fun u=>s.size-u.1) ⟨A,⟨rfl,Nat.le_refl _,hjl⟩⟩ (Le.sub (by simp) (by simp)) (fun⟨k,hw⟩=>?_)
 dsimp only;obtain⟨hpk,hk0,hkl⟩:=hw;by_cases hj:(k:Int)<N
 ·have hj1:k<s.size:=by omega
  have h1c:s[k]? =some s[k]:=by rw[getElem?_pos]
  generalize s[k]=c at h1c;obtain⟨cn,hcn⟩:∃n:Int,(c.toNat:Int)=n:=⟨_,rfl⟩
  have hbl:=sp_blank c;obtain⟨q,hq⟩:∃q,isBl c=q:=⟨_,rfl⟩
  rw[hq,hcn]at hbl;cases q with
  |true=>
   refine AWp.rg [] [.p (fun _=>.d (.bool true)) none] ?_ (hr:=by conv=>lhs;simp[hN,h1c,hcn,hj]);refine AWp.cn ?_;refine AWp.exit ?_;have hst:=Rv h1c (by rw[hq];rfl);rw[show pkE s A=pkV s A from by rw[O7 hA1,F6 hA1]]at hW;rw[hst]at hpk;rw[←hpk]at hW;rw[hW];refine AWp.dw [] [] mixed ?_ (hr:=by conv=>lhs;simp[hN,h1c,hcn,hj]);refine AWp.ret ?_;try dsimp only[Qq,Q6]
   apply Qk.ret
   ·rfl
   ·conv=>lhs;simp[Q9,Tryz.results44]
   ·first|rfl|simp
   ·simp[Qx,Q4]
  |false=>
   by_cases q11:cn=40
   ·have q11t:=eq_true q11;refine AWp.rg [] [.p (fun _=>.d (.bool false)) none] ?_ (hr:=by conv=>lhs;simp[hN,h1c,hcn,hj,q11t]);refine AWp.cn ?_;refine AWp.exit ?_;have hst:=Rv h1c (by rw[Bool.or_eq_true,Yx,Bool.or_eq_true,decide_eq_true_eq,decide_eq_true_eq];omega);rw[show pkE s A=pkV s A from by rw[O7 hA1,F6 hA1]]at hW;rw[hst]at hpk;rw[←hpk]at hW;rw[hW];refine AWp.dw [] [] mixed ?_ (hr:=by conv=>lhs;simp[hN,h1c,hcn,hj,q11t]);refine AWp.ret ?_;try dsimp only[Qq,Q6]
    apply Qk.ret
    ·rfl
    ·conv=>lhs;simp[Q9,Tryz.results44]
    ·first|rfl|simp
    ·simp[Qx,Q4]
   by_cases q12:cn=41
   ·have q12t:=eq_true q12;refine AWp.rg [] [.p (fun _=>.d (.bool false)) none] ?_ (hr:=by conv=>lhs;simp[hN,h1c,hcn,hj,q11,q12t]);refine AWp.cn ?_;refine AWp.exit ?_;have hst:=Rv h1c (by rw[Bool.or_eq_true,Yx,Bool.or_eq_true,decide_eq_true_eq,decide_eq_true_eq];omega);rw[show pkE s A=pkV s A from by rw[O7 hA1,F6 hA1]]at hW;rw[hst]at hpk;rw[←hpk]at hW;rw[hW];refine AWp.dw [] [] mixed ?_ (hr:=by conv=>lhs;simp[hN,h1c,hcn,hj,q11,q12t]);refine AWp.ret ?_;try dsimp only[Qq,Q6]
    apply Qk.ret
    ·rfl
    ·conv=>lhs;simp[Q9,Tryz.results44]
    ·first|rfl|simp
    ·simp[Qx,Q4]
   refine AWp.rg [] [.p (fun _=>.d (.bool false)) none] ?_ (hr:=by conv=>lhs;simp[hN,h1c,hcn,hj,q11,q12]);refine AWp.cy ?_;refine AWp.skip ?_;refine AWp.rg [] [] ?_ (hr:=by conv=>lhs;simp[hN,h1c,hcn,hj,q11,q12]);refine⟨⟨k+1,⟨by rw[pkV_on h1c hq (by rw[Yx,Bool.or_eq_false_iff,decide_eq_false_iff_not,decide_eq_false_iff_not];omega)];exact hpk,by omega,by omega⟩⟩,by dsimp only;omega,?_⟩;dsimp only;exact Le.sub (by simp[hN]) (by simp[hN])
 have hj1:s.size≤k:=by omega
 refine AWp.rg [] [] ?_ (hr:=by conv=>lhs;simp[hN,hj]);refine AWp.cn ?_;refine AWp.exit ?_;have hst:=F6 hj1;rw[show pkE s A=pkV s A from by rw[O7 hA1,F6 hA1]]at hW;rw[hst]at hpk;rw[←hpk]at hW;rw[hW];refine AWp.dw [] [] mixed ?_ (hr:=by conv=>lhs;simp[hN,hj]);refine AWp.ret ?_;try dsimp only[Qq,Q6]
 apply Qk.ret
 ·rfl
 ·conv=>lhs;simp[Q9,Tryz.results44]
 ·first|rfl|simp
 ·simp[Qx,Q4]
theorem size_zero {b:ByteArray} (h:b.size=0):b=ByteArray.empty:=by
 obtain⟨⟨l⟩⟩:=b;rcases l with _|⟨x,l⟩
 ·rfl
 ·simp[ByteArray.size]at h
@[simp] theorem mk_size (a:Array UInt8):(ByteArray.mk a).size=a.size:=rfl
@[simp] theorem le_maxLen1:1≤maxLen:=by decide
@[simp] theorem le_maxLen2:2≤maxLen:=by decide
@[simp] theorem le_maxLen3:3≤maxLen:=by decide
@[simp] theorem le_maxLen5:5≤maxLen:=by decide
theorem sharp_of {w:ByteArray} {c:UInt8} (h:w[0]? =some c):sharp w=decide ((c.toNat:Int)=35):=by
 unfold sharp;have h1:=Qk9 h;rw[List.drop_zero]at h1;rw[h1,Bool.eq_iff_iff,beq_iff_eq,decide_eq_true_eq];omega
theorem M6 (s:ByteArray) (a:Nat) (e:Int) (ha:a≤s.size) (hs:s.size≤1500):Qv Tryz.prog 76 [.ptr 1000 0] [(1000,pO s a e)] (.d (.str (pkW s a))) [(1000,pO s (nxS s (a,e)).1 (nxS s (a,e)).2)]:=by
 have hpk:=O9 s a e ha hs;have hsz:=Qz4 ha;have h1:=U5 ha;have h2:=pkE_le h1.2;unfold nxS;dsimp only;generalize pkW s a=W at *;generalize pkA s a=A at *;generalize pkE s A=E2 at *;have hE3:(A:Int)+(W.size:Int)=(E2:Int):=by omega
 unfold pO at *;refine Qv.of Tryz.func76 rfl rfl (Nat.le_of_ble_eq_true rfl) ?_;show AWp _ _ (Qk _ Tryz.f76 _ _) (Zz 21 _ _);refine AWp.rg [] [] ?_;refine AWp.rg [] [.c [] [.ptr 1000 0] [(1000,.blk 94 [.d (.str s),.d (.int (a:Int)),.d (.int e)])] (.d (.str W)) [(1000,.blk 94 [.d (.str s),.d (.int (A:Int)),.d (.int e)])]] ?_;by_cases q1:W=⟨#[]⟩
 ·have q1t:=eq_true q1;refine AWp.rg [] [] ?_ (hr:=by conv=>lhs;simp[q1t]);refine AWp.cy ?_;have hz:W.size=0:=by rw[q1];rfl
  have hbd:=cs_bad s A e 8;rw[if_pos hz];refine AWp.rg [] [.c [] [.ptr 1000 0,.d (.int 8)] [(1000,.blk 94 [.d (.str s),.d (.int (A:Int)),.d (.int e)])] (.tuple []) [(1000,.blk 94 [.d (.str s),.d (.int (A:Int)),.d (.int (I6 e 8))])]] ?_ (hr:=by conv=>lhs;simp[q1t]);refine AWp.rg [] [] ?_ (hr:=by conv=>lhs;simp[hE3,q1t]);refine AWp.rg [] [] ?_ (hr:=by conv=>lhs;simp[hE3,q1t]);refine AWp.ret ?_;try dsimp only[Qq,Q6]
  apply Qk.ret
  ·rfl
  ·conv=>lhs;simp[Q9,Tryz.results76]
  ·first|rfl|simp
  ·simp[Qx,Q4]
 refine AWp.rg [] [] ?_ (hr:=by conv=>lhs;simp[q1]);refine AWp.cn ?_;refine AWp.skip ?_;have hz:W.size≠0:=fun h=>q1 (size_zero h)
 rw[if_neg hz];refine AWp.rg [] [] ?_ (hr:=by conv=>lhs;simp[hE3,q1]);refine AWp.rg [] [] ?_ (hr:=by conv=>lhs;simp[hE3,q1]);refine AWp.ret ?_;try dsimp only[Qq,Q6]
 apply Qk.ret
 ·rfl
 ·conv=>lhs;simp[Q9,Tryz.results76]
 ·first|rfl|simp
 ·simp[Qx,Q4]
theorem U3 (s w:ByteArray) (a:Nat) (e:Int) (ha:a≤s.size) (hs:s.size≤1500):Qv Tryz.prog 45 [.ptr 1000 0,.d (.str w)] [(1000,pO s a e)] (.tuple []) [(1000,pO s (K3 s w (a,e)).1 (K3 s w (a,e)).2)]:=by
 have hnx:=M6 s a e ha hs;have hadv:=V6 (s:=s) (p:=(a,e)) ha;have hA2:=hadv.sz;unfold K3;dsimp only;generalize pkW s a=W at *;generalize nxS s (a,e)=p2 at *;obtain⟨A2,e2⟩:=p2;dsimp only at *;unfold pO at *;refine Qv.of Tryz.func45 rfl rfl (Nat.le_of_ble_eq_true rfl) ?_;show AWp _ _ (Qk _ Tryz.f45 _ _) (Zz 10 _ _);by_cases q1:W=w
 ·have q1t:=eq_true q1;refine AWp.rg [] [.c [] [.ptr 1000 0] [(1000,.blk 94 [.d (.str s),.d (.int (a:Int)),.d (.int e)])] (.d (.str W)) [(1000,.blk 94 [.d (.str s),.d (.int (A2:Int)),.d (.int e2)])]] ?_ (hr:=by conv=>lhs;simp[q1t]);refine AWp.cn ?_;refine AWp.skip ?_;rw[if_pos q1];try dsimp only[Qq,Q6]
  apply Qk.normal
  ·rfl
  ·conv=>lhs;simp[Q9,Tryz.results45]
  ·rfl
  ·simp[Qx,Q4]
 refine AWp.rg [] [.c [] [.ptr 1000 0] [(1000,.blk 94 [.d (.str s),.d (.int (a:Int)),.d (.int e)])] (.d (.str W)) [(1000,.blk 94 [.d (.str s),.d (.int (A2:Int)),.d (.int e2)])]] ?_ (hr:=by conv=>lhs;simp[q1]);refine AWp.cy ?_;have hbd:=cs_bad s A2 e2 2;rw[if_neg q1];refine AWp.rg [] [.c [] [.ptr 1000 0,.d (.int 2)] [(1000,.blk 94 [.d (.str s),.d (.int (A2:Int)),.d (.int e2)])] (.tuple []) [(1000,.blk 94 [.d (.str s),.d (.int (A2:Int)),.d (.int (I6 e2 2))])]] ?_ (hr:=by conv=>lhs;simp[q1]);try dsimp only[Qq,Q6]
 apply Qk.normal
 ·rfl
 ·conv=>lhs;simp[Q9,Tryz.results45]
 ·rfl
 ·simp[Qx,Q4]
theorem I4 (s:ByteArray) (a:Nat) (e:Int) (ha:a≤s.size) (hs:s.size≤1500):Qv Tryz.prog 46 [.ptr 1000 0] [(1000,pO s a e)] (.d (.str (V7 s (a,e)).1)) [(1000,pO s (V7 s (a,e)).2.1 (V7 s (a,e)).2.2)]:=by
 have hnx:=M6 s a e ha hs;have hadv:=V6 (s:=s) (p:=(a,e)) ha;have hA2:=hadv.sz;have hWs:=Qz4 ha;have h1:=U5 ha;have h2:=pkE_le h1.2;have hWs2:(pkW s a).size≤1500:=by omega
 clear hWs h1 h2;unfold V7;dsimp only;generalize pkW s a=W at *;generalize nxS s (a,e)=p2 at *;obtain⟨A2,e2⟩:=p2;dsimp only at *;unfold pO at *;refine Qv.of Tryz.func46 rfl rfl (Nat.le_of_ble_eq_true rfl) ?_;show AWp _ _ (Qk _ Tryz.f46 _ _) (Zz 12 _ _);refine AWp.rg [] [] ?_;refine AWp.rg [] [.c [] [.ptr 1000 0] [(1000,.blk 94 [.d (.str s),.d (.int (a:Int)),.d (.int e)])] (.d (.str W)) [(1000,.blk 94 [.d (.str s),.d (.int (A2:Int)),.d (.int e2)])]] ?_;have hna:=sp_Name W (by omega);generalize R7 W=q at *;cases q with
 |true=>
  refine AWp.rg [] [.p (fun _=>.d (.bool true)) none] ?_;refine AWp.cn ?_;refine AWp.skip ?_;refine AWp.rg [] [] ?_;refine AWp.ret ?_;try simp only[if_true,Bool.false_eq_true,if_false]
  try dsimp only[Qq,Q6]
  apply Qk.ret
  ·rfl
  ·conv=>lhs;simp[Q9,Tryz.results46]
  ·first|rfl|simp
  ·simp[Qx,Q4]
 |false=>
  refine AWp.rg [] [.p (fun _=>.d (.bool false)) none] ?_;refine AWp.cy ?_;have hbd:=cs_bad s A2 e2 7;refine AWp.rg [] [.c [] [.ptr 1000 0,.d (.int 7)] [(1000,.blk 94 [.d (.str s),.d (.int (A2:Int)),.d (.int e2)])] (.tuple []) [(1000,.blk 94 [.d (.str s),.d (.int (A2:Int)),.d (.int (I6 e2 7))])]] ?_;refine AWp.rg [] [] ?_;refine AWp.ret ?_;try simp only[if_true,Bool.false_eq_true,if_false]
  try dsimp only[Qq,Q6]
  apply Qk.ret
  ·rfl
  ·conv=>lhs;simp[Q9,Tryz.results46]
  ·first|rfl|simp
  ·simp[Qx,Q4]
theorem cs_tag (s:ByteArray) (a:Nat) (e:Int) (ha:a≤s.size) (hs:s.size≤1500):Qv Tryz.prog 80 [.ptr 1000 0] [(1000,pO s a e)] (.d (.int (tagP false s (a,e)).1)) [(1000,pO s (tagP false s (a,e)).2.1 (tagP false s (a,e)).2.2)]:=by
 have hnx:=M6 s a e ha hs;have hadv:=V6 (s:=s) (p:=(a,e)) ha;have hA2:=hadv.sz;have hWs:=Qz4 ha;have h1:=U5 ha;have h2:=pkE_le h1.2;have hWs2:(pkW s a).size≤1500:=by omega
 clear hWs h1 h2;rw[tagP_ref];dsimp only;generalize pkW s a=W at *;generalize nxS s (a,e)=p2 at *;obtain⟨A2,e2⟩:=p2;dsimp only at *;unfold pO at *;refine Qv.of Tryz.func80 rfl rfl (Nat.le_of_ble_eq_true rfl) ?_;show AWp _ _ (Qk _ Tryz.f80 _ _) (Zz 26 _ _);refine AWp.rg [] [] ?_;refine AWp.rg [] [.c [] [.ptr 1000 0] [(1000,.blk 94 [.d (.str s),.d (.int (a:Int)),.d (.int e)])] (.d (.str W)) [(1000,.blk 94 [.d (.str s),.d (.int (A2:Int)),.d (.int e2)])]] ?_;obtain⟨M,hM⟩:∃M:Int,(W.size:Int)=M:=⟨_,rfl⟩
 by_cases hl:1<M
 ·have h1c:W[0]? =some W[0]:=by rw[getElem?_pos]
  generalize W[0]=c at h1c;rw[sharp_of h1c,show decide (1<W.size)=true from decide_eq_true (by omega),Bool.true_and];obtain⟨cn,hcn⟩:∃n:Int,(c.toNat:Int)=n:=⟨_,rfl⟩
  rw[hcn];by_cases q1:cn=35
  ·have q1t:=eq_true q1;refine AWp.rg [] [] ?_ (hr:=by conv=>lhs;simp[hM,h1c,hcn,hl,q1t]);refine AWp.cy ?_;rw[show decide (cn=35)=true from decide_eq_true q1,Bool.true_and];have hX0:(W.extract 1 W.size).size≤1500:=by rw[ByteArray.size_extract];omega
   have hnu:=sp_Number (W.extract 1 W.size) (by omega);have hX:W.extract 1 M.toNat=W.extract 1 W.size:=by rw[←hM,Int.toNat_natCast]
   generalize W.extract 1 W.size=X at *;generalize numP X=nq at *;obtain⟨n,q⟩:=nq;dsimp only at hnu⊢;refine AWp.rg [] [.p (fun _=>.tuple [.d (.int n),.d (.bool q)]) none] ?_ (hr:=by conv=>lhs;simp[hM,h1c,hcn,hX,hl,q1t]);cases q with
   |true=>
    refine AWp.rg [] [] ?_ (hr:=by conv=>lhs;simp[hM,h1c,hcn,hX,hl,q1t]);refine AWp.cy ?_;refine AWp.rg [] [] ?_ (hr:=by conv=>lhs;simp[hM,h1c,hcn,hX,hl,q1t]);refine AWp.ret ?_;try simp only[if_true,Bool.false_eq_true,if_false]
    try dsimp only[Qq,Q6]
    apply Qk.ret
    ·rfl
    ·conv=>lhs;simp[Q9,Tryz.results80]
    ·first|rfl|simp
    ·simp[Qx,Q4]
   |false=>
    refine AWp.rg [] [] ?_ (hr:=by conv=>lhs;simp[hM,h1c,hcn,hX,hl,q1t]);refine AWp.cn ?_;refine AWp.skip ?_;have hbd:=cs_bad s A2 e2 2;refine AWp.rg [] [.c [] [.ptr 1000 0,.d (.int 2)] [(1000,.blk 94 [.d (.str s),.d (.int (A2:Int)),.d (.int e2)])] (.tuple []) [(1000,.blk 94 [.d (.str s),.d (.int (A2:Int)),.d (.int (I6 e2 2))])]] ?_ (hr:=by conv=>lhs;simp[hM,h1c,hcn,hX,hl,q1t]);refine AWp.rg [] [] ?_ (hr:=by conv=>lhs;simp[hM,h1c,hcn,hX,hl,q1t]);refine AWp.ret ?_;try simp only[if_true,Bool.false_eq_true,if_false]
    try dsimp only[Qq,Q6]
    apply Qk.ret
    ·rfl
    ·conv=>lhs;simp[Q9,Tryz.results80]
    ·first|rfl|simp
    ·simp[Qx,Q4]
  refine AWp.rg [] [] ?_ (hr:=by conv=>lhs;simp[hM,h1c,hcn,hl,q1]);refine AWp.cn ?_;refine AWp.skip ?_;rw[show decide (cn=35)=false from decide_eq_false q1,Bool.false_and];have hbd:=cs_bad s A2 e2 2;refine AWp.rg [] [.c [] [.ptr 1000 0,.d (.int 2)] [(1000,.blk 94 [.d (.str s),.d (.int (A2:Int)),.d (.int e2)])] (.tuple []) [(1000,.blk 94 [.d (.str s),.d (.int (A2:Int)),.d (.int (I6 e2 2))])]] ?_ (hr:=by conv=>lhs;simp[hM,h1c,hcn,hl,q1]);refine AWp.rg [] [] ?_ (hr:=by conv=>lhs;simp[hM,h1c,hcn,hl,q1]);refine AWp.ret ?_;try simp only[if_true,Bool.false_eq_true,if_false]
  try dsimp only[Qq,Q6]
  apply Qk.ret
  ·rfl
  ·conv=>lhs;simp[Q9,Tryz.results80]
  ·first|rfl|simp
  ·simp[Qx,Q4]
 rw[show decide (1<W.size)=false from decide_eq_false (by omega),Bool.false_and,Bool.false_and];refine AWp.rg [] [] ?_ (hr:=by conv=>lhs;simp[hM,hl]);refine AWp.cn ?_;refine AWp.skip ?_;have hbd:=cs_bad s A2 e2 2;refine AWp.rg [] [.c [] [.ptr 1000 0,.d (.int 2)] [(1000,.blk 94 [.d (.str s),.d (.int (A2:Int)),.d (.int e2)])] (.tuple []) [(1000,.blk 94 [.d (.str s),.d (.int (A2:Int)),.d (.int (I6 e2 2))])]] ?_ (hr:=by conv=>lhs;simp[hM,hl]);refine AWp.rg [] [] ?_ (hr:=by conv=>lhs;simp[hM,hl]);refine AWp.ret ?_;try simp only[if_true,Bool.false_eq_true,if_false]
 try dsimp only[Qq,Q6]
 apply Qk.ret
 ·rfl
 ·conv=>lhs;simp[Q9,Tryz.results80]
 ·first|rfl|simp
 ·simp[Qx,Q4]
end Go.Proofs.YtjpldhjgehoffaaGreatDoor
