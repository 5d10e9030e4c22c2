import Derived.Test.YtjpldhjgehoffaaDoorParseE
import Derived.Test.YtjpldhjgehoffaaDoorCheckA
namespace Go.Proofs.YtjpldhjgehoffaaDoor
open Go.RowKit
attribute [local simp] Cq mkRc ldOf stOf Qz4 Fq M4 Rq K7 V3 Yv K4 J7 Y9 L9 evA Kv G8 Value.oneCell' Zj Q4 Z7 Iz Vz Z0 AS.after Z8 K8 Jv AV.ids Mq Qz.ids Qj3 F9 Wv U9 G6 Y0 Y5 Kk V9 V7 Yz Ov T9 setAt Vj Cj Gq Pj R9 Pk binI AV.cells J9 Jz R8 U1 AV.kill Qz.kill AV.has AV.K9 Op.operands Call.operands Gj Hw Zv Oz Zz Xz Tk moQ M6 Uz Yw AV.ren Tj Qz.ren Qz.like kept X8 M5 AV.frz Pz Cw Ex H9 F3 AS.frz Mv Uw Qz.frz Rx Rj bleF Nat.ble_eq R4 Ww K3 D.Yx F5 Uv Vx Vq phO Px Gz Wx U0 K6 Low Sq
set_option linter.unusedVariables false
set_option linter.unusedSimpArgs false
theorem tmrl2 (a : Tm) : a.row.length = 7:=by cases a;simp [Tm.row]
def OdN (N : Nat) : Prop:=∀ (t : Tm) (has : List ByteArray),t.Rt N→t.Fit→has.length + 6 * N≤100000→(∀ s∈has,s.size≤140737488355328) →
 Qw Tryd.prog 60 [Xw t,X6 has] (fun _=>Xw (t.ow has)) none
set_option maxRecDepth 20000 in
set_option maxHeartbeats 16000000 in
theorem od_step (N : Nat) (ih : OdN N) : OdN (N + 1):=by
 intro t has hRt hF hhl hhs
 obtain ⟨R,hR⟩ : ∃ R,R = t.ow has:=⟨_,rfl⟩
 rw [← hR]
 obtain ⟨rk,rn,ra,rb,rvs,rxs,rcs⟩:=R
 have hfr:=Qz5 t hF
 have hfl : t.free.length≤1048576:=Nat.le_trans (Tm.D6 t) hF.sz
 obtain ⟨tk,tn,ta,tb,tvs,txs,tcs⟩:=t
 obtain ⟨hkk,hmany,h6,hxR,hcR⟩:=hRt
 have hxF : ∀ x∈txs,x.Fit:=fun x hx=>hF.arg hx
 rw [Tm.ow] at hR
 generalize (Tm.mk tk tn ta tb tvs txs tcs).free = fr at hfr hfl hR
 have hou:=sp_pickO has fr (by omega) (by omega)
 have hin:=sp_pickI has fr (by omega) (by omega)
 have hGl:=Fv has fr
 have hol:=Rv has fr
 have hos : ∀ s∈inN has fr,s.size≤140737488355328:=fun s hs=>hhs s (List.mem_filter.1 hs).1
 generalize woN has fr = G at hou hGl hR
 generalize inN has fr = own at hin hol hos hR
 refine Qw.of Tryd.func60 rfl rfl rfl (Nat.le_of_ble_eq_true rfl) ?_
 show AWp _ _ (Zk _ Tryd.f60 _ _ _) (Z7 186 _)
 refine AWp.rg [] [] ?_ (hr:=by conv=>lhs;simp [Tm.row,Tm.Q3,Cs.Q3])
 refine AWp.rg [1] [.p (fun d=>.arr d 0 fr.length) (some (.arr 9 1 (fr.map Zw)))] ?_ (hr:=by conv=>lhs;simp [Tm.row,Tm.Q3,Cs.Q3])
 refine AWp.rg [] [.p (fun _=>.d (Q7 G)) none,.p (fun _=>.d (Q7 own)) none] ?_ (hr:=by conv=>lhs;simp [Tm.row,Tm.Q3,Cs.Q3])
 refine AWp.rg [] [] ?_ (hr:=by conv=>lhs;simp [Tm.row,Tm.Q3,Cs.Q3])
 refine AWp.rg [] [] ?_ (hr:=by conv=>lhs;simp [Tm.row,Tm.Q3,Cs.Q3])
 by_cases q1 : tk = 3
 ·refine AWp.rg [] [] ?_ (hr:=by conv=>lhs;simp [Tm.row,Tm.Q3,Cs.Q3,q1])
  refine AWp.cy ?_
  refine AWp.skip ?_
  refine AWp.cy ?_
  subst q1
  rw [if_pos (by omega)] at hR
  refine AWp.rg [] [] ?_ (hr:=by conv=>lhs;simp [Tm.row,Tm.Q3,Cs.Q3])
  refine AWp.rg [] [] ?_ (hr:=by conv=>lhs;simp [Tm.row,Tm.Q3,Cs.Q3])
  repeat (first | refine AWp.seq ?_ | refine AWp.block ?_)
  refine AWp.le (Le.low [400] [] (fr:=[(2,.ptr 2 0),(4,.ptr 4 0),(6,.d (Q7 G)),(7,.ptr 7 0),(8,.arr 400 0 ([] : List ByteArray).length),(37,.d (.sl (txs.map Tm.row))),(38,.d (.int (txs.length : Int))),(39,.d (.int (0 : Int)))]) (mem:=[(2,some (.blk 32 [.d (.int 3),.d (.int tn),.d (.str ta),.d (.str tb),.d (Q7 tvs),.d (.sl (txs.map Tm.row)),.d (.sl (tcs.map Cs.row))])),(4,some (.blk 32 [.d (.int 0),.d (.int 0),.d (.str ByteArray.empty),.d (.str ByteArray.empty),.lit (.slice none 0 0),.lit (.slice none 0 0),.lit (.slice none 0 0)])),(7,some (.blk 32 [.d (.int 3),.d (.int tn),.d (.str ta),.d (.str tb),.d (Q7 tvs),.d (.sl (txs.map Tm.row)),.d (.sl (tcs.map Cs.row))])),(400,some (.arr 9 1 (([] : List ByteArray).map Zw)))]) rfl (by simp) (by simp)) ?_
  refine AWp.loop (σ:=fun u : {u : Nat×List ByteArray // u.1≤txs.length∧(R3 [] txs = u.2 ++ R3 ((txs.take u.1).map Tm.nm) (txs.drop u.1)∧u.2.length≤u.1)}=>⟨186,[(2,.ptr 2 0),(4,.ptr 4 0),(6,.d (Q7 G)),(7,.ptr 7 0),(8,.arr 400 0 u.1.2.length),(37,.d (.sl (txs.map Tm.row))),(38,.d (.int (txs.length : Int))),(39,.d (.int (u.1.1 : Int)))],[(2,some (.blk 32 [.d (.int 3),.d (.int tn),.d (.str ta),.d (.str tb),.d (Q7 tvs),.d (.sl (txs.map Tm.row)),.d (.sl (tcs.map Cs.row))])),(4,some (.blk 32 [.d (.int 0),.d (.int 0),.d (.str ByteArray.empty),.d (.str ByteArray.empty),.lit (.slice none 0 0),.lit (.slice none 0 0),.lit (.slice none 0 0)])),(7,some (.blk 32 [.d (.int 3),.d (.int tn),.d (.str ta),.d (.str tb),.d (Q7 tvs),.d (.sl (txs.map Tm.row)),.d (.sl (tcs.map Cs.row))])),(400,some (.arr 9 1 (u.1.2.map Zw)))]⟩)
   (μ:=fun u=>txs.length - u.1.1) ⟨(0,[]),⟨Nat.zero_le _,⟨by simp,Nat.le_refl _⟩⟩⟩ (Le.sub (by simp) (by simp)) (fun ⟨(i,us),⟨hi10,hw⟩⟩=>?_)
  dsimp only at hi10 hw ⊢
  refine AWp.rg [] [] ?_ (hr:=by conv=>lhs;simp [Tm.row,Tm.Q3,Cs.Q3])
  repeat (first | refine AWp.seq ?_ | refine AWp.block ?_)
  refine AWp.cond rfl (fun hc=>?_) (fun hc=>?_)
  ·have hi1 : i < txs.length:=by have:=of_decide_eq_true hc;omega
   clear hc
   have h1y : txs[i]? = some txs[i]:=List.getElem?_eq_getElem hi1
   have hmy : txs[i]∈txs:=List.getElem_mem hi1
   have hdy : txs.drop i = txs[i] :: txs.drop (i + 1):=List.drop_eq_getElem_cons hi1
   generalize txs[i] = y at h1y hmy hdy
   obtain ⟨hap,hul⟩:=hw
   rw [hdy,R3] at hap
   obtain ⟨yk,yn,ya,yb,yvs,yxs,ycs⟩:=y
   rw [Tm.nm] at hap
   obtain ⟨pt,hpt⟩ : ∃ pt,pt = txs.take i:=⟨_,rfl⟩
   have hptl : pt.length = i:=by rw [hpt,List.length_take];omega
   have hpr : List.take i (List.map Tm.row txs) = List.map Tm.row pt:=by rw [hpt,List.map_take]
   rw [← hpt] at hap
   have htr : ∀ (i : Nat) (a : Tm),txs[i]? = some a→a.row.length = 7:=fun _ a _=>tmrl2 a
   have hi1o:=hi1
   refine AWp.skip ?_
   refine AWp.rg [] [] ?_ (hr:=by conv=>lhs;simp [Tm.row,Tm.Q3,Cs.Q3,h1y,hpr])
   refine AWp.rg [] [] ?_ (hr:=by conv=>lhs;simp [Tm.row,Tm.Q3,Cs.Q3,h1y,hpr])
   repeat (first | refine AWp.seq ?_ | refine AWp.block ?_)
   refine AWp.loop (σ:=fun u : {u : Nat // u≤pt.length∧∀ z∈pt.take u,z.nm≠ya}=>⟨186,[(2,.ptr 2 0),(4,.ptr 4 0),(6,.d (Q7 G)),(7,.ptr 7 0),(8,.arr 400 0 us.length),(10,.ptr 10 0),(37,.d (.sl (txs.map Tm.row))),(38,.d (.int (txs.length : Int))),(39,.d (.int (i : Int))),(47,.d (.sl (pt.map Tm.row))),(48,.d (.int (pt.length : Int))),(49,.d (.int (u.1 : Int)))],[(2,some (.blk 32 [.d (.int 3),.d (.int tn),.d (.str ta),.d (.str tb),.d (Q7 tvs),.d (.sl (txs.map Tm.row)),.d (.sl (tcs.map Cs.row))])),(4,some (.blk 32 [.d (.int 0),.d (.int 0),.d (.str ByteArray.empty),.d (.str ByteArray.empty),.lit (.slice none 0 0),.lit (.slice none 0 0),.lit (.slice none 0 0)])),(7,some (.blk 32 [.d (.int 3),.d (.int tn),.d (.str ta),.d (.str tb),.d (Q7 tvs),.d (.sl (txs.map Tm.row)),.d (.sl (tcs.map Cs.row))])),(10,some (.blk 32 [.d (.int yk),.d (.int yn),.d (.str ya),.d (.str yb),.d (Q7 yvs),.d (.sl (yxs.map Tm.row)),.d (.sl (ycs.map Cs.row))])),(400,some (.arr 9 1 (us.map Zw)))]⟩)
    (μ:=fun u=>pt.length - u.1) ⟨0,⟨Nat.zero_le _,by simp⟩⟩ (Le.sub (by simp) (by simp)) (fun ⟨j,⟨hi13,hw2⟩⟩=>?_)
   dsimp only
   refine AWp.rg [] [] ?_ (hr:=by conv=>lhs;simp [Tm.row,Tm.Q3,Cs.Q3,h1y,hpr])
   repeat (first | refine AWp.seq ?_ | refine AWp.block ?_)
   refine AWp.cond rfl (fun hc=>?_) (fun hc=>?_)
   ·have hi1 : j < pt.length:=by have:=of_decide_eq_true hc;omega
    clear hc
    have h1b : pt[j]? = some pt[j]:=List.getElem?_eq_getElem hi1
    have hmb : pt[j]∈pt:=List.getElem_mem hi1
    have hdb : pt.drop j = pt[j] :: pt.drop (j + 1):=List.drop_eq_getElem_cons hi1
    generalize pt[j] = b at h1b hmb hdb
    obtain ⟨bk,bn,ba,bb,bvs,bxs,bcs⟩:=b
    refine AWp.skip ?_
    refine AWp.rg [] [] ?_ (hr:=by conv=>lhs;simp [Tm.row,Tm.Q3,Cs.Q3,h1y,hpr,h1b])
    by_cases q2 : ba = ya
    ·refine AWp.rg [] [] ?_ (hr:=by conv=>lhs;simp [Tm.row,Tm.Q3,Cs.Q3,h1y,hpr,h1b,q2])
     refine AWp.cy ?_
     have hq : hasB (pt.map Tm.nm) ya = true:=Zx.2 (List.mem_map.2 ⟨_,hmb,by rw [Tm.nm];exact q2⟩)
     rw [hq] at hap
     simp only [if_true] at hap
     refine AWp.rg [] [] ?_ (hr:=by conv=>lhs;simp [Tm.row,Tm.Q3,Cs.Q3,h1y,hpr,h1b,q2])
     refine AWp.exit ?_
     refine AWp.rg [] [] ?_ (hr:=by conv=>lhs;simp [Tm.row,Tm.Q3,Cs.Q3,h1y,hpr,h1b,q2])
     have hi1:=hi1o
     refine ⟨⟨(i + 1,us ++ [ya]),hi1,⟨by rw [hap,List.take_add_one,h1y,List.map_append,← hpt];simp [Tm.nm],by dsimp only;first | omega | (simp;omega)⟩⟩,by simp;omega,?_⟩
     dsimp only
     exact Le.sub (by simp) (by simp)
    refine AWp.rg [] [] ?_ (hr:=by conv=>lhs;simp [Tm.row,Tm.Q3,Cs.Q3,h1y,hpr,h1b,q2])
    refine AWp.cn ?_
    refine AWp.skip ?_
    refine AWp.rg [] [] ?_ (hr:=by conv=>lhs;simp [Tm.row,Tm.Q3,Cs.Q3,h1y,hpr,h1b,q2])
    refine ⟨⟨j + 1,hi1,(fun z hz=>by rw [List.take_add_one,h1b] at hz;rcases List.mem_append.1 hz with hz | hz;exact hw2 z hz;rw [List.mem_singleton.1 hz,Tm.nm];exact q2)⟩,by simp;omega,?_⟩
    dsimp only
    exact Le.sub (by simp) (by simp)
   have hi1 : j = pt.length:=by have:=of_decide_eq_false hc;omega
   subst hi1
   clear hc
   rw [List.take_length] at hw2
   have hq : hasB (pt.map Tm.nm) ya = false:=Mj.2 fun h=>by
    obtain ⟨z,hz,e⟩:=List.mem_map.1 h
    exact hw2 z hz e
   rw [hq] at hap
   simp only [Bool.false_eq_true,if_false] at hap
   refine AWp.exit ?_
   refine AWp.rg [] [] ?_ (hr:=by conv=>lhs;simp [Tm.row,Tm.Q3,Cs.Q3,h1y,hpr])
   have hi1:=hi1o
   refine ⟨⟨(i + 1,us),hi1,⟨by rw [hap,List.take_add_one,h1y,List.map_append,← hpt];simp [Tm.nm],by dsimp only;first | omega | (simp;omega)⟩⟩,by simp;omega,?_⟩
   dsimp only
   exact Le.sub (by simp) (by simp)
  have hi1 : i = txs.length:=by have:=of_decide_eq_false hc;omega
  subst hi1
  clear hc
  obtain ⟨hap,hul⟩:=hw
  rw [List.drop_length,R3,List.append_nil] at hap
  refine AWp.exit ?_
  apply AWp.F3 [400]
  ·conv=>lhs;simp
  have hml:=Qq5 txs []
  rw [hap] at hR hml
  have hd:=Uk 8 us 3 tn ta tb tvs txs tcs (by omega)
  generalize cnt 8 us (.mk 3 tn ta tb tvs txs tcs) = e at hd hR
  obtain ⟨ek,en,ea,eb,evs,exs,ecs⟩:=e
  have hg:=Uk 9 G ek en ea eb evs exs ecs (by omega)
  generalize cnt 9 G (.mk ek en ea eb evs exs ecs) = r at hg hR
  subst hR
  refine AWp.rg [] [.p (fun _=>.agg [.d (.int ek),.d (.int en),.d (.str ea),.d (.str eb),.d (Q7 evs),.d (.sl (exs.map Tm.row)),.d (.sl (ecs.map Cs.row))]) none] ?_ (hr:=by conv=>lhs;simp [Tm.row,Tm.Q3,Cs.Q3])
  refine AWp.rg [] [.p (fun _=>.agg [.d (.int rk),.d (.int rn),.d (.str ra),.d (.str rb),.d (Q7 rvs),.d (.sl (rxs.map Tm.row)),.d (.sl (rcs.map Cs.row))]) none] ?_ (hr:=by conv=>lhs;simp [Tm.row,Tm.Q3,Cs.Q3])
  refine AWp.ret ?_
  try dsimp only [Qq,Q8]
  apply Zk.ret
  ·rfl
  ·conv=>lhs;simp [Q9,Tryd.results60]
  first | rfl | simp [Z6,Xw,Tm.row,Tm.Q3,Cs.Q3,AV.J3,U3,Q7]
 refine AWp.rg [] [] ?_ (hr:=by conv=>lhs;simp [Tm.row,Tm.Q3,Cs.Q3,q1])
 refine AWp.cn ?_
 by_cases q3 : tk = 4
 ·refine AWp.rg [] [] ?_ (hr:=by conv=>lhs;simp [Tm.row,Tm.Q3,Cs.Q3,q1,q3])
  refine AWp.cy ?_
  refine AWp.skip ?_
  refine AWp.cy ?_
  subst q3
  rw [if_pos (by omega)] at hR
  refine AWp.rg [] [] ?_ (hr:=by conv=>lhs;simp [Tm.row,Tm.Q3,Cs.Q3,q1])
  refine AWp.rg [] [] ?_ (hr:=by conv=>lhs;simp [Tm.row,Tm.Q3,Cs.Q3,q1])
  repeat (first | refine AWp.seq ?_ | refine AWp.block ?_)
  refine AWp.le (Le.low [400] [] (fr:=[(2,.ptr 2 0),(4,.ptr 4 0),(6,.d (Q7 G)),(7,.ptr 7 0),(8,.arr 400 0 ([] : List ByteArray).length),(37,.d (.sl (txs.map Tm.row))),(38,.d (.int (txs.length : Int))),(39,.d (.int (0 : Int)))]) (mem:=[(2,some (.blk 32 [.d (.int 4),.d (.int tn),.d (.str ta),.d (.str tb),.d (Q7 tvs),.d (.sl (txs.map Tm.row)),.d (.sl (tcs.map Cs.row))])),(4,some (.blk 32 [.d (.int 0),.d (.int 0),.d (.str ByteArray.empty),.d (.str ByteArray.empty),.lit (.slice none 0 0),.lit (.slice none 0 0),.lit (.slice none 0 0)])),(7,some (.blk 32 [.d (.int 4),.d (.int tn),.d (.str ta),.d (.str tb),.d (Q7 tvs),.d (.sl (txs.map Tm.row)),.d (.sl (tcs.map Cs.row))])),(400,some (.arr 9 1 (([] : List ByteArray).map Zw)))]) rfl (by simp) (by simp)) ?_
  refine AWp.loop (σ:=fun u : {u : Nat×List ByteArray // u.1≤txs.length∧(R3 [] txs = u.2 ++ R3 ((txs.take u.1).map Tm.nm) (txs.drop u.1)∧u.2.length≤u.1)}=>⟨186,[(2,.ptr 2 0),(4,.ptr 4 0),(6,.d (Q7 G)),(7,.ptr 7 0),(8,.arr 400 0 u.1.2.length),(37,.d (.sl (txs.map Tm.row))),(38,.d (.int (txs.length : Int))),(39,.d (.int (u.1.1 : Int)))],[(2,some (.blk 32 [.d (.int 4),.d (.int tn),.d (.str ta),.d (.str tb),.d (Q7 tvs),.d (.sl (txs.map Tm.row)),.d (.sl (tcs.map Cs.row))])),(4,some (.blk 32 [.d (.int 0),.d (.int 0),.d (.str ByteArray.empty),.d (.str ByteArray.empty),.lit (.slice none 0 0),.lit (.slice none 0 0),.lit (.slice none 0 0)])),(7,some (.blk 32 [.d (.int 4),.d (.int tn),.d (.str ta),.d (.str tb),.d (Q7 tvs),.d (.sl (txs.map Tm.row)),.d (.sl (tcs.map Cs.row))])),(400,some (.arr 9 1 (u.1.2.map Zw)))]⟩)
   (μ:=fun u=>txs.length - u.1.1) ⟨(0,[]),⟨Nat.zero_le _,⟨by simp,Nat.le_refl _⟩⟩⟩ (Le.sub (by simp) (by simp)) (fun ⟨(i,us),⟨hi10,hw⟩⟩=>?_)
  dsimp only at hi10 hw ⊢
  refine AWp.rg [] [] ?_ (hr:=by conv=>lhs;simp [Tm.row,Tm.Q3,Cs.Q3,q1])
  repeat (first | refine AWp.seq ?_ | refine AWp.block ?_)
  refine AWp.cond rfl (fun hc=>?_) (fun hc=>?_)
  ·have hi1 : i < txs.length:=by have:=of_decide_eq_true hc;omega
   clear hc
   have h1y : txs[i]? = some txs[i]:=List.getElem?_eq_getElem hi1
   have hmy : txs[i]∈txs:=List.getElem_mem hi1
   have hdy : txs.drop i = txs[i] :: txs.drop (i + 1):=List.drop_eq_getElem_cons hi1
   generalize txs[i] = y at h1y hmy hdy
   obtain ⟨hap,hul⟩:=hw
   rw [hdy,R3] at hap
   obtain ⟨yk,yn,ya,yb,yvs,yxs,ycs⟩:=y
   rw [Tm.nm] at hap
   obtain ⟨pt,hpt⟩ : ∃ pt,pt = txs.take i:=⟨_,rfl⟩
   have hptl : pt.length = i:=by rw [hpt,List.length_take];omega
   have hpr : List.take i (List.map Tm.row txs) = List.map Tm.row pt:=by rw [hpt,List.map_take]
   rw [← hpt] at hap
   have htr : ∀ (i : Nat) (a : Tm),txs[i]? = some a→a.row.length = 7:=fun _ a _=>tmrl2 a
   have hi1o:=hi1
   refine AWp.skip ?_
   refine AWp.rg [] [] ?_ (hr:=by conv=>lhs;simp [Tm.row,Tm.Q3,Cs.Q3,h1y,hpr,q1])
   refine AWp.rg [] [] ?_ (hr:=by conv=>lhs;simp [Tm.row,Tm.Q3,Cs.Q3,h1y,hpr,q1])
   repeat (first | refine AWp.seq ?_ | refine AWp.block ?_)
   refine AWp.loop (σ:=fun u : {u : Nat // u≤pt.length∧∀ z∈pt.take u,z.nm≠ya}=>⟨186,[(2,.ptr 2 0),(4,.ptr 4 0),(6,.d (Q7 G)),(7,.ptr 7 0),(8,.arr 400 0 us.length),(10,.ptr 10 0),(37,.d (.sl (txs.map Tm.row))),(38,.d (.int (txs.length : Int))),(39,.d (.int (i : Int))),(47,.d (.sl (pt.map Tm.row))),(48,.d (.int (pt.length : Int))),(49,.d (.int (u.1 : Int)))],[(2,some (.blk 32 [.d (.int 4),.d (.int tn),.d (.str ta),.d (.str tb),.d (Q7 tvs),.d (.sl (txs.map Tm.row)),.d (.sl (tcs.map Cs.row))])),(4,some (.blk 32 [.d (.int 0),.d (.int 0),.d (.str ByteArray.empty),.d (.str ByteArray.empty),.lit (.slice none 0 0),.lit (.slice none 0 0),.lit (.slice none 0 0)])),(7,some (.blk 32 [.d (.int 4),.d (.int tn),.d (.str ta),.d (.str tb),.d (Q7 tvs),.d (.sl (txs.map Tm.row)),.d (.sl (tcs.map Cs.row))])),(10,some (.blk 32 [.d (.int yk),.d (.int yn),.d (.str ya),.d (.str yb),.d (Q7 yvs),.d (.sl (yxs.map Tm.row)),.d (.sl (ycs.map Cs.row))])),(400,some (.arr 9 1 (us.map Zw)))]⟩)
    (μ:=fun u=>pt.length - u.1) ⟨0,⟨Nat.zero_le _,by simp⟩⟩ (Le.sub (by simp) (by simp)) (fun ⟨j,⟨hi13,hw2⟩⟩=>?_)
   dsimp only
   refine AWp.rg [] [] ?_ (hr:=by conv=>lhs;simp [Tm.row,Tm.Q3,Cs.Q3,h1y,hpr,q1])
   repeat (first | refine AWp.seq ?_ | refine AWp.block ?_)
   refine AWp.cond rfl (fun hc=>?_) (fun hc=>?_)
   ·have hi1 : j < pt.length:=by have:=of_decide_eq_true hc;omega
    clear hc
    have h1b : pt[j]? = some pt[j]:=List.getElem?_eq_getElem hi1
    have hmb : pt[j]∈pt:=List.getElem_mem hi1
    have hdb : pt.drop j = pt[j] :: pt.drop (j + 1):=List.drop_eq_getElem_cons hi1
    generalize pt[j] = b at h1b hmb hdb
    obtain ⟨bk,bn,ba,bb,bvs,bxs,bcs⟩:=b
    refine AWp.skip ?_
    refine AWp.rg [] [] ?_ (hr:=by conv=>lhs;simp [Tm.row,Tm.Q3,Cs.Q3,h1y,hpr,h1b,q1])
    by_cases q4 : ba = ya
    ·refine AWp.rg [] [] ?_ (hr:=by conv=>lhs;simp [Tm.row,Tm.Q3,Cs.Q3,h1y,hpr,h1b,q1,q4])
     refine AWp.cy ?_
     have hq : hasB (pt.map Tm.nm) ya = true:=Zx.2 (List.mem_map.2 ⟨_,hmb,by rw [Tm.nm];exact q4⟩)
     rw [hq] at hap
     simp only [if_true] at hap
     refine AWp.rg [] [] ?_ (hr:=by conv=>lhs;simp [Tm.row,Tm.Q3,Cs.Q3,h1y,hpr,h1b,q1,q4])
     refine AWp.exit ?_
     refine AWp.rg [] [] ?_ (hr:=by conv=>lhs;simp [Tm.row,Tm.Q3,Cs.Q3,h1y,hpr,h1b,q1,q4])
     have hi1:=hi1o
     refine ⟨⟨(i + 1,us ++ [ya]),hi1,⟨by rw [hap,List.take_add_one,h1y,List.map_append,← hpt];simp [Tm.nm],by dsimp only;first | omega | (simp;omega)⟩⟩,by simp;omega,?_⟩
     dsimp only
     exact Le.sub (by simp) (by simp)
    refine AWp.rg [] [] ?_ (hr:=by conv=>lhs;simp [Tm.row,Tm.Q3,Cs.Q3,h1y,hpr,h1b,q1,q4])
    refine AWp.cn ?_
    refine AWp.skip ?_
    refine AWp.rg [] [] ?_ (hr:=by conv=>lhs;simp [Tm.row,Tm.Q3,Cs.Q3,h1y,hpr,h1b,q1,q4])
    refine ⟨⟨j + 1,hi1,(fun z hz=>by rw [List.take_add_one,h1b] at hz;rcases List.mem_append.1 hz with hz | hz;exact hw2 z hz;rw [List.mem_singleton.1 hz,Tm.nm];exact q4)⟩,by simp;omega,?_⟩
    dsimp only
    exact Le.sub (by simp) (by simp)
   have hi1 : j = pt.length:=by have:=of_decide_eq_false hc;omega
   subst hi1
   clear hc
   rw [List.take_length] at hw2
   have hq : hasB (pt.map Tm.nm) ya = false:=Mj.2 fun h=>by
    obtain ⟨z,hz,e⟩:=List.mem_map.1 h
    exact hw2 z hz e
   rw [hq] at hap
   simp only [Bool.false_eq_true,if_false] at hap
   refine AWp.exit ?_
   refine AWp.rg [] [] ?_ (hr:=by conv=>lhs;simp [Tm.row,Tm.Q3,Cs.Q3,h1y,hpr,q1])
   have hi1:=hi1o
   refine ⟨⟨(i + 1,us),hi1,⟨by rw [hap,List.take_add_one,h1y,List.map_append,← hpt];simp [Tm.nm],by dsimp only;first | omega | (simp;omega)⟩⟩,by simp;omega,?_⟩
   dsimp only
   exact Le.sub (by simp) (by simp)
  have hi1 : i = txs.length:=by have:=of_decide_eq_false hc;omega
  subst hi1
  clear hc
  obtain ⟨hap,hul⟩:=hw
  rw [List.drop_length,R3,List.append_nil] at hap
  refine AWp.exit ?_
  apply AWp.F3 [400]
  ·conv=>lhs;simp
  have hml:=Qq5 txs []
  rw [hap] at hR hml
  have hd:=Uk 8 us 4 tn ta tb tvs txs tcs (by omega)
  generalize cnt 8 us (.mk 4 tn ta tb tvs txs tcs) = e at hd hR
  obtain ⟨ek,en,ea,eb,evs,exs,ecs⟩:=e
  have hg:=Uk 9 G ek en ea eb evs exs ecs (by omega)
  generalize cnt 9 G (.mk ek en ea eb evs exs ecs) = r at hg hR
  subst hR
  refine AWp.rg [] [.p (fun _=>.agg [.d (.int ek),.d (.int en),.d (.str ea),.d (.str eb),.d (Q7 evs),.d (.sl (exs.map Tm.row)),.d (.sl (ecs.map Cs.row))]) none] ?_ (hr:=by conv=>lhs;simp [Tm.row,Tm.Q3,Cs.Q3,q1])
  refine AWp.rg [] [.p (fun _=>.agg [.d (.int rk),.d (.int rn),.d (.str ra),.d (.str rb),.d (Q7 rvs),.d (.sl (rxs.map Tm.row)),.d (.sl (rcs.map Cs.row))]) none] ?_ (hr:=by conv=>lhs;simp [Tm.row,Tm.Q3,Cs.Q3,q1])
  refine AWp.ret ?_
  try dsimp only [Qq,Q8]
  apply Zk.ret
  ·rfl
  ·conv=>lhs;simp [Q9,Tryd.results60]
  first | rfl | simp [Z6,Xw,Tm.row,Tm.Q3,Cs.Q3,AV.J3,U3,Q7]
 refine AWp.rg [] [] ?_ (hr:=by conv=>lhs;simp [Tm.row,Tm.Q3,Cs.Q3,q1,q3])
 refine AWp.cn ?_
 by_cases q5 : tk = 5
 ·refine AWp.rg [] [] ?_ (hr:=by conv=>lhs;simp [Tm.row,Tm.Q3,Cs.Q3,q1,q3,q5])
  refine AWp.cy ?_
  subst q5
  rw [if_pos (by omega)] at hR
  refine AWp.rg [] [] ?_ (hr:=by conv=>lhs;simp [Tm.row,Tm.Q3,Cs.Q3,q1,q3])
  refine AWp.rg [] [] ?_ (hr:=by conv=>lhs;simp [Tm.row,Tm.Q3,Cs.Q3,q1,q3])
  repeat (first | refine AWp.seq ?_ | refine AWp.block ?_)
  refine AWp.le (Le.low [400] [] (fr:=[(2,.ptr 2 0),(4,.ptr 4 0),(6,.d (Q7 G)),(7,.ptr 7 0),(8,.arr 400 0 ([] : List ByteArray).length),(37,.d (.sl (txs.map Tm.row))),(38,.d (.int (txs.length : Int))),(39,.d (.int (0 : Int)))]) (mem:=[(2,some (.blk 32 [.d (.int 5),.d (.int tn),.d (.str ta),.d (.str tb),.d (Q7 tvs),.d (.sl (txs.map Tm.row)),.d (.sl (tcs.map Cs.row))])),(4,some (.blk 32 [.d (.int 0),.d (.int 0),.d (.str ByteArray.empty),.d (.str ByteArray.empty),.lit (.slice none 0 0),.lit (.slice none 0 0),.lit (.slice none 0 0)])),(7,some (.blk 32 [.d (.int 5),.d (.int tn),.d (.str ta),.d (.str tb),.d (Q7 tvs),.d (.sl (txs.map Tm.row)),.d (.sl (tcs.map Cs.row))])),(400,some (.arr 9 1 (([] : List ByteArray).map Zw)))]) rfl (by simp) (by simp)) ?_
  refine AWp.loop (σ:=fun u : {u : Nat×List ByteArray // u.1≤txs.length∧(R3 [] txs = u.2 ++ R3 ((txs.take u.1).map Tm.nm) (txs.drop u.1)∧u.2.length≤u.1)}=>⟨186,[(2,.ptr 2 0),(4,.ptr 4 0),(6,.d (Q7 G)),(7,.ptr 7 0),(8,.arr 400 0 u.1.2.length),(37,.d (.sl (txs.map Tm.row))),(38,.d (.int (txs.length : Int))),(39,.d (.int (u.1.1 : Int)))],[(2,some (.blk 32 [.d (.int 5),.d (.int tn),.d (.str ta),.d (.str tb),.d (Q7 tvs),.d (.sl (txs.map Tm.row)),.d (.sl (tcs.map Cs.row))])),(4,some (.blk 32 [.d (.int 0),.d (.int 0),.d (.str ByteArray.empty),.d (.str ByteArray.empty),.lit (.slice none 0 0),.lit (.slice none 0 0),.lit (.slice none 0 0)])),(7,some (.blk 32 [.d (.int 5),.d (.int tn),.d (.str ta),.d (.str tb),.d (Q7 tvs),.d (.sl (txs.map Tm.row)),.d (.sl (tcs.map Cs.row))])),(400,some (.arr 9 1 (u.1.2.map Zw)))]⟩)
   (μ:=fun u=>txs.length - u.1.1) ⟨(0,[]),⟨Nat.zero_le _,⟨by simp,Nat.le_refl _⟩⟩⟩ (Le.sub (by simp) (by simp)) (fun ⟨(i,us),⟨hi10,hw⟩⟩=>?_)
  dsimp only at hi10 hw ⊢
  refine AWp.rg [] [] ?_ (hr:=by conv=>lhs;simp [Tm.row,Tm.Q3,Cs.Q3,q1,q3])
  repeat (first | refine AWp.seq ?_ | refine AWp.block ?_)
  refine AWp.cond rfl (fun hc=>?_) (fun hc=>?_)
  ·have hi1 : i < txs.length:=by have:=of_decide_eq_true hc;omega
   clear hc
   have h1y : txs[i]? = some txs[i]:=List.getElem?_eq_getElem hi1
   have hmy : txs[i]∈txs:=List.getElem_mem hi1
   have hdy : txs.drop i = txs[i] :: txs.drop (i + 1):=List.drop_eq_getElem_cons hi1
   generalize txs[i] = y at h1y hmy hdy
   obtain ⟨hap,hul⟩:=hw
   rw [hdy,R3] at hap
   obtain ⟨yk,yn,ya,yb,yvs,yxs,ycs⟩:=y
   rw [Tm.nm] at hap
   obtain ⟨pt,hpt⟩ : ∃ pt,pt = txs.take i:=⟨_,rfl⟩
   have hptl : pt.length = i:=by rw [hpt,List.length_take];omega
   have hpr : List.take i (List.map Tm.row txs) = List.map Tm.row pt:=by rw [hpt,List.map_take]
   rw [← hpt] at hap
   have htr : ∀ (i : Nat) (a : Tm),txs[i]? = some a→a.row.length = 7:=fun _ a _=>tmrl2 a
   have hi1o:=hi1
   refine AWp.skip ?_
   refine AWp.rg [] [] ?_ (hr:=by conv=>lhs;simp [Tm.row,Tm.Q3,Cs.Q3,h1y,hpr,q1,q3])
   refine AWp.rg [] [] ?_ (hr:=by conv=>lhs;simp [Tm.row,Tm.Q3,Cs.Q3,h1y,hpr,q1,q3])
   repeat (first | refine AWp.seq ?_ | refine AWp.block ?_)
   refine AWp.loop (σ:=fun u : {u : Nat // u≤pt.length∧∀ z∈pt.take u,z.nm≠ya}=>⟨186,[(2,.ptr 2 0),(4,.ptr 4 0),(6,.d (Q7 G)),(7,.ptr 7 0),(8,.arr 400 0 us.length),(10,.ptr 10 0),(37,.d (.sl (txs.map Tm.row))),(38,.d (.int (txs.length : Int))),(39,.d (.int (i : Int))),(47,.d (.sl (pt.map Tm.row))),(48,.d (.int (pt.length : Int))),(49,.d (.int (u.1 : Int)))],[(2,some (.blk 32 [.d (.int 5),.d (.int tn),.d (.str ta),.d (.str tb),.d (Q7 tvs),.d (.sl (txs.map Tm.row)),.d (.sl (tcs.map Cs.row))])),(4,some (.blk 32 [.d (.int 0),.d (.int 0),.d (.str ByteArray.empty),.d (.str ByteArray.empty),.lit (.slice none 0 0),.lit (.slice none 0 0),.lit (.slice none 0 0)])),(7,some (.blk 32 [.d (.int 5),.d (.int tn),.d (.str ta),.d (.str tb),.d (Q7 tvs),.d (.sl (txs.map Tm.row)),.d (.sl (tcs.map Cs.row))])),(10,some (.blk 32 [.d (.int yk),.d (.int yn),.d (.str ya),.d (.str yb),.d (Q7 yvs),.d (.sl (yxs.map Tm.row)),.d (.sl (ycs.map Cs.row))])),(400,some (.arr 9 1 (us.map Zw)))]⟩)
    (μ:=fun u=>pt.length - u.1) ⟨0,⟨Nat.zero_le _,by simp⟩⟩ (Le.sub (by simp) (by simp)) (fun ⟨j,⟨hi13,hw2⟩⟩=>?_)
   dsimp only
   refine AWp.rg [] [] ?_ (hr:=by conv=>lhs;simp [Tm.row,Tm.Q3,Cs.Q3,h1y,hpr,q1,q3])
   repeat (first | refine AWp.seq ?_ | refine AWp.block ?_)
   refine AWp.cond rfl (fun hc=>?_) (fun hc=>?_)
   ·have hi1 : j < pt.length:=by have:=of_decide_eq_true hc;omega
    clear hc
    have h1b : pt[j]? = some pt[j]:=List.getElem?_eq_getElem hi1
    have hmb : pt[j]∈pt:=List.getElem_mem hi1
    have hdb : pt.drop j = pt[j] :: pt.drop (j + 1):=List.drop_eq_getElem_cons hi1
    generalize pt[j] = b at h1b hmb hdb
    obtain ⟨bk,bn,ba,bb,bvs,bxs,bcs⟩:=b
    refine AWp.skip ?_
    refine AWp.rg [] [] ?_ (hr:=by conv=>lhs;simp [Tm.row,Tm.Q3,Cs.Q3,h1y,hpr,h1b,q1,q3])
    by_cases q6 : ba = ya
    ·refine AWp.rg [] [] ?_ (hr:=by conv=>lhs;simp [Tm.row,Tm.Q3,Cs.Q3,h1y,hpr,h1b,q1,q3,q6])
     refine AWp.cy ?_
     have hq : hasB (pt.map Tm.nm) ya = true:=Zx.2 (List.mem_map.2 ⟨_,hmb,by rw [Tm.nm];exact q6⟩)
     rw [hq] at hap
     simp only [if_true] at hap
     refine AWp.rg [] [] ?_ (hr:=by conv=>lhs;simp [Tm.row,Tm.Q3,Cs.Q3,h1y,hpr,h1b,q1,q3,q6])
     refine AWp.exit ?_
     refine AWp.rg [] [] ?_ (hr:=by conv=>lhs;simp [Tm.row,Tm.Q3,Cs.Q3,h1y,hpr,h1b,q1,q3,q6])
     have hi1:=hi1o
     refine ⟨⟨(i + 1,us ++ [ya]),hi1,⟨by rw [hap,List.take_add_one,h1y,List.map_append,← hpt];simp [Tm.nm],by dsimp only;first | omega | (simp;omega)⟩⟩,by simp;omega,?_⟩
     dsimp only
     exact Le.sub (by simp) (by simp)
    refine AWp.rg [] [] ?_ (hr:=by conv=>lhs;simp [Tm.row,Tm.Q3,Cs.Q3,h1y,hpr,h1b,q1,q3,q6])
    refine AWp.cn ?_
    refine AWp.skip ?_
    refine AWp.rg [] [] ?_ (hr:=by conv=>lhs;simp [Tm.row,Tm.Q3,Cs.Q3,h1y,hpr,h1b,q1,q3,q6])
    refine ⟨⟨j + 1,hi1,(fun z hz=>by rw [List.take_add_one,h1b] at hz;rcases List.mem_append.1 hz with hz | hz;exact hw2 z hz;rw [List.mem_singleton.1 hz,Tm.nm];exact q6)⟩,by simp;omega,?_⟩
    dsimp only
    exact Le.sub (by simp) (by simp)
   have hi1 : j = pt.length:=by have:=of_decide_eq_false hc;omega
   subst hi1
   clear hc
   rw [List.take_length] at hw2
   have hq : hasB (pt.map Tm.nm) ya = false:=Mj.2 fun h=>by
    obtain ⟨z,hz,e⟩:=List.mem_map.1 h
    exact hw2 z hz e
   rw [hq] at hap
   simp only [Bool.false_eq_true,if_false] at hap
   refine AWp.exit ?_
   refine AWp.rg [] [] ?_ (hr:=by conv=>lhs;simp [Tm.row,Tm.Q3,Cs.Q3,h1y,hpr,q1,q3])
   have hi1:=hi1o
   refine ⟨⟨(i + 1,us),hi1,⟨by rw [hap,List.take_add_one,h1y,List.map_append,← hpt];simp [Tm.nm],by dsimp only;first | omega | (simp;omega)⟩⟩,by simp;omega,?_⟩
   dsimp only
   exact Le.sub (by simp) (by simp)
  have hi1 : i = txs.length:=by have:=of_decide_eq_false hc;omega
  subst hi1
  clear hc
  obtain ⟨hap,hul⟩:=hw
  rw [List.drop_length,R3,List.append_nil] at hap
  refine AWp.exit ?_
  apply AWp.F3 [400]
  ·conv=>lhs;simp
  have hml:=Qq5 txs []
  rw [hap] at hR hml
  have hd:=Uk 8 us 5 tn ta tb tvs txs tcs (by omega)
  generalize cnt 8 us (.mk 5 tn ta tb tvs txs tcs) = e at hd hR
  obtain ⟨ek,en,ea,eb,evs,exs,ecs⟩:=e
  have hg:=Uk 9 G ek en ea eb evs exs ecs (by omega)
  generalize cnt 9 G (.mk ek en ea eb evs exs ecs) = r at hg hR
  subst hR
  refine AWp.rg [] [.p (fun _=>.agg [.d (.int ek),.d (.int en),.d (.str ea),.d (.str eb),.d (Q7 evs),.d (.sl (exs.map Tm.row)),.d (.sl (ecs.map Cs.row))]) none] ?_ (hr:=by conv=>lhs;simp [Tm.row,Tm.Q3,Cs.Q3,q1,q3])
  refine AWp.rg [] [.p (fun _=>.agg [.d (.int rk),.d (.int rn),.d (.str ra),.d (.str rb),.d (Q7 rvs),.d (.sl (rxs.map Tm.row)),.d (.sl (rcs.map Cs.row))]) none] ?_ (hr:=by conv=>lhs;simp [Tm.row,Tm.Q3,Cs.Q3,q1,q3])
  refine AWp.ret ?_
  try dsimp only [Qq,Q8]
  apply Zk.ret
  ·rfl
  ·conv=>lhs;simp [Q9,Tryd.results60]
  first | rfl | simp [Z6,Xw,Tm.row,Tm.Q3,Cs.Q3,AV.J3,U3,Q7]
 refine AWp.rg [] [] ?_ (hr:=by conv=>lhs;simp [Tm.row,Tm.Q3,Cs.Q3,q1,q3,q5])
 refine AWp.cn ?_
 by_cases q7 : tk = 6
 ·refine AWp.rg [] [] ?_ (hr:=by conv=>lhs;simp [Tm.row,Tm.Q3,Cs.Q3,q1,q3,q5,q7])
  refine AWp.cy ?_
  subst q7
  have hx2 : txs.length = 2∧tcs = []:=by
   unfold Xq at hmany
   simp at hmany
   exact hmany
  obtain ⟨hx2,rfl⟩:=hx2
  obtain ⟨x,y,rfl⟩ : ∃ x y,txs = [x,y]:=by
   rcases txs with _ | ⟨x,_ | ⟨y,_ | ⟨z,l⟩⟩⟩
   ·cases hx2
   ·cases hx2
   ·exact ⟨x,y,rfl⟩
   ·simp at hx2
  rw [if_neg (by omega),if_pos rfl,letD,letH,Tm.owZ,List.headD_cons,List.tail_cons,Tm.owZ,List.headD_cons,List.tail_cons,Tm.owZ] at hR
  have hxFt:=hxF x (by simp)
  have hyFt:=hxF y (by simp)
  have hfx:=Qz5 x hxFt
  have hfy:=Qz5 y hyFt
  have hxl : x.free.length≤1048576:=Nat.le_trans (Tm.D6 x) hxFt.sz
  have hyl : y.free.length≤1048576:=Nat.le_trans (Tm.D6 y) hyFt.sz
  have hzx:=ih x (inN own x.free) (hxR x (by simp)) hxFt (by have:=Rv own x.free;omega) (fun s hs=>hos s (List.mem_filter.1 hs).1)
  have hzy:=ih y (inN own (woN y.free [ta]) ++ [ta]) (hxR y (by simp)) hyFt (by have:=Rv own (woN y.free [ta]);simp;omega) (fun s hs=>(List.mem_append.1 hs).elim (fun h=>hos s (List.mem_filter.1 h).1) fun h=>by rw [List.mem_singleton.1 h];exact hF.ok.1.1)
  generalize x.free = xf at hfx hxl hzx hR
  generalize y.free = yf at hfy hyl hzy hR
  have hp1:=sp_pickI own xf (by omega) (by omega)
  have hp2:=sp_pickI own yf (by omega) (by omega)
  have hP2:=Rv own yf
  have hp3 : Qw Tryd.prog 99 [X6 (inN own yf),.d (.sl [[.str ta]]),.d (.bool false)] (fun _=>X6 (inN own (woN yf [ta]))) none:=by
   rw [← inN_woN]
   exact sp_pickO (inN own yf) [ta] (by omega) (by simp)
  have hI1:=Rv own xf
  have hI2:=Rv own (woN yf [ta])
  have hp4 : Qw Tryd.prog 99 [X6 (inN own xf),X6 (inN own (woN yf [ta])),.d (.bool true)] (fun _=>X6 (inN (inN own xf) (woN yf [ta]))) none:=by
   have h:=sp_pickI (inN own xf) (inN own (woN yf [ta])) (by omega) (by omega)
   rwa [inN_inN] at h
  have hI3:=Rv (inN own xf) (woN yf [ta])
  generalize inN (inN own xf) (woN yf [ta]) = I3 at hp4 hI3 hR
  generalize inN own xf = I1 at hp1 hp4 hI1 hI3 hzx hR
  generalize inN own yf = P2 at hp2 hp3 hP2
  generalize inN own (woN yf [ta]) = I2 at hp3 hp4 hI2 hzy hR
  obtain ⟨A2,hA⟩ : ∃ A,A = I2 ++ [ta]:=⟨_,rfl⟩
  rw [← hA] at hzy hR
  have hA2 : List.take (I2.length + 1) (List.map Zw I2 ++ [[D.str ta]]) = List.map Zw A2:=by rw [hA,List.map_append,List.take_of_length_le (by simp)];rfl
  have hA2l : A2.length = I2.length + 1:=by rw [hA];simp
  generalize x.ow I1 = z at hzx hR
  generalize y.ow A2 = u at hzy hR
  obtain ⟨xk,xn,xa,xb,xvs,xxs,xcs⟩:=x
  obtain ⟨yk,yn,ya,yb,yvs,yxs,ycs⟩:=y
  obtain ⟨zk,zn,za,zb,zvs,zxs,zcs⟩:=z
  obtain ⟨uk,un,ua,ub,uvs,uxs,ucs⟩:=u
  have hdu:=Uk 8 I3 6 0 ta .empty [] [.mk zk zn za zb zvs zxs zcs,.mk uk un ua ub uvs uxs ucs] [] (by omega)
  generalize cnt 8 I3 (.mk 6 0 ta .empty [] [.mk zk zn za zb zvs zxs zcs,.mk uk un ua ub uvs uxs ucs] []) = e at hdu hR
  obtain ⟨ek,en,ea,eb,evs,exs,ecs⟩:=e
  replace hdu : Qw Tryd.prog 100 [.d (.int 8),X6 I3,.agg [.d (.int 6),.d (.int 0),.d (.str ta),.d (.str .empty),.d (.sl []),.d (.sl [[.int zk,.int zn,.str za,.str zb,Q7 zvs,.sl (zxs.map Tm.row),.sl (zcs.map Cs.row)],[.int uk,.int un,.str ua,.str ub,Q7 uvs,.sl (uxs.map Tm.row),.sl (ucs.map Cs.row)]]),.d (.sl [])]] (fun _=>Xw (.mk ek en ea eb evs exs ecs)) none:=by
   simpa only [Xw,Q7,List.map_cons,List.map_nil,Tm.row,Tm.Q3,Cs.Q3] using hdu
  have hg:=Uk 9 G ek en ea eb evs exs ecs (by omega)
  generalize cnt 9 G (.mk ek en ea eb evs exs ecs) = r at hg hR
  subst hR
  refine AWp.dw [5,12,16] [.p (fun d=>.arr d 0 xf.length) (some (.arr 9 1 (xf.map Zw))),.p (fun _=>.d (Q7 I1)) none,.p (fun d=>.arr d 0 yf.length) (some (.arr 9 1 (yf.map Zw))),.p (fun _=>.d (Q7 P2)) none,.p (fun _=>.d (Q7 I2)) none] mixed ?_ (hr:=by conv=>lhs;simp [Tm.row,Tm.Q3,Cs.Q3,q1,q3,q5])
  refine AWp.dw [18,20] [.p (fun _=>.agg [.d (.int zk),.d (.int zn),.d (.str za),.d (.str zb),.d (Q7 zvs),.d (.sl (zxs.map Tm.row)),.d (.sl (zcs.map Cs.row))]) none,.p (fun _=>.agg [.d (.int uk),.d (.int un),.d (.str ua),.d (.str ub),.d (Q7 uvs),.d (.sl (uxs.map Tm.row)),.d (.sl (ucs.map Cs.row))]) none] mixed ?_ (hr:=by conv=>lhs;simp [Tm.row,Tm.Q3,Cs.Q3,hA2,q1,q3,q5])
  repeat (first | refine AWp.seq ?_ | refine AWp.block ?_)
  refine AWp.le (Le.low [] [] (fr:=[(4,.ptr 4 0),(6,.d (Q7 G)),(7,.ptr 7 0),(13,.d (Q7 I1)),(14,.d (Q7 I2))]) (mem:=[(4,some (.blk 32 [.d (.int 0),.d (.int 0),.d (.str ByteArray.empty),.d (.str ByteArray.empty),.lit (.slice none 0 0),.lit (.slice none 0 0),.lit (.slice none 0 0)])),(7,some (.blk 32 [.d (.int 6),.d (.int 0),.d (.str ta),.d (.str ByteArray.empty),.d (.sl []),.d (.sl [[.int zk,.int zn,.str za,.str zb,Q7 zvs,.sl (zxs.map Tm.row),.sl (zcs.map Cs.row)],[.int uk,.int un,.str ua,.str ub,Q7 uvs,.sl (uxs.map Tm.row),.sl (ucs.map Cs.row)]]),.d (.sl [])]))]) rfl (by simp) (by simp)) ?_
  refine AWp.dw [] [.p (fun _=>.d (Q7 I3)) none,.p (fun _=>.agg [.d (.int ek),.d (.int en),.d (.str ea),.d (.str eb),.d (Q7 evs),.d (.sl (exs.map Tm.row)),.d (.sl (ecs.map Cs.row))]) none] mixed ?_ (hr:=by conv=>lhs;simp [Tm.row,Tm.Q3,Cs.Q3,q1,q3,q5])
  refine AWp.rg [] [.p (fun _=>.agg [.d (.int rk),.d (.int rn),.d (.str ra),.d (.str rb),.d (Q7 rvs),.d (.sl (rxs.map Tm.row)),.d (.sl (rcs.map Cs.row))]) none] ?_ (hr:=by conv=>lhs;simp [Tm.row,Tm.Q3,Cs.Q3,q1,q3,q5])
  refine AWp.ret ?_
  try dsimp only [Qq,Q8]
  apply Zk.ret
  ·rfl
  ·conv=>lhs;simp [Q9,Tryd.results60]
  first | rfl | simp [Z6,Xw,Tm.row,Tm.Q3,Cs.Q3,AV.J3,U3,Q7]
 refine AWp.rg [] [] ?_ (hr:=by conv=>lhs;simp [Tm.row,Tm.Q3,Cs.Q3,q1,q3,q5,q7])
 refine AWp.cn ?_
 by_cases q8 : tk = 7
 ·refine AWp.rg [] [] ?_ (hr:=by conv=>lhs;simp [Tm.row,Tm.Q3,Cs.Q3,q1,q3,q5,q7,q8])
  refine AWp.cy ?_
  subst q8
  have hx1 : txs.length = 1:=by
   unfold Xq at hmany
   simp at hmany
   exact hmany
  obtain ⟨x,rfl⟩ : ∃ x,txs = [x]:=by
   rcases txs with _ | ⟨x,_ | ⟨y,l⟩⟩
   ·cases hx1
   ·exact ⟨x,rfl⟩
   ·simp at hx1
  rw [if_neg (by omega),if_neg (by omega),if_pos rfl] at hR
  have hxa:=(hxF x (by simp)).ok.nm
  obtain ⟨xk,xn,xa,xb,xvs,xxs,xcs⟩:=x
  rw [show nmH [.mk xk xn xa xb xvs xxs xcs] = xa from rfl] at hR
  have hcF:=hF.cs
  refine AWp.rg [] [] ?_ (hr:=by conv=>lhs;simp [Tm.row,Tm.Q3,Cs.Q3,q1,q3,q5,q7])
  refine AWp.rg [] [] ?_ (hr:=by conv=>lhs;simp [Tm.row,Tm.Q3,Cs.Q3,q1,q3,q5,q7])
  repeat (first | refine AWp.seq ?_ | refine AWp.block ?_)
  refine AWp.le (Le.low [400] [] (fr:=[(1,.d (Q7 own)),(2,.ptr 2 0),(4,.ptr 4 0),(6,.d (Q7 G)),(7,.ptr 7 0),(121,.d (.sl (tcs.map Cs.row))),(122,.d (.int (tcs.length : Int))),(123,.d (.int (0 : Int)))]) (mem:=[(2,some (.blk 32 [.d (.int 7),.d (.int tn),.d (.str ta),.d (.str tb),.d (Q7 tvs),.d (.sl (([.mk xk xn xa xb xvs xxs xcs]).map Tm.row)),.d (.sl (tcs.map Cs.row))])),(4,some (.blk 32 [.d (.int 0),.d (.int 0),.d (.str ByteArray.empty),.d (.str ByteArray.empty),.lit (.slice none 0 0),.lit (.slice none 0 0),.lit (.slice none 0 0)])),(7,some (.blk 32 [.d (.int 7),.d (.int 0),.d (.str ByteArray.empty),.d (.str ByteArray.empty),.lit (.slice none 0 0),.d (.sl (([.mk xk xn xa xb xvs xxs xcs]).map Tm.row)),.arr 400 0 ([] : List Cs).length])),(400,some (.arr 42 9 (([] : List Cs).map Cs.row)))]) rfl (by simp [Tm.row,Tm.Q3,Cs.Q3]) (by simp [Tm.row,Tm.Q3,Cs.Q3])) ?_
  refine AWp.loop (σ:=fun u : {u : Nat×List Cs // u.1≤tcs.length∧u.2 = Cs.owL (tcs.take u.1) own xa}=>⟨186,[(1,.d (Q7 own)),(2,.ptr 2 0),(4,.ptr 4 0),(6,.d (Q7 G)),(7,.ptr 7 0),(121,.d (.sl (tcs.map Cs.row))),(122,.d (.int (tcs.length : Int))),(123,.d (.int (u.1.1 : Int)))],[(2,some (.blk 32 [.d (.int 7),.d (.int tn),.d (.str ta),.d (.str tb),.d (Q7 tvs),.d (.sl (([.mk xk xn xa xb xvs xxs xcs]).map Tm.row)),.d (.sl (tcs.map Cs.row))])),(4,some (.blk 32 [.d (.int 0),.d (.int 0),.d (.str ByteArray.empty),.d (.str ByteArray.empty),.lit (.slice none 0 0),.lit (.slice none 0 0),.lit (.slice none 0 0)])),(7,some (.blk 32 [.d (.int 7),.d (.int 0),.d (.str ByteArray.empty),.d (.str ByteArray.empty),.lit (.slice none 0 0),.d (.sl (([.mk xk xn xa xb xvs xxs xcs]).map Tm.row)),.arr 400 0 u.1.2.length])),(400,some (.arr 42 9 (u.1.2.map Cs.row)))]⟩)
   (μ:=fun u=>tcs.length - u.1.1) ⟨(0,[]),⟨Nat.zero_le _,by simp [Cs.owL]⟩⟩ (Le.sub (by simp [Tm.row,Tm.Q3,Cs.Q3]) (by simp [Tm.row,Tm.Q3,Cs.Q3])) (fun ⟨(i,ds),⟨hi27,hw⟩⟩=>?_)
  dsimp only at hi27 hw ⊢
  refine AWp.rg [] [] ?_ (hr:=by conv=>lhs;simp [Tm.row,Tm.Q3,Cs.Q3,q1,q3,q5,q7])
  repeat (first | refine AWp.seq ?_ | refine AWp.block ?_)
  refine AWp.cond rfl (fun hc=>?_) (fun hc=>?_)
  ·have hi1 : i < tcs.length:=by have:=of_decide_eq_true hc;omega
   clear hc
   have h1d : tcs[i]? = some tcs[i]:=List.getElem?_eq_getElem hi1
   have hmd : tcs[i]∈tcs:=List.getElem_mem hi1
   have hdd : tcs.drop i = tcs[i] :: tcs.drop (i + 1):=List.drop_eq_getElem_cons hi1
   generalize tcs[i] = d at h1d hmd hdd
   have hdl : ds.length = i:=by rw [hw,Cs.owL_len,List.length_take];omega
   have hsn:=Cs.owL_snoc h1d own xa
   rw [← hw] at hsn
   obtain ⟨hws,hyR⟩:=hcR d hmd
   obtain ⟨hwz,hyF⟩:=hcF d hmd
   obtain ⟨dt,dws,y⟩:=d
   try dsimp only at hws hyR hwz hyF
   rw [Cs.ow] at hsn
   have hfy:=Qz5 y hyF
   have hyl : y.free.length≤1048576:=Nat.le_trans (Tm.D6 y) hyF.sz
   generalize y.free = yf at hsn hfy hyl
   have hin:=sp_pickI dws yf (by omega) (by omega)
   have hUl:=Rv dws yf
   have hUz : ∀ s∈inN dws yf,s.size≤140737488355328:=fun s hs=>hwz s (List.mem_filter.1 hs).1
   generalize inN dws yf = U at hin hUl hUz hsn
   obtain ⟨H,hH⟩ : ∃ H,H = own ++ U:=⟨_,rfl⟩
   rw [← hH] at hsn
   have hHt : List.take (own.length + U.length) (List.map Zw own ++ List.map Zw U) = List.map Zw H:=by rw [hH,List.map_append,List.take_of_length_le (by simp)]
   have hHl : H.length = own.length + U.length:=by rw [hH];simp
   have hHz : ∀ s∈H,s.size≤140737488355328:=fun s hs=>by
    rw [hH] at hs
    exact (List.mem_append.1 hs).elim (hos s) (hUz s)
   have hct:=sp_Has yf xa (by omega)
   generalize hasB yf xa = q at hsn hct
   obtain ⟨yk,yn,ya,yb,yvs,yxs,ycs⟩:=y
   refine AWp.skip ?_
   refine AWp.rg [] [] ?_ (hr:=by conv=>lhs;simp [Tm.row,Tm.Q3,Cs.Q3,h1d,Cs.row,q1,q3,q5,q7])
   cases q with
   | true =>
    simp only [if_true,cnt] at hsn
    have hz:=ih (.mk yk yn ya yb yvs yxs ycs) H hyR hyF (by omega) hHz
    generalize (Tm.mk yk yn ya yb yvs yxs ycs).ow H = z at hz hsn
    obtain ⟨ek,en,ea,eb,evs,exs,ecs⟩:=z
    have hu:=Uk 8 U ek en ea eb evs exs ecs (by omega)
    generalize cnt 8 U (.mk ek en ea eb evs exs ecs) = u at hu hsn
    obtain ⟨uk,un,ua,ub,uvs,uxs,ucs⟩:=u
    refine AWp.rg [2] [.p (fun d=>.arr d 0 yf.length) (some (.arr 9 1 (yf.map Zw)))] ?_ (hr:=by conv=>lhs;simp [Tm.row,Tm.Q3,Cs.Q3,h1d,Cs.row,q1,q3,q5,q7])
    refine AWp.rg [] [.p (fun _=>.d (Q7 U)) none] ?_ (hr:=by conv=>lhs;simp [Tm.row,Tm.Q3,Cs.Q3,h1d,Cs.row,q1,q3,q5,q7])
    refine AWp.rg [4] [] ?_ (hr:=by conv=>lhs;simp [Tm.row,Tm.Q3,Cs.Q3,h1d,Cs.row,hHt,q1,q3,q5,q7])
    refine AWp.rg [] [] ?_ (hr:=by conv=>lhs;simp [Tm.row,Tm.Q3,Cs.Q3,h1d,Cs.row,q1,q3,q5,q7])
    refine AWp.rg [] [.p (fun _=>.d (.bool true)) none] ?_ (hr:=by conv=>lhs;simp [Tm.row,Tm.Q3,Cs.Q3,h1d,Cs.row,q1,q3,q5,q7])
    refine AWp.cy ?_
    refine AWp.rg [] [.p (fun _=>.agg [.d (.int ek),.d (.int en),.d (.str ea),.d (.str eb),.d (Q7 evs),.d (.sl (exs.map Tm.row)),.d (.sl (ecs.map Cs.row))]) none] ?_ (hr:=by conv=>lhs;simp [Tm.row,Tm.Q3,Cs.Q3,h1d,Cs.row,q1,q3,q5,q7])
    refine AWp.dw [] [.p (fun _=>.agg [.d (.int uk),.d (.int un),.d (.str ua),.d (.str ub),.d (Q7 uvs),.d (.sl (uxs.map Tm.row)),.d (.sl (ucs.map Cs.row))]) none] mixed ?_ (hr:=by conv=>lhs;simp [Tm.row,Tm.Q3,Cs.Q3,h1d,Cs.row,q1,q3,q5,q7])
    refine AWp.rg [] [] ?_ (hr:=by conv=>lhs;simp [Tm.row,Tm.Q3,Cs.Q3,h1d,Cs.row,q1,q3,q5,q7])
    refine ⟨⟨(i + 1,ds ++ [.mk dt dws (.mk uk un ua ub uvs uxs ucs)]),hi1,by rw [hsn]⟩,by simp;omega,?_⟩
    dsimp only
    exact Le.sub (by simp [Cs.row,Tm.row,Tm.Q3,Cs.Q3,hdl]) (by simp [Cs.row,Tm.row,Tm.Q3,Cs.Q3,hdl])
   | false =>
    simp only [Bool.false_eq_true,if_false] at hsn
    have hou : Qw Tryd.prog 99 [X6 H,.d (.sl [[.str xa]]),.d (.bool false)] (fun _=>X6 (woN H [xa])) none:=sp_pickO H [xa] (by omega) (by simp)
    have hWl:=Fv H [xa]
    have hWz : ∀ s∈woN H [xa],s.size≤140737488355328:=fun s hs=>hHz s (List.mem_filter.1 hs).1
    generalize woN H [xa] = W at hou hWl hWz hsn
    have hz:=ih (.mk yk yn ya yb yvs yxs ycs) W hyR hyF (by omega) hWz
    generalize (Tm.mk yk yn ya yb yvs yxs ycs).ow W = z at hz hsn
    obtain ⟨zk,zn,za,zb,zvs,zxs,zcs⟩:=z
    have hd : Qw Tryd.prog 100 [.d (.int 9),.d (.sl [[.str xa]]),Xw (.mk zk zn za zb zvs zxs zcs)] (fun _=>Xw (cnt 9 [xa] (.mk zk zn za zb zvs zxs zcs))) none:=Uk 9 [xa] zk zn za zb zvs zxs zcs (by simp)
    generalize cnt 9 [xa] (.mk zk zn za zb zvs zxs zcs) = e at hd hsn
    obtain ⟨ek,en,ea,eb,evs,exs,ecs⟩:=e
    have hu:=Uk 8 U ek en ea eb evs exs ecs (by omega)
    generalize cnt 8 U (.mk ek en ea eb evs exs ecs) = u at hu hsn
    obtain ⟨uk,un,ua,ub,uvs,uxs,ucs⟩:=u
    refine AWp.rg [2] [.p (fun d=>.arr d 0 yf.length) (some (.arr 9 1 (yf.map Zw)))] ?_ (hr:=by conv=>lhs;simp [Tm.row,Tm.Q3,Cs.Q3,h1d,Cs.row,q1,q3,q5,q7])
    refine AWp.rg [] [.p (fun _=>.d (Q7 U)) none] ?_ (hr:=by conv=>lhs;simp [Tm.row,Tm.Q3,Cs.Q3,h1d,Cs.row,q1,q3,q5,q7])
    refine AWp.rg [4] [] ?_ (hr:=by conv=>lhs;simp [Tm.row,Tm.Q3,Cs.Q3,h1d,Cs.row,hHt,q1,q3,q5,q7])
    refine AWp.rg [] [] ?_ (hr:=by conv=>lhs;simp [Tm.row,Tm.Q3,Cs.Q3,h1d,Cs.row,q1,q3,q5,q7])
    refine AWp.rg [] [.p (fun _=>.d (.bool false)) none] ?_ (hr:=by conv=>lhs;simp [Tm.row,Tm.Q3,Cs.Q3,h1d,Cs.row,q1,q3,q5,q7])
    refine AWp.cn ?_
    refine AWp.dw [5,14] [.p (fun _=>.d (Q7 W)) none,.p (fun _=>.agg [.d (.int zk),.d (.int zn),.d (.str za),.d (.str zb),.d (Q7 zvs),.d (.sl (zxs.map Tm.row)),.d (.sl (zcs.map Cs.row))]) none,.p (fun _=>.agg [.d (.int ek),.d (.int en),.d (.str ea),.d (.str eb),.d (Q7 evs),.d (.sl (exs.map Tm.row)),.d (.sl (ecs.map Cs.row))]) none] mixed ?_ (hr:=by conv=>lhs;simp [Tm.row,Tm.Q3,Cs.Q3,h1d,Cs.row,q1,q3,q5,q7])
    refine AWp.dw [] [.p (fun _=>.agg [.d (.int uk),.d (.int un),.d (.str ua),.d (.str ub),.d (Q7 uvs),.d (.sl (uxs.map Tm.row)),.d (.sl (ucs.map Cs.row))]) none] mixed ?_ (hr:=by conv=>lhs;simp [Tm.row,Tm.Q3,Cs.Q3,h1d,Cs.row,q1,q3,q5,q7])
    refine AWp.rg [] [] ?_ (hr:=by conv=>lhs;simp [Tm.row,Tm.Q3,Cs.Q3,h1d,Cs.row,q1,q3,q5,q7])
    refine ⟨⟨(i + 1,ds ++ [.mk dt dws (.mk uk un ua ub uvs uxs ucs)]),hi1,by rw [hsn]⟩,by simp;omega,?_⟩
    dsimp only
    exact Le.sub (by simp [Cs.row,Tm.row,Tm.Q3,Cs.Q3,hdl]) (by simp [Cs.row,Tm.row,Tm.Q3,Cs.Q3,hdl])
  have hi1 : i = tcs.length:=by have:=of_decide_eq_false hc;omega
  subst hi1
  clear hc
  rw [List.take_length] at hw
  subst hw
  have hdl:=Cs.owL_len own xa tcs
  generalize Cs.owL tcs own xa = ds at hdl hR ⊢
  refine AWp.exit ?_
  apply AWp.F3 [400]
  ·conv=>lhs;simp
  repeat (first | refine AWp.seq ?_ | refine AWp.block ?_)
  refine AWp.le (Le.low [] [] (fr:=[(4,.ptr 4 0),(6,.d (Q7 G)),(7,.ptr 7 0)]) (mem:=[(4,some (.blk 32 [.d (.int 0),.d (.int 0),.d (.str ByteArray.empty),.d (.str ByteArray.empty),.lit (.slice none 0 0),.lit (.slice none 0 0),.lit (.slice none 0 0)])),(7,some (.blk 32 [.d (.int 7),.d (.int 0),.d (.str ByteArray.empty),.d (.str ByteArray.empty),.d (.sl []),.d (.sl [[.int xk,.int xn,.str xa,.str xb,Q7 xvs,.sl (xxs.map Tm.row),.sl (xcs.map Cs.row)]]),.d (.sl (ds.map Cs.row))]))]) rfl (by simp [Tm.row,Tm.Q3,Cs.Q3]) (by simp [Tm.row,Tm.Q3,Cs.Q3])) ?_
  have hg : Qw Tryd.prog 100 [.d (.int 9),X6 G,.agg [.d (.int 7),.d (.int 0),.d (.str .empty),.d (.str .empty),.d (.sl []),.d (.sl [[.int xk,.int xn,.str xa,.str xb,Q7 xvs,.sl (xxs.map Tm.row),.sl (xcs.map Cs.row)]]),.d (.sl (ds.map Cs.row))]] (fun _=>Xw (cnt 9 G (.mk 7 0 .empty .empty [] [.mk xk xn xa xb xvs xxs xcs] ds))) none:=by
   simpa only [Xw,Q7,List.map_cons,List.map_nil,Tm.row,Tm.Q3,Cs.Q3] using Uk 9 G 7 0 .empty .empty [] [.mk xk xn xa xb xvs xxs xcs] ds (by omega)
  generalize cnt 9 G (.mk 7 0 .empty .empty [] [.mk xk xn xa xb xvs xxs xcs] ds) = r at hg hR
  subst hR
  refine AWp.rg [] [.p (fun _=>.agg [.d (.int rk),.d (.int rn),.d (.str ra),.d (.str rb),.d (Q7 rvs),.d (.sl (rxs.map Tm.row)),.d (.sl (rcs.map Cs.row))]) none] ?_ (hr:=by conv=>lhs;simp [Tm.row,Tm.Q3,Cs.Q3,q1,q3,q5,q7])
  refine AWp.ret ?_
  try dsimp only [Qq,Q8]
  apply Zk.ret
  ·rfl
  ·conv=>lhs;simp [Q9,Tryd.results60]
  first | rfl | simp [Z6,Xw,Tm.row,Tm.Q3,Cs.Q3,AV.J3,U3,Q7]
 refine AWp.rg [] [] ?_ (hr:=by conv=>lhs;simp [Tm.row,Tm.Q3,Cs.Q3,q1,q3,q5,q7,q8])
 refine AWp.cn ?_
 refine AWp.skip ?_
 rw [if_neg (by omega),if_neg (by omega),if_neg (by omega)] at hR
 have hg:=Uk 9 G tk tn ta tb tvs txs tcs (by omega)
 generalize cnt 9 G (.mk tk tn ta tb tvs txs tcs) = r at hg hR
 subst hR
 refine AWp.rg [] [.p (fun _=>.agg [.d (.int rk),.d (.int rn),.d (.str ra),.d (.str rb),.d (Q7 rvs),.d (.sl (rxs.map Tm.row)),.d (.sl (rcs.map Cs.row))]) none] ?_ (hr:=by conv=>lhs;simp [Tm.row,Tm.Q3,Cs.Q3,q1,q3,q5,q7,q8])
 refine AWp.ret ?_
 try dsimp only [Qq,Q8]
 apply Zk.ret
 ·rfl
 ·conv=>lhs;simp [Q9,Tryd.results60]
 first | rfl | simp [Z6,Xw,Tm.row,Tm.Q3,Cs.Q3,AV.J3,U3,Q7]
theorem od_all : ∀ N,OdN N
 | 0=>fun _ _ h=>h.elim
 | N + 1=>od_step N (od_all N)
set_option maxRecDepth 20000 in
set_option maxHeartbeats 16000000 in
theorem sp_OdFn (f : Fn) (h : f.Pt) : Qw Tryd.prog 34 [W9 f] (fun _=>W9 f.ow) none:=by
 have hx:=od_all 175 f.body f.params h.rt h.fit (by have:=h.par;omega) h.pars
 unfold Fn.ow
 generalize f.body.ow f.params = z at hx ⊢
 obtain ⟨fg,fps,⟨fk,fn,fa,fb,fvs,fxs,fcs⟩⟩:=f
 obtain ⟨zk,zn,za,zb,zvs,zxs,zcs⟩:=z
 dsimp only at hx
 refine Qw.of Tryd.func34 rfl rfl rfl (Nat.le_of_ble_eq_true rfl) ?_
 show AWp _ _ (Zk _ Tryd.f34 _ _ _) (Z7 13 _)
 refine AWp.rg [] [] ?_ (hr:=by conv=>lhs;simp [W9,Fn.row,Tm.row,Tm.Q3,Cs.Q3])
 refine AWp.dw [] [.p (fun _=>.agg [.d (.int zk),.d (.int zn),.d (.str za),.d (.str zb),.d (Q7 zvs),.d (.sl (zxs.map Tm.row)),.d (.sl (zcs.map Cs.row))]) none] mixed ?_ (hr:=by conv=>lhs;simp [W9,Fn.row,Tm.row,Tm.Q3,Cs.Q3])
 refine AWp.ret ?_
 try dsimp only [Qq,Q8]
 apply Zk.ret
 ·rfl
 ·conv=>lhs;simp [Q9,Tryd.results34]
 rfl
set_option maxRecDepth 20000 in
set_option maxHeartbeats 16000000 in
theorem Qz8 (l : List Fn) (hl : l.length≤879609302220) (hall : ∀ f∈l,f.Pt) : Qw Tryd.prog 32 [D7 l,.d (.fn 34)] (fun _=>D7 (l.map Fn.ow)) none:=by
 obtain ⟨G,hG⟩ : ∃ G,G = l.map Fn.ow:=⟨_,rfl⟩
 rw [← hG]
 refine Qw.of Tryd.func32 rfl rfl rfl (Nat.le_of_ble_eq_true rfl) ?_
 show AWp _ _ (Zk _ Tryd.f32 _ _ _) (Z7 22 _)
 refine AWp.rg [] [] ?_ (hr:=by conv=>lhs;simp [Fn.row,Tm.row,Tm.Q3,Cs.Q3])
 refine AWp.rg [] [] ?_ (hr:=by conv=>lhs;simp [Fn.row,Tm.row,Tm.Q3,Cs.Q3])
 refine AWp.rg [] [] ?_ (hr:=by conv=>lhs;simp [Fn.row,Tm.row,Tm.Q3,Cs.Q3])
 repeat (first | refine AWp.seq ?_ | refine AWp.block ?_)
 refine AWp.le (Le.low [400] [] (fr:=[(1,.d (.fn 34)),(5,.arr 400 0 ([] : List Fn).length),(8,.d (.sl (l.map Fn.row))),(9,.d (.int (l.length : Int))),(10,.d (.int (0 : Int)))]) (mem:=[(400,some (.arr 34 9 (([] : List Fn).map Fn.row)))]) rfl (by simp) (by simp)) ?_
 refine AWp.loop (σ:=fun u : {u : Nat×List Fn // u.1≤l.length∧u.2 = (l.take u.1).map Fn.ow}=>⟨22,[(1,.d (.fn 34)),(5,.arr 400 0 u.1.2.length),(8,.d (.sl (l.map Fn.row))),(9,.d (.int (l.length : Int))),(10,.d (.int (u.1.1 : Int)))],[(400,some (.arr 34 9 (u.1.2.map Fn.row)))]⟩)
  (μ:=fun u=>l.length - u.1.1) ⟨(0,[]),⟨Nat.zero_le _,by simp⟩⟩ (Le.sub (by simp) (by simp)) (fun ⟨(i,gs),⟨hi3,hw⟩⟩=>?_)
 dsimp only at hi3 hw ⊢
 refine AWp.rg [] [] ?_ (hr:=by conv=>lhs;simp [Fn.row,Tm.row,Tm.Q3,Cs.Q3])
 repeat (first | refine AWp.seq ?_ | refine AWp.block ?_)
 refine AWp.cond rfl (fun hc=>?_) (fun hc=>?_)
 ·have hi1 : i < l.length:=by have:=of_decide_eq_true hc;omega
  clear hc
  have h1f : l[i]? = some l[i]:=List.getElem?_eq_getElem hi1
  have hmf : l[i]∈l:=List.getElem_mem hi1
  have hdf : l.drop i = l[i] :: l.drop (i + 1):=List.drop_eq_getElem_cons hi1
  generalize l[i] = f at h1f hmf hdf
  have hgl : gs.length = i:=by rw [hw,List.length_map,List.length_take];omega
  have hx:=sp_OdFn f (hall f hmf)
  generalize hz : f.ow = z at hx
  obtain ⟨fg,fps,⟨fk,fn,fa,fb,fvs,fxs,fcs⟩⟩:=f
  obtain ⟨zg,zps,⟨zk,zn,za,zb,zvs,zxs,zcs⟩⟩:=z
  dsimp only [W9] at hx
  refine AWp.skip ?_
  refine AWp.rg [] [] ?_ (hr:=by conv=>lhs;simp [Fn.row,Tm.row,Tm.Q3,Cs.Q3,h1f])
  refine AWp.rg [] [.p (fun _=>.agg [.d (.str zg),.d (Q7 zps),.d (.int zk),.d (.int zn),.d (.str za),.d (.str zb),.d (Q7 zvs),.d (.sl (zxs.map Tm.row)),.d (.sl (zcs.map Cs.row))]) none] ?_ (hr:=by conv=>lhs;simp [Fn.row,Tm.row,Tm.Q3,Cs.Q3,h1f])
  refine AWp.rg [] [] ?_ (hr:=by conv=>lhs;simp [Fn.row,Tm.row,Tm.Q3,Cs.Q3,h1f])
  refine ⟨⟨(i + 1,gs ++ [⟨zg,zps,.mk zk zn za zb zvs zxs zcs⟩]),hi1,by rw [hw,List.take_add_one,h1f,List.map_append,← hz];rfl⟩,by simp;omega,?_⟩
  dsimp only
  exact Le.sub (by simp [Fn.row,Tm.row,Tm.Q3,Cs.Q3,hgl]) (by simp [Fn.row,Tm.row,Tm.Q3,Cs.Q3,hgl])
 have hi1 : i = l.length:=by have:=of_decide_eq_false hc;omega
 subst hi1
 clear hc
 rw [List.take_length] at hw
 obtain rfl : gs = G:=by rw [hw,hG]
 refine AWp.exit ?_
 refine AWp.rg [] [] ?_ (hr:=by conv=>lhs;simp [Fn.row,Tm.row,Tm.Q3,Cs.Q3])
 refine AWp.ret ?_
 try dsimp only [Qq,Q8]
 apply Zk.Qq1 [400]
 ·rfl
 ·conv=>lhs;simp
 ·conv=>lhs;simp [Q9,Tryd.results32]
 rfl
end Go.Proofs.YtjpldhjgehoffaaDoor
namespace Go.Proofs.YtjpldhjgehoffaaDoor
open Go.RowKit
set_option linter.unusedVariables false
set_option linter.unusedSimpArgs false
theorem vNm_le (c : Int) : (vNm (wr c)).size≤140737488355328:=by
 have:=vsz (wr c) (wr_in c)
 omega
theorem nowP_le : ∀ (ps : Ps) (s : ByteArray),s.size≤140737488355328→(∀ p∈ps,p.2.size≤140737488355328)→(nowP ps s).size≤140737488355328:=by
 intro ps s hs hp
 unfold nowP
 have : ∀ (ps : Ps) (o : ByteArray),o.size≤140737488355328→(∀ p∈ps,p.2.size≤140737488355328)→(ps.foldl (fun o p=>if p.1 = s then p.2 else o) o).size≤140737488355328:=by
  intro ps
  induction ps with
  | nil=>intro o ho _;exact ho
  | cons p r ih =>
   intro o ho h
   simp only [List.foldl_cons]
   refine ih _ ?_ fun q hq=>h q (List.mem_cons_of_mem _ hq)
   split
   ·exact h p (List.mem_cons_self ..)
   ·exact ho
 exact this ps s hs hp
theorem Bw : ∀ (l : List ByteArray) (c : Int),∀ s∈J5 l c,s.size≤140737488355328
 | [],_,s,h=>by cases h
 | _ :: r,c,s,h=>by
  rw [J5] at h
  rcases List.mem_cons.1 h with rfl | h
  ·exact vNm_le _
  ·exact Bw r _ s h
theorem rn_ok : ∀ (d : Nat) (t : Tm) (ps : Ps) (c : Int),t.Rt d→t.Ok→(∀ p∈ps,p.2.size≤140737488355328)→(t.rn ps c).1.Ok:=by
 intro d
 induction d with
 | zero=>intro t _ _ h;exact h.elim
 | succ d ih =>
 intro t ps c hR hO hps
 obtain ⟨k,n,a,b,vs,xs,cs⟩:=t
 obtain ⟨_,_,_,hx,hc⟩:=hR
 obtain ⟨⟨o1,o2,o3⟩,⟨o4,o5,o6⟩,o7,o8⟩:=hO
 rw [Tm.Zq] at o7
 rw [Cs.Zq] at o8
 have hL : ∀ (ys : List Tm) (i : Nat) (nm : ByteArray) (c : Int),(∀ y∈ys,y∈xs)→nm.size≤140737488355328→Tm.Oks (Tm.rns k a ps i ys nm c).1∧(Tm.rns k a ps i ys nm c).2.1.size≤140737488355328∧(Tm.rns k a ps i ys nm c).1.length = ys.length:=by
  intro ys
  induction ys with
  | nil=>intro i nm c _ h;exact ⟨trivial,h,rfl⟩
  | cons y r ih2 =>
   intro i nm c hm hn
   have hy:=hm y (List.mem_cons_self ..)
   rw [Tm.rns]
   split
   ·have h1:=ih y (ps ++ [(a,vNm (wr (c + 1)))]) (wr (c + 1)) (hx y hy) (o7 y hy) (fun p hp=>(List.mem_append.1 hp).elim (hps p) fun hp=>by rw [List.mem_singleton.1 hp];exact vNm_le _)
    obtain ⟨h2,h3,h4⟩:=ih2 (i + 1) (vNm (wr (c + 1))) (y.rn (ps ++ [(a,vNm (wr (c + 1)))]) (wr (c + 1))).2 (fun z hz=>hm z (List.mem_cons_of_mem _ hz)) (vNm_le _)
    exact ⟨⟨h1,h2⟩,h3,by simp [h4]⟩
   ·have h1:=ih y ps c (hx y hy) (o7 y hy) hps
    obtain ⟨h2,h3,h4⟩:=ih2 (i + 1) nm (y.rn ps c).2 (fun z hz=>hm z (List.mem_cons_of_mem _ hz)) hn
    exact ⟨⟨h1,h2⟩,h3,by simp [h4]⟩
 have hC : ∀ (ys : List Cs) (c : Int),(∀ y∈ys,y∈cs)→Cs.Oks (Cs.rnL ys ps c).1∧(Cs.rnL ys ps c).1.length = ys.length:=by
  intro ys
  induction ys with
  | nil=>intro c _;exact ⟨trivial,rfl⟩
  | cons y r ih2 =>
   intro c hm
   have hy:=hm y (List.mem_cons_self ..)
   obtain ⟨t,ws,y⟩:=y
   obtain ⟨hw,hyR⟩:=hc _ hy
   obtain ⟨p1,p2,p3⟩:=o8 _ hy
   rw [Cs.rnL,Cs.rn]
   have h1:=ih y (ps ++ ws.zip (J5 ws c)) (U5 ws c) hyR p3 (fun p hp=>(List.mem_append.1 hp).elim (hps p) fun hp=>Bw ws c _ (List.of_mem_zip hp).2)
   obtain ⟨h2,h4⟩:=ih2 (y.rn (ps ++ ws.zip (J5 ws c)) (U5 ws c)).2 fun z hz=>hm z (List.mem_cons_of_mem _ hz)
   exact ⟨⟨⟨Bw ws c,by rw [U4];exact p2,h1⟩,h2⟩,by simp [h4]⟩
 rw [Tm.rn]
 split
 ·exact ⟨⟨nowP_le ps a o1 hps,o2,o3⟩,⟨o4,by simp,by simp⟩,trivial,trivial⟩
 ·obtain ⟨h1,h2,h3⟩:=hL xs 0 a c (fun y hy=>hy) o1
  obtain ⟨h4,h5⟩:=hC cs (Tm.rns k a ps 0 xs a c).2.2 fun y hy=>hy
  exact ⟨⟨h2,o2,o3⟩,⟨o4,by rw [h3];exact o5,by rw [h5];exact o6⟩,h1,h4⟩
theorem Fn.rn_ok (f : Fn) (hb : f.body.Ok) (hr : f.body.Rt 25) : f.rn.body.Ok :=
 Go.Proofs.YtjpldhjgehoffaaDoor.rn_ok 25 f.body _ _ hr hb fun p hp=>Bw _ _ _ (List.of_mem_zip hp).2
theorem Tx {l : List Fn} (hl : Gv l) (h : Y8 l = 0) : ∀ f∈l,f.body.Ok∧f.body.Rt 25∧f.params.length≤6:=fun f hf=>by
 have hr:=(Qj6 h).2.2.2 f hf
 exact ⟨(hl.all f hf).body,wrong_rt _ 25 _ _ 0 (by omega) hr.wrong,hr.params⟩
def wNm (c : Int) : ByteArray:=⟨#[119]⟩ ++ D5 c
theorem F6 : ((⟨#[119]⟩ : ByteArray).size≤maxLen) = True:=eq_true (by show 1≤9223372036854775807;omega)
theorem wsz (e : Int) (h : inI e) : (wNm e).size≤22:=by
 have:=Nz h
 show (⟨#[119]⟩ ++ D5 e : ByteArray).size≤22
 rw [ByteArray.size_append]
 have h1 : (⟨#[119]⟩ : ByteArray).size = 1:=rfl
 omega
theorem wNm_le (c : Int) : (wNm (wr c)).size≤140737488355328:=by
 have:=wsz (wr c) (wr_in c)
 omega
abbrev Bs:=List (ByteArray×Tm)
def Tm.tk : Tm→Int
 | .mk k _ _ _ _ _ _=>k
def varT (s : ByteArray) : Tm:=.mk 1 0 s .empty [] [] []
def around : Bs→Tm→Tm
 | [],t=>t
 | b :: r,t=>.mk 6 0 b.1 .empty [] [b.2,around r t] []
theorem around_append : ∀ (x y : Bs) (t : Tm),around (x ++ y) t = around x (around y t)
 | [],_,_=>rfl
 | b :: r,y,t=>by simp only [List.cons_append,around,around_append r y t]
mutual
def Tm.pl : Tm→Int→Tm×Int
 | .mk k n a b vs xs cs,c =>
  if k = 3∨k = 4∨k = 5 then (around (Tm.ats xs c).2.1 (.mk k n a .empty [] (Tm.ats xs c).1 []),(Tm.ats xs c).2.2)
  else if k = 6 then (.mk 6 0 a .empty [] (Tm.plL xs c).1 [],(Tm.plL xs c).2)
  else if k = 7 then (around (Tm.ats xs c).2.1 (.mk 7 0 .empty .empty [] (Tm.ats xs c).1 (Cs.plL cs (Tm.ats xs c).2.2).1),(Cs.plL cs (Tm.ats xs c).2.2).2)
  else (.mk k n a b vs xs cs,c)
def Tm.ats : List Tm→Int→List Tm×Bs×Int
 | [],c=>([],[],c)
 | x :: r,c=>if x.tk = 1 then (x :: (Tm.ats r c).1,(Tm.ats r c).2.1,(Tm.ats r c).2.2)
  else (varT (wNm (wr (c + 1))) :: (Tm.ats r (x.pl (wr (c + 1))).2).1,(wNm (wr (c + 1)),(x.pl (wr (c + 1))).1) :: (Tm.ats r (x.pl (wr (c + 1))).2).2.1,(Tm.ats r (x.pl (wr (c + 1))).2).2.2)
def Tm.plL : List Tm→Int→List Tm×Int
 | [],c=>([],c)
 | x :: r,c=>((x.pl c).1 :: (Tm.plL r (x.pl c).2).1,(Tm.plL r (x.pl c).2).2)
def Cs.plL : List Cs→Int→List Cs×Int
 | [],c=>([],c)
 | d :: r,c=>((d.pl c).1 :: (Cs.plL r (d.pl c).2).1,(Cs.plL r (d.pl c).2).2)
def Cs.pl : Cs→Int→Cs×Int
 | .mk t ws y,c=>(.mk t ws (y.pl c).1,(y.pl c).2)
end
theorem ats_len : ∀ (l : List Tm) (c : Int),(Tm.ats l c).1.length = l.length
 | [],_=>rfl
 | x :: r,c=>by
  rw [Tm.ats]
  split <;> simp [ats_len r]
def Fn.pl (f : Fn) : Fn:=⟨f.rn.name,f.rn.params,(f.rn.body.pl 0).1⟩
theorem rn_rt : ∀ (d : Nat) (t : Tm) (ps : Ps) (c : Int),t.Rt d→(t.rn ps c).1.Rt d:=by
 intro d
 induction d with
 | zero=>intro t _ _ h;exact h.elim
 | succ d ih =>
 intro t ps c hR
 obtain ⟨k,n,a,b,vs,xs,cs⟩:=t
 obtain ⟨h1,h2,h3,hx,hc⟩:=hR
 have hL : ∀ (ys : List Tm) (i : Nat) (nm : ByteArray) (c : Int),(∀ y∈ys,y∈xs)→(∀ y∈(Tm.rns k a ps i ys nm c).1,y.Rt d)∧(Tm.rns k a ps i ys nm c).1.length = ys.length:=by
  intro ys
  induction ys with
  | nil=>intro i nm c _;exact ⟨fun y h=>by simp [Tm.rns] at h,rfl⟩
  | cons y r ih2 =>
   intro i nm c hm
   have hy:=hm y (List.mem_cons_self ..)
   rw [Tm.rns]
   split
   ·obtain ⟨h2,h4⟩:=ih2 (i + 1) (vNm (wr (c + 1))) (y.rn (ps ++ [(a,vNm (wr (c + 1)))]) (wr (c + 1))).2 (fun z hz=>hm z (List.mem_cons_of_mem _ hz))
    exact ⟨fun z hz=>(List.mem_cons.1 hz).elim (fun e=>e ▸ ih y _ _ (hx y hy)) (h2 z),by simp [h4]⟩
   ·obtain ⟨h2,h4⟩:=ih2 (i + 1) nm (y.rn ps c).2 (fun z hz=>hm z (List.mem_cons_of_mem _ hz))
    exact ⟨fun z hz=>(List.mem_cons.1 hz).elim (fun e=>e ▸ ih y _ _ (hx y hy)) (h2 z),by simp [h4]⟩
 have hC : ∀ (ys : List Cs) (c : Int),(∀ y∈ys,y∈cs)→(∀ y∈(Cs.rnL ys ps c).1,y.2.length≤6∧y.3.Rt d)∧(Cs.rnL ys ps c).1.length = ys.length:=by
  intro ys
  induction ys with
  | nil=>intro c _;exact ⟨fun y h=>by simp [Cs.rnL] at h,rfl⟩
  | cons y r ih2 =>
   intro c hm
   have hy:=hc y (hm y (List.mem_cons_self ..))
   rw [Cs.rnL]
   obtain ⟨h2,h4⟩:=ih2 (y.rn ps c).2 (fun z hz=>hm z (List.mem_cons_of_mem _ hz))
   obtain ⟨t,ws,z⟩:=y
   refine ⟨fun z hz=>(List.mem_cons.1 hz).elim (fun e=>?_) (h2 z),by simp [h4]⟩
   rw [e,Cs.rn]
   exact ⟨by dsimp only;rw [U4];exact hy.1,ih _ _ _ hy.2⟩
 rw [Tm.rn]
 split
 ·rename_i hk
  subst hk
  have h2':=h2
  unfold Xq at h2'
  simp at h2'
  obtain ⟨e1,e2⟩:=h2'
  subst e1 e2
  have h0 : Tm.Rt (d + 1) (.mk 1 n (nowP ps a) b vs [] []):=by
   rw [Tm.Rt]
   exact ⟨h1,h2,h3,by simp,by simp⟩
  exact h0
 ·obtain ⟨q1,q2⟩:=hL xs 0 a c (fun _ h=>h)
  obtain ⟨q3,q4⟩:=hC cs (Tm.rns k a ps 0 xs a c).2.2 (fun _ h=>h)
  refine ⟨h1,?_,?_,q1,q3⟩
  ·rw [q2,q4];exact h2
  ·rw [q2,q4];exact h3
def IdP (ps : Ps) : Prop:=∀ p∈ps,p.1 = p.2
theorem IdP.append {ps qs : Ps} (h : IdP ps) (h2 : IdP qs) : IdP (ps ++ qs):=fun p hp=>(List.mem_append.1 hp).elim (h p) (h2 p)
theorem IdP.zip (l : List ByteArray) : IdP (l.zip l):=by
 induction l with
 | nil=>intro p hp;cases hp
 | cons x r ih =>
  intro p hp
  rw [List.zip_cons_cons] at hp
  rcases List.mem_cons.1 hp with rfl | hp
  ·rfl
  ·exact ih p hp
theorem rt_let {d : Nat} {k n : Int} {a b : ByteArray} {vs : List ByteArray} {xs : List Tm} {cs : List Cs} (h : (Tm.mk k n a b vs xs cs).Rt (d + 1)) (hk : k = 6) : ∃ x y,xs = [x,y]∧cs = []:=by
 obtain ⟨_,hm,_⟩:=h
 subst hk
 unfold Xq at hm
 simp at hm
 obtain ⟨h2,rfl⟩:=hm
 rcases xs with _ | ⟨x,_ | ⟨y,_ | ⟨z,l⟩⟩⟩
 ·cases h2
 ·cases h2
 ·exact ⟨x,y,rfl,rfl⟩
 ·simp at h2
theorem rns_no {k : Int} (hk : k≠6) (a : ByteArray) (ps : Ps) : ∀ (l : List Tm) (i : Nat) (nm : ByteArray) (c : Int),(Tm.rns k a ps i l nm c).2.1 = nm
 | [],_,_,_=>rfl
 | x :: r,i,nm,c=>by
  rw [Tm.rns,if_neg fun h=>hk h.1]
  exact rns_no hk a ps r _ _ _
mutual
def Tm.bd : Tm→List ByteArray
 | .mk k _ a _ _ xs cs=>(if k = 6 then [a] else []) ++ (Tm.bdL xs ++ Cs.bdL cs)
def Tm.bdL : List Tm→List ByteArray
 | []=>[]
 | x :: r=>x.bd ++ Tm.bdL r
def Cs.bdL : List Cs→List ByteArray
 | []=>[]
 | c :: r=>c.bd ++ Cs.bdL r
def Cs.bd : Cs→List ByteArray
 | .mk _ ws y=>ws ++ y.bd
end
def C9 (c : Int) (n : Nat) : List ByteArray:=(List.range n).map fun (i : Nat)=>vNm (c + 1 + (i : Int))
theorem E8 (c : Int) (m n : Nat) : C9 c (m + n) = C9 c m ++ C9 (c + m) n:=by
 unfold C9
 rw [List.range_add,List.map_append,List.map_map]
 congr 1
 refine List.map_congr_left fun i _=>?_
 show vNm _ = vNm _
 congr 1
 push_cast
 omega
theorem seqV_one (c : Int) : C9 c 1 = [vNm (c + 1)]:=by simp [C9]
theorem wr_of {c : Int} (h : 0≤c) (h2 : c < 9223372036854775807) : wr c = c:=wr_id ⟨by omega,by omega⟩
theorem Tw : ∀ (l : List ByteArray) (c : Int),0≤c→c + l.length < 9223372036854775807→J5 l c = C9 c l.length∧U5 l c = c + l.length
 | [],c,_,_=>⟨rfl,by simp [U5]⟩
 | x :: r,c,h,h2=>by
  rw [List.length_cons] at h2
  have hw : wr (c + 1) = c + 1:=wr_of (by omega) (by omega)
  obtain ⟨h3,h4⟩:=Tw r (c + 1) (by omega) (by omega)
  refine ⟨?_,?_⟩
  ·rw [J5,hw,h3,List.length_cons,Nat.add_comm r.length 1,E8,seqV_one]
   rfl
  ·rw [U5,hw,h4,List.length_cons];omega
theorem bd_rn : ∀ (d : Nat) (t : Tm) (ps : Ps) (c : Int),t.Rt d→0≤c→c + t.bd.length < 9223372036854775807→(t.rn ps c).1.bd.Perm (C9 c t.bd.length)∧(t.rn ps c).2 = c + t.bd.length:=by
 intro d
 induction d with
 | zero=>intro t _ _ h;exact h.elim
 | succ d ih =>
 intro t ps c hR h0 hb
 obtain ⟨k,n,a,b,vs,xs,cs⟩:=t
 have hR':=hR
 obtain ⟨hk,hmany,_,hx,hc⟩:=hR'
 rw [Tm.rn]
 by_cases hk1 : k = 1
 ·subst hk1
  unfold Xq at hmany
  simp at hmany
  obtain ⟨rfl,rfl⟩:=hmany
  rw [if_pos rfl]
  exact ⟨by simp [Tm.bd,Tm.bdL,Cs.bdL,C9],by simp [Tm.bd,Tm.bdL,Cs.bdL]⟩
 rw [if_neg hk1]
 by_cases hk6 : k = 6
 ·obtain ⟨x,y,rfl,rfl⟩:=rt_let hR hk6
  subst hk6
  have hl : (Tm.mk 6 n a b vs [x,y] []).bd.length = x.bd.length + (1 + y.bd.length):=by simp [Tm.bd,Tm.bdL,Cs.bdL];omega
  rw [hl] at hb ⊢
  obtain ⟨h1,h2⟩:=ih x ps c (hx x (by simp)) h0 (by push_cast at hb ⊢;omega)
  have hw : wr (c + x.bd.length + 1) = c + x.bd.length + 1:=wr_of (by omega) (by push_cast at hb;omega)
  obtain ⟨h3,h4⟩:=ih y (ps ++ [(a,vNm (c + x.bd.length + 1))]) (c + x.bd.length + 1) (hx y (by simp)) (by omega) (by push_cast at hb ⊢;omega)
  refine ⟨?_,?_⟩
  ·simp [Tm.rns,Cs.rnL,Tm.bd,Tm.bdL,Cs.bdL,h2,hw]
   rw [E8,E8,seqV_one,show c + (x.bd.length : Int) + ((1 : Nat) : Int) = c + x.bd.length + 1 from by omega]
   refine List.Perm.trans ?_ ((List.perm_middle (a:=vNm (c + x.bd.length + 1)) (l₁:=C9 c x.bd.length) (l₂:=C9 (c + x.bd.length + 1) y.bd.length)).symm)
   exact List.Perm.cons _ (h1.append h3)
  ·simp [Tm.rns,Cs.rnL,h2,hw,h4];omega
 ·have hL : ∀ (ys : List Tm) (i : Nat) (nm : ByteArray) (c : Int),(∀ y∈ys,y∈xs)→0≤c→c + (Tm.bdL ys).length < 9223372036854775807→(Tm.bdL (Tm.rns k a ps i ys nm c).1).Perm (C9 c (Tm.bdL ys).length)∧(Tm.rns k a ps i ys nm c).2.2 = c + (Tm.bdL ys).length:=by
   intro ys
   induction ys with
   | nil=>intro i nm c _ _ _;exact ⟨by simp [Tm.rns,Tm.bdL,C9],by simp [Tm.rns,Tm.bdL]⟩
   | cons y r ih2 =>
    intro i nm c hm h0 hb
    rw [Tm.bdL,List.length_append] at hb ⊢
    obtain ⟨h1,h2⟩:=ih y ps c (hx y (hm y (List.mem_cons_self ..))) h0 (by push_cast at hb;omega)
    obtain ⟨h3,h4⟩:=ih2 (i + 1) nm (c + y.bd.length) (fun z hz=>hm z (List.mem_cons_of_mem _ hz)) (by omega) (by push_cast at hb;omega)
    rw [Tm.rns,if_neg fun h=>hk6 h.1,h2]
    dsimp only
    rw [Tm.bdL,E8]
    exact ⟨h1.append h3,by rw [h4];push_cast;omega⟩
  have hC : ∀ (ys : List Cs) (c : Int),(∀ y∈ys,y∈cs)→0≤c→c + (Cs.bdL ys).length < 9223372036854775807→(Cs.bdL (Cs.rnL ys ps c).1).Perm (C9 c (Cs.bdL ys).length)∧(Cs.rnL ys ps c).2 = c + (Cs.bdL ys).length:=by
   intro ys
   induction ys with
   | nil=>intro c _ _ _;exact ⟨by simp [Cs.rnL,Cs.bdL,C9],by simp [Cs.rnL,Cs.bdL]⟩
   | cons y r ih2 =>
    intro c hm h0 hb
    have hy:=hm y (List.mem_cons_self ..)
    obtain ⟨t,ws,y⟩:=y
    rw [Cs.bdL,Cs.bd,List.length_append,List.length_append] at hb ⊢
    obtain ⟨e1,e2⟩:=Tw ws c h0 (by push_cast at hb;omega)
    obtain ⟨h1,h2⟩:=ih y (ps ++ ws.zip (J5 ws c)) (c + ws.length) (hc _ hy).2 (by omega) (by push_cast at hb;omega)
    obtain ⟨h3,h4⟩:=ih2 (c + ws.length + y.bd.length) (fun z hz=>hm z (List.mem_cons_of_mem _ hz)) (by omega) (by push_cast at hb;omega)
    rw [Cs.rnL,Cs.rn,e2,h2]
    dsimp only
    rw [Cs.bdL,Cs.bd,E8,E8,show c + ((ws.length + y.bd.length : Nat) : Int) = c + ws.length + y.bd.length from by push_cast;omega,e1]
    exact ⟨((List.Perm.refl _).append (by rw [← e1];exact h1)).append h3,by rw [h4];push_cast;omega⟩
  have hl : (Tm.mk k n a b vs xs cs).bd.length = (Tm.bdL xs).length + (Cs.bdL cs).length:=by simp [Tm.bd,hk6]
  rw [hl] at hb ⊢
  obtain ⟨h1,h2⟩:=hL xs 0 a c (fun _ h=>h) h0 (by push_cast at hb;omega)
  obtain ⟨h3,h4⟩:=hC cs (c + (Tm.bdL xs).length) (fun _ h=>h) (by omega) (by push_cast at hb;omega)
  rw [h2]
  dsimp only
  rw [Tm.bd,if_neg hk6,List.nil_append,E8]
  exact ⟨h1.append h3,by rw [h4];push_cast;omega⟩
def decVal (l : List UInt8) : Nat:=l.foldl (fun a c=>a * 10 + (c.toNat - 48)) 0
theorem decVal_digits (u : Nat) : decVal (Lib.decDigits u) = u:=by
 induction u using Nat.strongRecOn with
 | _ u ih =>
  by_cases h : u < 10
  ·rw [Lib.decDigits,dif_pos h]
   have h1 : (UInt8.ofNat (48 + u)).toNat = 48 + u:=by rw [UInt8.toNat_ofNat'];omega
   simp only [decVal,List.foldl_cons,List.foldl_nil,h1]
   omega
  ·rw [Lib.decDigits,dif_neg h]
   have h1 : (UInt8.ofNat (48 + u % 10)).toNat = 48 + u % 10:=by rw [UInt8.toNat_ofNat'];omega
   have h2:=ih (u / 10) (by omega)
   unfold decVal at h2 ⊢
   rw [List.foldl_append,h2,List.foldl_cons,List.foldl_nil,h1]
   omega
theorem itoaB_inj {a b : Int} (ha : 0≤a) (hb : 0≤b) (h : D5 a = D5 b) : a = b:=by
 unfold D5 Lib.itoa at h
 rw [if_neg (by omega),if_neg (by omega)] at h
 injection h with h
 have h1 : Lib.decDigits a.toNat = Lib.decDigits b.toNat:=by
  have:=congrArg Array.toList h
  simpa using this
 have h2:=congrArg decVal h1
 rw [decVal_digits,decVal_digits] at h2
 omega
theorem Fw {p a b : ByteArray} (h : p ++ a = p ++ b) : a = b:=by
 have h1:=congrArg (fun x : ByteArray=>x.data.toList) h
 simp only [ByteArray.data_append,Array.toList_append] at h1
 have h2:=List.append_cancel_left h1
 obtain ⟨a⟩:=a
 obtain ⟨b⟩:=b
 congr 1
 exact Array.toList_inj.1 h2
theorem vNm_inj {a b : Int} (ha : 0≤a) (hb : 0≤b) (h : vNm a = vNm b) : a = b:=itoaB_inj ha hb (Fw h)
theorem seqV_nodup {c : Int} (hc : 0≤c) (n : Nat) : (C9 c n).Nodup:=by
 unfold C9
 rw [List.nodup_iff_pairwise_ne,List.pairwise_map]
 refine List.Pairwise.imp ?_ List.nodup_range
 intro a b hab e
 have:=vNm_inj (by omega) (by omega) e
 omega
def Fn.bd (f : Fn) : List ByteArray:=f.params ++ f.body.bd
theorem Fn.rn_bd (f : Fn) (hr : f.body.Rt 25) (hb : (f.bd.length : Int) < 9223372036854775807) : f.rn.bd.Nodup:=by
 unfold Fn.bd at hb
 rw [List.length_append] at hb
 push_cast at hb
 obtain ⟨h1,h2⟩:=Tw f.params 0 (by omega) (by omega)
 obtain ⟨h3,_⟩:=bd_rn 25 f.body (f.params.zip (J5 f.params 0)) (U5 f.params 0) hr (by omega) (by omega)
 unfold Fn.bd Fn.rn
 dsimp only
 have h4 : (J5 f.params 0 ++ (f.body.rn (f.params.zip (J5 f.params 0)) (U5 f.params 0)).1.bd).Perm (C9 0 (f.params.length + f.body.bd.length)):=by
  rw [E8]
  exact (List.Perm.of_eq h1).append (h2 ▸ h3)
 exact h4.nodup_iff.2 (seqV_nodup (by omega) _)
abbrev Out:=Vl×Int×Int
def O6 (ws : List ByteArray) (vs : List Vl) (env : Env) : Env:=(ws.zip vs).reverse ++ env
mutual
def Vl.Fine : Vl→Prop
 | .mk _ n ks=>(-2147483648≤n∧n≤2147483647)∧ks.length≤6∧Vl.Fines ks
def Vl.Fines : List Vl→Prop
 | []=>True
 | t :: r=>t.Fine∧Vl.Fines r
end
theorem Vl.Fines_iff : ∀ {l : List Vl},Vl.Fines l↔∀ t∈l,t.Fine
 | []=>by simp [Vl.Fines]
 | t :: r=>by simp [Vl.Fines,Vl.Fines_iff (l:=r)]
theorem Vl.Fine.ok_at : ∀ (N : Nat) (v : Vl),v.sz < N→v.Fine→v.Ok:=by
 intro N
 induction N with
 | zero=>intro v h;omega
 | succ N ih =>
 intro v hN h
 obtain ⟨c,n,ks⟩:=v
 exact ⟨⟨by have:=h.1.1;omega,by have:=h.1.2;omega⟩,by have:=h.2.1;omega,Vl.Zq.2 fun x hx=>ih x (by have:=Vl.sz_kid (c:=c) (n:=n) hx;omega) (Vl.Fines_iff.1 h.2.2 x hx)⟩
theorem Vl.Fine.ok {v : Vl} (h : v.Fine) : v.Ok:=Vl.Fine.ok_at _ v (Nat.lt_succ_self _) h
def EnvF (env : Env) : Prop:=∀ p∈env,p.2.Fine
theorem EnvF.get {s : ByteArray} {v : Vl} : ∀ {env : Env},EnvF env→D8 env s = some v→v.Fine
 | [],_,h=>by cases h
 | (x,u) :: r,hF,h=>by
  rw [D8] at h
  split at h
  ·cases h;exact hF _ (List.mem_cons_self ..)
  ·exact EnvF.get (fun p hp=>hF p (List.mem_cons_of_mem _ hp)) h
theorem EnvF.cons {env : Env} (h : EnvF env) {v : Vl} (hv : v.Fine) (s : ByteArray) : EnvF ((s,v) :: env):=fun p hp=>by
 rcases List.mem_cons.1 hp with rfl | hp
 ·exact hv
 ·exact h p hp
theorem EnvF.bind {env : Env} (h : EnvF env) {vs : List Vl} (hv : ∀ v∈vs,v.Fine) (ws : List ByteArray) : EnvF (O6 ws vs env):=fun p hp=>by
 unfold O6 at hp
 rcases List.mem_append.1 hp with hp | hp
 ·exact hv _ (List.of_mem_zip (List.mem_reverse.1 hp)).2
 ·exact h p hp
def CovE (env : Env) (names : List ByteArray) : Prop:=∀ s∈names,∃ v,D8 env s = some v
theorem CovE.cons {env : Env} {names : List ByteArray} (h : CovE env names) (a : ByteArray) (v : Vl) : CovE ((a,v) :: env) (names ++ [a]):=fun s hs=>by
 by_cases e : a = s
 ·exact ⟨v,by rw [D8,if_pos e]⟩
 ·rcases List.mem_append.1 hs with hs | hs
  ·obtain ⟨u,hu⟩:=h s hs
   exact ⟨u,by rw [D8,if_neg e];exact hu⟩
  ·exact absurd (List.mem_singleton.1 hs).symm e
theorem envGet_append (s : ByteArray) (b : Env) : ∀ a : Env,D8 (a ++ b) s = (D8 a s).or (D8 b s)
 | []=>by simp [D8]
 | (x,v) :: r=>by
  simp only [List.cons_append,D8]
  split
  ·rfl
  ·exact envGet_append s b r
theorem envGet_mem {s : ByteArray} : ∀ {a : Env},s∈a.map (·.1)→∃ v,D8 a s = some v
 | (x,v) :: r,h=>by
  by_cases e : x = s
  ·exact ⟨v,by rw [D8,if_pos e]⟩
  ·rcases List.mem_cons.1 h with h | h
   ·exact absurd h.symm e
   ·obtain ⟨u,hu⟩:=envGet_mem h
    exact ⟨u,by rw [D8,if_neg e];exact hu⟩
theorem CovE.bind {env : Env} {names ws : List ByteArray} {vs : List Vl} (h : CovE env names) (hl : ws.length = vs.length) : CovE (O6 ws vs env) (names ++ ws):=fun s hs=>by
 unfold O6
 rw [envGet_append]
 by_cases hw : s∈ws
 ·have : s∈((ws.zip vs).reverse).map (·.1):=by
   rw [List.map_reverse,List.mem_reverse,List.map_fst_zip (by omega)]
   exact hw
  obtain ⟨v,hv⟩:=envGet_mem this
  exact ⟨v,by rw [hv];rfl⟩
 ·rcases List.mem_append.1 hs with hs | hs
  ·obtain ⟨v,hv⟩:=h s hs
   cases D8 (ws.zip vs).reverse s with
   | none=>exact ⟨v,by rw [hv];rfl⟩
   | some u=>exact ⟨u,rfl⟩
  ·exact absurd hs hw
def ORel (o o' : Out) : Prop:=o.2 = o'.2∧(o.2.2 = 0→o.1 = o'.1)
theorem ORel.refl (o : Out) : ORel o o:=⟨rfl,fun _=>rfl⟩
def Fmo {α : Type} (F : Int→α×Int×Int) : Prop:=∀ f,0≤f→0≤(F f).2.1∧∀ k,0≤k→(F f).2.2≠12→F (f + k) = ((F f).1,(F f).2.1 + k,(F f).2.2)
theorem Fmo.const {α : Type} (v : α) (e : Int) : Fmo fun f=>(v,f,e):=fun f hf=>⟨hf,fun k _ _=>rfl⟩
theorem Fmo.map {α β : Type} {F : Int→α×Int×Int} (h : Fmo F) (g : α→Int→β) : Fmo fun f=>(g (F f).1 (F f).2.2,(F f).2.1,(F f).2.2):=fun f hf=>by
 obtain ⟨h1,h2⟩:=h f hf
 refine ⟨h1,fun k hk he=>?_⟩
 dsimp only at he ⊢
 rw [h2 k hk he]
theorem Fmo.bind {α β : Type} {F : Int→α×Int×Int} (h : Fmo F) (z : α→β) {G : α→Int→β×Int×Int} (hG : ∀ v,Fmo (G v)) :
  Fmo fun f=>if (F f).2.2≠0 then (z (F f).1,(F f).2.1,(F f).2.2) else G (F f).1 (F f).2.1:=fun f hf=>by
 obtain ⟨h1,h2⟩:=h f hf
 dsimp only
 by_cases he : (F f).2.2≠0
 ·rw [if_pos he]
  refine ⟨h1,fun k hk h3=>?_⟩
  dsimp only at h3
  rw [h2 k hk h3]
  dsimp only
  rw [if_pos he]
 ·rw [if_neg he]
  obtain ⟨g1,g2⟩:=hG (F f).1 (F f).2.1 h1
  refine ⟨g1,fun k hk h3=>?_⟩
  have h4 : (F f).2.2≠12:=fun e=>he (by rw [e];omega)
  rw [h2 k hk h4]
  dsimp only
  rw [if_neg he,g2 k hk h3]
theorem Fmo.congr {α : Type} {F G : Int→α×Int×Int} (h : Fmo F) (e : ∀ f,G f = F f) : Fmo G:=by
 have : G = F:=funext e
 rw [this];exact h
def joinB : Nat→List ByteArray→ByteArray→ByteArray
 | _,[],o=>o
 | i,x :: r,o=>joinB (i + 1) r ((if 0 < i then o ++ ⟨#[32]⟩ else o) ++ x)
def shK (k n : Int) (a b V A M : ByteArray) : ByteArray :=
 if k = 1 then a else if k = 2 then D5 n
 else if k = 3 then ((⟨#[40]⟩ ++ (⟨#[35]⟩ ++ D5 n)) ++ A) ++ ⟨#[41]⟩
 else if k = 4 then ((⟨#[40]⟩ ++ a) ++ A) ++ ⟨#[41]⟩
 else if k = 5 then (if 0 < n∧n < 6 then ((⟨#[40]⟩ ++ (⟨#[43,45,42,60,61]⟩ : ByteArray).extract (n - 1).toNat n.toNat) ++ A) ++ ⟨#[41]⟩ else ⟨#[63]⟩)
 else if k = 6 then ((⟨#[40,108,101,116,32]⟩ ++ a) ++ A) ++ ⟨#[41]⟩
 else if k = 7 then M ++ ⟨#[41]⟩
 else if k = 8 then ((⟨#[40,100,117,112,32]⟩ ++ a) ++ A) ++ ⟨#[41]⟩
 else if k = 9 then ((⟨#[40,100,114,111,112,32]⟩ ++ a) ++ A) ++ ⟨#[41]⟩
 else if k = 10 then (((((⟨#[40,116,97,107,101,32]⟩ ++ a) ++ ⟨#[32,40]⟩) ++ V) ++ ⟨#[41]⟩) ++ A) ++ ⟨#[41]⟩
 else if k = 11 then (((((((⟨#[40,104,111,108,100,32]⟩ ++ a) ++ ⟨#[32]⟩) ++ b) ++ ⟨#[32,40]⟩) ++ V) ++ ⟨#[41]⟩) ++ A) ++ ⟨#[41]⟩
 else if k = 12 then ((((⟨#[40,117,115,101,32]⟩ ++ b) ++ ⟨#[32]⟩) ++ (⟨#[35]⟩ ++ D5 n)) ++ A) ++ ⟨#[41]⟩
 else if k = 13 then ((⟨#[40,102,114,101,101,32]⟩ ++ b) ++ A) ++ ⟨#[41]⟩
 else ⟨#[63]⟩
mutual
def Tm.sh : Tm→ByteArray
 | .mk k n a b vs xs cs=>shK k n a b (joinB 0 vs ⟨#[]⟩) (Tm.shL xs ⟨#[]⟩) (Cs.shL cs (⟨#[40,109,97,116,99,104]⟩ ++ Tm.shL xs ⟨#[]⟩))
def Tm.shL : List Tm→ByteArray→ByteArray
 | [],o=>o
 | x :: r,o=>Tm.shL r ((o ++ ⟨#[32]⟩) ++ x.sh)
def Cs.shL : List Cs→ByteArray→ByteArray
 | [],o=>o
 | c :: r,o=>Cs.shL r (c.shC o)
def Cs.shC : Cs→ByteArray→ByteArray
 | .mk t ws y,o=>((joinB 0 ws (((o ++ ⟨#[32,40,35]⟩) ++ D5 t) ++ ⟨#[32,40]⟩) ++ ⟨#[41,32]⟩) ++ y.sh) ++ ⟨#[41]⟩
end
def Fn.shL : List Fn→ByteArray→ByteArray
 | [],o=>o
 | f :: r,o=>Fn.shL r (((joinB 0 f.params (((o ++ ⟨#[40,102,110,32]⟩) ++ f.name) ++ ⟨#[32,40]⟩) ++ ⟨#[41,32]⟩) ++ f.body.sh) ++ ⟨#[41,10]⟩)
mutual
def Tm.In : Tm→Prop
 | .mk k n a b vs xs cs=>inI n∧Tm.InL xs∧Cs.InL cs
def Tm.InL : List Tm→Prop
 | []=>True
 | x :: r=>x.In∧Tm.InL r
def Cs.InL : List Cs→Prop
 | []=>True
 | c :: r=>c.In∧Cs.InL r
def Cs.In : Cs→Prop
 | .mk t ws y=>inI t∧y.In
end
@[simp] theorem le_maxLen0 : 0≤maxLen:=by decide
@[simp] theorem le_maxLen4 : 4≤maxLen:=by decide
@[simp] theorem le_maxLen6 : 6≤maxLen:=by decide
@[simp] theorem le_maxLen7 : 7≤maxLen:=by decide
@[simp] theorem le_maxLen8 : 8≤maxLen:=by decide
@[simp] theorem le_maxLen9 : 9≤maxLen:=by decide
@[simp] theorem le_maxLen10 : 10≤maxLen:=by decide
@[simp] theorem le_maxLen11 : 11≤maxLen:=by decide
@[simp] theorem le_maxLen12 : 12≤maxLen:=by decide
end Go.Proofs.YtjpldhjgehoffaaDoor
