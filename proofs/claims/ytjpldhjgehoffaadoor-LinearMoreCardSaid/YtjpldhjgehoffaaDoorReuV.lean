import Derived.Test.YtjpldhjgehoffaaDoorFuseQ
import Derived.Test.YtjpldhjgehoffaaDoorParseE
import Derived.Test.YtjpldhjgehoffaaDoorShowP
import Derived.Test.YtjpldhjgehoffaaDoorLinT
import Derived.Test.YtjpldhjgehoffaaDoorLineF
namespace Go.Proofs.YtjpldhjgehoffaaDoor
open Go.RowKit
attribute [local simp] Cq mkRc ldOf stOf Qz4 Fq M4 Rq K7 V3 Yv K4 J7 Y9 L9 evA Kv G8 Value.oneCell' Zj Q4 Z7 Iz Vz Z0 AS.after Z8 K8 Jv AV.ids Mq Qz.ids Qj3 F9 Wv U9 G6 Y0 Y5 Kk V9 V7 Yz Ov T9 setAt Vj Cj Gq Pj R9 Pk binI AV.cells J9 Jz R8 U1 AV.kill Qz.kill AV.has AV.K9 Op.operands Call.operands Gj Hw Zv Oz Zz Xz Tk moQ M6 Uz Yw AV.ren Tj Qz.ren Qz.like kept X8 M5 AV.frz Pz Cw Ex H9 F3 AS.frz Mv Uw Qz.frz Rx Rj bleF Nat.ble_eq R4 Ww K3 D.Yx F5 Uv Vx Vq phO Px Gz Wx U0 K6 Low Sq
set_option linter.unusedVariables false
set_option linter.unusedSimpArgs false
theorem fuOne_yes2 {k : Int} {na : Nat} {nm : ByteArray} {dws rest : List ByteArray} {y z : Tm} (hsr : y.sr dws = (rest,z)) (h1 : dws.length≠0) (ha : na = 1) (hk : k = 7) (h2 : z.tk = 9) (h3 : z.nm = nm) : G7 k na nm dws y = .mk 10 0 nm .empty dws [cnt 9 rest z.a0] []:=by
 unfold G7
 rw [hsr]
 exact if_pos ⟨h1,ha,hk,h2,h3⟩
theorem R7 {k : Int} {na : Nat} {nm : ByteArray} {dws rest : List ByteArray} {y z : Tm} (hsr : y.sr dws = (rest,z)) (h : dws.length≠0→na = 1→k = 7→z.tk = 9→z.nm = nm→False) : G7 k na nm dws y = y:=by
 unfold G7
 rw [hsr]
 exact if_neg fun ⟨h1,ha,hk,h2,h3⟩=>h h1 ha hk h2 h3
def FdN (N : Nat) : Prop:=∀ t : Tm,t.sz≤N→t.Ok→t.Du→Qw Tryd.prog 61 [Xw t] (fun _=>Xw t.fu) none
set_option maxRecDepth 20000 in
set_option maxHeartbeats 16000000 in
theorem fd_step (N : Nat) (ih : FdN N) : FdN (N + 1):=by
 intro t hsz hO hD
 obtain ⟨R,hR⟩ : ∃ R,R = t.fu:=⟨_,rfl⟩
 rw [← hR]
 obtain ⟨rk,rn,ra,rb,rvs,rxs,rcs⟩:=R
 obtain ⟨tk,tn,ta,tb,tvs,txs,tcs⟩:=t
 rw [Tm.fu,Tm.Qj1,Cs.Qj1] at hR
 obtain ⟨nm0,hn0⟩ : ∃ x,x = nmH txs:=⟨_,rfl⟩
 rw [← hn0] at hR
 have hxO : ∀ x∈txs,x.Ok:=fun x hx=>Tm.Zq.1 hO.2.2.1 x hx
 have hcO : ∀ x∈tcs,x.Ok:=fun x hx=>Cs.Zq.1 hO.2.2.2 x hx
 have hxD : ∀ x∈txs,x.Du:=fun x hx=>Tm.Bz.1 hD.2.1 x hx
 have hcD : ∀ x∈tcs,x.Du:=fun x hx=>Cs.Bz.1 hD.2.2 x hx
 obtain ⟨o1,o2,o3,o4,o5⟩:=hO.vars
 simp only [Tm.sz] at hsz
 refine Qw.of Tryd.func61 rfl rfl rfl (Nat.le_of_ble_eq_true rfl) ?_
 show AWp _ _ (Zk _ Tryd.f61 _ _ _) (Z7 115 _)
 refine AWp.rg [] [] ?_ (hr:=by conv=>lhs;simp [Tm.row,Tm.Q3,Cs.Q3])
 refine AWp.rg [] [] ?_ (hr:=by conv=>lhs;simp [Tm.row,Tm.Q3,Cs.Q3])
 refine AWp.rg [] [] ?_ (hr:=by conv=>lhs;simp [Tm.row,Tm.Q3,Cs.Q3])
 refine AWp.rg [] [] ?_ (hr:=by conv=>lhs;simp [Tm.row,Tm.Q3,Cs.Q3])
 repeat (first | refine AWp.seq ?_ | refine AWp.block ?_)
 refine AWp.le (Le.low [400] [] (fr:=[(1,.ptr 1 0),(2,.ptr 2 0),(3,.ptr 3 0),(15,.d (.sl (txs.map Tm.row))),(16,.d (.int (txs.length : Int))),(17,.d (.int (0 : Int)))]) (mem:=[(1,some (.blk 32 [.d (.int tk),.d (.int tn),.d (.str ta),.d (.str tb),.d (Q7 tvs),.d (.sl (txs.map Tm.row)),.d (.sl (tcs.map Cs.row))])),(2,some (.blk 32 [.d (.int 0),.d (.int 0),.d (.str ByteArray.empty),.d (.str ByteArray.empty),.lit (.slice none 0 0),.lit (.slice none 0 0),.lit (.slice none 0 0)])),(3,some (.blk 32 [.d (.int tk),.d (.int tn),.d (.str ta),.d (.str tb),.d (Q7 tvs),.arr 400 0 ([] : List Tm).length,.lit (.slice none 0 0)])),(400,some (.arr 32 7 (([] : List Tm).map Tm.row)))]) rfl (by simp) (by simp)) ?_
 refine AWp.loop (σ:=fun u : {u : Nat×List Tm // u.1≤txs.length∧u.2 = (txs.take u.1).map Tm.fu}=>⟨115,[(1,.ptr 1 0),(2,.ptr 2 0),(3,.ptr 3 0),(15,.d (.sl (txs.map Tm.row))),(16,.d (.int (txs.length : Int))),(17,.d (.int (u.1.1 : Int)))],[(1,some (.blk 32 [.d (.int tk),.d (.int tn),.d (.str ta),.d (.str tb),.d (Q7 tvs),.d (.sl (txs.map Tm.row)),.d (.sl (tcs.map Cs.row))])),(2,some (.blk 32 [.d (.int 0),.d (.int 0),.d (.str ByteArray.empty),.d (.str ByteArray.empty),.lit (.slice none 0 0),.lit (.slice none 0 0),.lit (.slice none 0 0)])),(3,some (.blk 32 [.d (.int tk),.d (.int tn),.d (.str ta),.d (.str tb),.d (Q7 tvs),.arr 400 0 u.1.2.length,.lit (.slice none 0 0)])),(400,some (.arr 32 7 (u.1.2.map Tm.row)))]⟩)
  (μ:=fun u=>txs.length - u.1.1) ⟨(0,[]),⟨Nat.zero_le _,by simp⟩⟩ (Le.sub (by simp) (by simp)) (fun ⟨(i,ys),⟨hi4,hw⟩⟩=>?_)
 dsimp only at hi4 hw ⊢
 refine AWp.rg [] [] ?_ (hr:=by conv=>lhs;simp [Tm.row,Tm.Q3,Cs.Q3])
 repeat (first | refine AWp.seq ?_ | refine AWp.block ?_)
 refine AWp.cond rfl (fun hc=>?_) (fun hc=>?_)
 ·have hi1 : i < txs.length:=by have:=of_decide_eq_true hc;omega
  clear hc
  have h1y : txs[i]? = some txs[i]:=List.getElem?_eq_getElem hi1
  have hmy : txs[i]∈txs:=List.getElem_mem hi1
  have hdy : txs.drop i = txs[i] :: txs.drop (i + 1):=List.drop_eq_getElem_cons hi1
  generalize txs[i] = y at h1y hmy hdy
  have hyl : ys.length = i:=by rw [hw,List.length_map,List.length_take];omega
  have hx:=ih y (by have:=Tm.Z4 hmy;omega) (hxO y hmy) (hxD y hmy)
  have hsn : (txs.take (i + 1)).map Tm.fu = ys ++ [y.fu]:=by rw [List.take_add_one,h1y,List.map_append,← hw];rfl
  generalize y.fu = z at hx hsn
  obtain ⟨yk,yn,ya,yb,yvs,yxs,ycs⟩:=y
  obtain ⟨zk,zn,za,zb,zvs,zxs,zcs⟩:=z
  refine AWp.skip ?_
  refine AWp.rg [] [] ?_ (hr:=by conv=>lhs;simp [Tm.row,Tm.Q3,Cs.Q3,h1y])
  refine AWp.dw [] [.p (fun _=>.agg [.d (.int zk),.d (.int zn),.d (.str za),.d (.str zb),.d (Q7 zvs),.d (.sl (zxs.map Tm.row)),.d (.sl (zcs.map Cs.row))]) none] mixed ?_ (hr:=by conv=>lhs;simp [Tm.row,Tm.Q3,Cs.Q3,h1y])
  refine AWp.rg [] [] ?_ (hr:=by conv=>lhs;simp [Tm.row,Tm.Q3,Cs.Q3,h1y])
  refine ⟨⟨(i + 1,ys ++ [.mk zk zn za zb zvs zxs zcs]),hi1,hsn.symm⟩,by simp;omega,?_⟩
  dsimp only
  exact Le.sub (by simp [Tm.row,Tm.Q3,Cs.Q3,hyl]) (by simp [Tm.row,Tm.Q3,Cs.Q3,hyl])
 have hi1 : i = txs.length:=by have:=of_decide_eq_false hc;omega
 subst hi1
 clear hc
 rw [List.take_length] at hw
 have hyl : ys.length = txs.length:=by rw [hw,List.length_map]
 rw [← hw] at hR
 clear hw
 refine AWp.exit ?_
 refine AWp.rg [] [] ?_ (hr:=by conv=>lhs;simp [Tm.row,Tm.Q3,Cs.Q3])
 repeat (first | refine AWp.seq ?_ | refine AWp.block ?_)
 refine AWp.le (Le.low [401] [] (fr:=[(1,.ptr 1 0),(2,.ptr 2 0),(3,.ptr 3 0),(30,.d (.sl (tcs.map Cs.row))),(31,.d (.int (tcs.length : Int))),(32,.d (.int (0 : Int)))]) (mem:=[(1,some (.blk 32 [.d (.int tk),.d (.int tn),.d (.str ta),.d (.str tb),.d (Q7 tvs),.d (.sl (txs.map Tm.row)),.d (.sl (tcs.map Cs.row))])),(2,some (.blk 32 [.d (.int 0),.d (.int 0),.d (.str ByteArray.empty),.d (.str ByteArray.empty),.lit (.slice none 0 0),.lit (.slice none 0 0),.lit (.slice none 0 0)])),(3,some (.blk 32 [.d (.int tk),.d (.int tn),.d (.str ta),.d (.str tb),.d (Q7 tvs),.arr 400 0 ys.length,.arr 401 0 ([] : List Cs).length])),(400,some (.arr 32 7 (ys.map Tm.row))),(401,some (.arr 42 9 (([] : List Cs).map Cs.row)))]) rfl (by simp) (by simp)) ?_
 refine AWp.loop (σ:=fun u : {u : Nat×List Cs // u.1≤tcs.length∧u.2 = (tcs.take u.1).map (Cs.fu tk txs.length nm0)}=>⟨115,[(1,.ptr 1 0),(2,.ptr 2 0),(3,.ptr 3 0),(30,.d (.sl (tcs.map Cs.row))),(31,.d (.int (tcs.length : Int))),(32,.d (.int (u.1.1 : Int)))],[(1,some (.blk 32 [.d (.int tk),.d (.int tn),.d (.str ta),.d (.str tb),.d (Q7 tvs),.d (.sl (txs.map Tm.row)),.d (.sl (tcs.map Cs.row))])),(2,some (.blk 32 [.d (.int 0),.d (.int 0),.d (.str ByteArray.empty),.d (.str ByteArray.empty),.lit (.slice none 0 0),.lit (.slice none 0 0),.lit (.slice none 0 0)])),(3,some (.blk 32 [.d (.int tk),.d (.int tn),.d (.str ta),.d (.str tb),.d (Q7 tvs),.arr 400 0 ys.length,.arr 401 0 u.1.2.length])),(400,some (.arr 32 7 (ys.map Tm.row))),(401,some (.arr 42 9 (u.1.2.map Cs.row)))]⟩)
  (μ:=fun u=>tcs.length - u.1.1) ⟨(0,[]),⟨Nat.zero_le _,by simp⟩⟩ (Le.sub (by simp) (by simp)) (fun ⟨(i,ds),⟨hi9,hw2⟩⟩=>?_)
 dsimp only at hi9 hw2 ⊢
 refine AWp.rg [] [] ?_ (hr:=by conv=>lhs;simp [Tm.row,Tm.Q3,Cs.Q3])
 repeat (first | refine AWp.seq ?_ | refine AWp.block ?_)
 refine AWp.cond rfl (fun hc=>?_) (fun hc=>?_)
 ·have hi1 : i < tcs.length:=by have:=of_decide_eq_true hc;omega
  clear hc
  have h1d : tcs[i]? = some tcs[i]:=List.getElem?_eq_getElem hi1
  have hmd : tcs[i]∈tcs:=List.getElem_mem hi1
  have hdd : tcs.drop i = tcs[i] :: tcs.drop (i + 1):=List.drop_eq_getElem_cons hi1
  generalize tcs[i] = d at h1d hmd hdd
  have hdl : ds.length = i:=by rw [hw2,List.length_map,List.length_take];omega
  have hdO:=hcO d hmd
  have hdD:=hcD d hmd
  have hsz2:=Cs.Z4 hmd
  have hsn : (tcs.take (i + 1)).map (Cs.fu tk txs.length nm0) = ds ++ [d.fu tk txs.length nm0]:=by rw [List.take_add_one,h1d,List.map_append,← hw2];rfl
  obtain ⟨dt,dws,y⟩:=d
  have hx:=ih y (by simp only [Cs.sz] at hsz2;omega) hdO.2.2 hdD.2
  obtain ⟨heO,heD⟩:=Tm.fu_ok y hdO.2.2 hdD.2
  have hdl6 : dws.length≤6:=hdD.1
  have hwz : ∀ s∈dws,s.size≤140737488355328:=hdO.1
  rw [Cs.fu] at hsn
  generalize y.fu = e at hx heO heD hsn
  obtain ⟨yk,yn,ya,yb,yvs,yxs,ycs⟩:=y
  obtain ⟨ek,en,ea,eb,evs,exs,ecs⟩:=e
  obtain ⟨u,hu⟩ : ∃ u,G7 tk txs.length nm0 dws (.mk ek en ea eb evs exs ecs) = u:=⟨_,rfl⟩
  rw [hu] at hsn
  obtain ⟨uk,un,ua,ub,uvs,uxs,ucs⟩:=u
  refine AWp.skip ?_
  refine AWp.rg [] [] ?_ (hr:=by conv=>lhs;simp [Tm.row,Tm.Q3,Cs.Q3,h1d,Cs.row])
  refine AWp.rg [] [.p (fun _=>.agg [.d (.int ek),.d (.int en),.d (.str ea),.d (.str eb),.d (Q7 evs),.d (.sl (exs.map Tm.row)),.d (.sl (ecs.map Cs.row))]) none] ?_ (hr:=by conv=>lhs;simp [Tm.row,Tm.Q3,Cs.Q3,h1d,Cs.row])
  refine AWp.rg [] [] ?_ (hr:=by conv=>lhs;simp [Tm.row,Tm.Q3,Cs.Q3,h1d,Cs.row])
  refine AWp.rg [] [] ?_ (hr:=by conv=>lhs;simp [Tm.row,Tm.Q3,Cs.Q3,h1d,Cs.row])
  repeat (first | refine AWp.seq ?_ | refine AWp.block ?_)
  refine AWp.loop (σ:=fun u : {u : Int×Int×ByteArray×ByteArray×List ByteArray×List Tm×List Cs×List ByteArray // (Tm.sr (.mk ek en ea eb evs exs ecs) dws = Tm.sr (.mk u.1 u.2.1 u.2.2.1 u.2.2.2.1 u.2.2.2.2.1 u.2.2.2.2.2.1 u.2.2.2.2.2.2.1) u.2.2.2.2.2.2.2∧Tm.Du (.mk u.1 u.2.1 u.2.2.1 u.2.2.2.1 u.2.2.2.2.1 u.2.2.2.2.2.1 u.2.2.2.2.2.2.1)∧u.2.2.2.2.2.2.2.length≤6)}=>⟨115,[(1,.ptr 1 0),(2,.ptr 2 0),(3,.ptr 3 0),(7,.ptr 7 0),(8,.ptr 8 0),(9,.d (Q7 u.1.2.2.2.2.2.2.2)),(10,.ptr 10 0),(30,.d (.sl (tcs.map Cs.row))),(31,.d (.int (tcs.length : Int))),(32,.d (.int (i : Int)))],[(1,some (.blk 32 [.d (.int tk),.d (.int tn),.d (.str ta),.d (.str tb),.d (Q7 tvs),.d (.sl (txs.map Tm.row)),.d (.sl (tcs.map Cs.row))])),(2,some (.blk 32 [.d (.int 0),.d (.int 0),.d (.str ByteArray.empty),.d (.str ByteArray.empty),.lit (.slice none 0 0),.lit (.slice none 0 0),.lit (.slice none 0 0)])),(3,some (.blk 32 [.d (.int tk),.d (.int tn),.d (.str ta),.d (.str tb),.d (Q7 tvs),.arr 400 0 ys.length,.arr 401 0 ds.length])),(7,some (.blk 42 [.d (.int dt),.d (Q7 dws),.d (.int yk),.d (.int yn),.d (.str ya),.d (.str yb),.d (Q7 yvs),.d (.sl (yxs.map Tm.row)),.d (.sl (ycs.map Cs.row))])),(8,some (.blk 32 [.d (.int ek),.d (.int en),.d (.str ea),.d (.str eb),.d (Q7 evs),.d (.sl (exs.map Tm.row)),.d (.sl (ecs.map Cs.row))])),(10,some (.blk 32 [.d (.int u.1.1),.d (.int u.1.2.1),.d (.str u.1.2.2.1),.d (.str u.1.2.2.2.1),.d (Q7 u.1.2.2.2.2.1),.d (.sl (u.1.2.2.2.2.2.1.map Tm.row)),.d (.sl (u.1.2.2.2.2.2.2.1.map Cs.row))])),(400,some (.arr 32 7 (ys.map Tm.row))),(401,some (.arr 42 9 (ds.map Cs.row)))]⟩)
   (μ:=fun u=>(Tm.mk u.1.1 u.1.2.1 u.1.2.2.1 u.1.2.2.2.1 u.1.2.2.2.2.1 u.1.2.2.2.2.2.1 u.1.2.2.2.2.2.2.1).sz) ⟨(ek,en,ea,eb,evs,exs,ecs,dws),⟨rfl,heD,hdl6⟩⟩ (Le.sub (by simp) (by simp)) (fun ⟨(zk,zn,za,zb,zvs,zxs,zcs,us),hw3⟩=>?_)
  dsimp only at hw3 ⊢
  obtain ⟨hsr,hdu,hul⟩:=hw3
  have hh:=sp_Has us za (by omega)
  obtain ⟨qa,hq1⟩ : ∃ q,hasB us za = q:=⟨_,rfl⟩
  rw [hq1] at hh
  by_cases q1 : zk = 8
  ·cases qa with
   | true =>
    refine AWp.rg [] [.p (fun _=>.d (.bool true)) none] ?_ (hr:=by conv=>lhs;simp [Tm.row,Tm.Q3,Cs.Q3,h1d,Cs.row,q1])
    refine AWp.cy ?_
    refine AWp.skip ?_
    have hzn : zxs≠[]:=hdu.1 (.inl q1)
    obtain ⟨x,r,rfl⟩ : ∃ x r,zxs = x :: r:=by
     rcases zxs with _ | ⟨x,r⟩
     ·exact absurd rfl hzn
     ·exact ⟨x,r,rfl⟩
    have hpk : Qw Tryd.prog 99 [X6 us,.d (.sl [[.str za]]),.d (.bool false)] (fun _=>X6 (woN us [za])) none:=sp_pickO us [za] (by omega) (by simp)
    have hWl:=Fv us [za]
    have hsr2 : Tm.sr (.mk ek en ea eb evs exs ecs) dws = x.sr (woN us [za]):=by rw [hsr];exact if_pos ⟨q1,hq1⟩
    have hxd : x.Du:=hdu.2.1.1
    generalize woN us [za] = W at hpk hWl hsr2
    obtain ⟨xk,xn,xa,xb,xvs,xxs,xcs⟩:=x
    refine AWp.rg [3] [.p (fun _=>.d (Q7 W)) none] ?_ (hr:=by conv=>lhs;simp [Tm.row,Tm.Q3,Cs.Q3,h1d,Cs.row,q1])
    refine AWp.rg [] [] ?_ (hr:=by conv=>lhs;simp [Tm.row,Tm.Q3,Cs.Q3,h1d,Cs.row,q1])
    refine ⟨⟨(xk,xn,xa,xb,xvs,xxs,xcs,W),⟨hsr2,hxd,by dsimp only;omega⟩⟩,by simp only [Tm.sz,Tm.szs];omega,?_⟩
    dsimp only
    exact Le.sub (by simp) (by simp)
   | false =>
    refine AWp.rg [] [.p (fun _=>.d (.bool false)) none] ?_ (hr:=by conv=>lhs;simp [Tm.row,Tm.Q3,Cs.Q3,h1d,Cs.row,q1])
    refine AWp.cn ?_
    refine AWp.exit ?_
    have hsz3 : Tm.sr (.mk zk zn za zb zvs zxs zcs) us = (us,(.mk zk zn za zb zvs zxs zcs)):=by
     refine if_neg fun h=>?_
     have h2:=h.2
     rw [hq1] at h2
     cases h2
    rw [hsz3] at hsr
    obtain ⟨A,hA⟩ : ∃ A : Int,(dws.length : Int) = A:=⟨_,rfl⟩
    obtain ⟨B,hB⟩ : ∃ B : Int,(txs.length : Int) = B:=⟨_,rfl⟩
    by_cases hB1 : B = 1
    ·obtain ⟨x,hx1⟩ : ∃ x,txs = [x]:=by
      rcases txs with _ | ⟨x,_ | ⟨y,r⟩⟩
      ·simp at hB;omega
      ·exact ⟨x,rfl⟩
      ·simp at hB;omega
     have h1x : txs[0]? = some x:=by rw [hx1];rfl
     have hn1 : x.nm = nm0:=by rw [hn0,hx1];rfl
     obtain ⟨xk,xn,xa,xb,xvs,xxs,xcs⟩:=x
     obtain rfl : nm0 = xa:=hn1.symm
     by_cases q2 : 0 < A
     ·by_cases q3 : tk = 7
      ·refine AWp.dw [] [] mixed ?_ (hr:=by conv=>lhs;simp [Tm.row,Tm.Q3,Cs.Q3,h1d,Cs.row,hA,hB,h1x,q1,hB1,q2,q3])
       refine AWp.cn ?_
       refine AWp.skip ?_
       rw [R7 hsr fun h1 h2 h3 h4 h5=>by
        have h6 : zk = 9:=h4
        have h7 : za = nm0:=h5
        first | omega | (exact absurd h7 (by assumption))] at hu
       injection hu with e1 e2 e3 e4 e5 e6 e7
       subst e1 e2 e3 e4 e5 e6 e7
       refine AWp.rg [] [] ?_ (hr:=by conv=>lhs;simp [Tm.row,Tm.Q3,Cs.Q3,h1d,Cs.row,q1,hB1,q2,q3])
       refine AWp.rg [] [] ?_ (hr:=by conv=>lhs;simp [Tm.row,Tm.Q3,Cs.Q3,h1d,Cs.row,q1,hB1,q2,q3])
       refine ⟨⟨(i + 1,ds ++ [.mk dt dws (.mk ek en ea eb evs exs ecs)]),hi1,hsn.symm⟩,by simp;omega,?_⟩
       dsimp only
       exact Le.sub (by simp [Cs.row,Tm.row,Tm.Q3,Cs.Q3,hdl,q3]) (by simp [Cs.row,Tm.row,Tm.Q3,Cs.Q3,hdl,q3])
      refine AWp.dw [] [] mixed ?_ (hr:=by conv=>lhs;simp [Tm.row,Tm.Q3,Cs.Q3,h1d,Cs.row,hA,hB,h1x,q1,hB1,q2,q3])
      refine AWp.cn ?_
      refine AWp.skip ?_
      rw [R7 hsr fun h1 h2 h3 h4 h5=>by
       have h6 : zk = 9:=h4
       have h7 : za = nm0:=h5
       first | omega | (exact absurd h7 (by assumption))] at hu
      injection hu with e1 e2 e3 e4 e5 e6 e7
      subst e1 e2 e3 e4 e5 e6 e7
      refine AWp.rg [] [] ?_ (hr:=by conv=>lhs;simp [Tm.row,Tm.Q3,Cs.Q3,h1d,Cs.row,q1,hB1,q2,q3])
      refine AWp.rg [] [] ?_ (hr:=by conv=>lhs;simp [Tm.row,Tm.Q3,Cs.Q3,h1d,Cs.row,q1,hB1,q2,q3])
      refine ⟨⟨(i + 1,ds ++ [.mk dt dws (.mk ek en ea eb evs exs ecs)]),hi1,hsn.symm⟩,by simp;omega,?_⟩
      dsimp only
      exact Le.sub (by simp [Cs.row,Tm.row,Tm.Q3,Cs.Q3,hdl]) (by simp [Cs.row,Tm.row,Tm.Q3,Cs.Q3,hdl])
     refine AWp.dw [] [] mixed ?_ (hr:=by conv=>lhs;simp [Tm.row,Tm.Q3,Cs.Q3,h1d,Cs.row,hA,hB,h1x,q1,hB1,q2])
     refine AWp.cn ?_
     refine AWp.skip ?_
     rw [R7 hsr fun h1 h2 h3 h4 h5=>by
      have h6 : zk = 9:=h4
      have h7 : za = nm0:=h5
      first | omega | (exact absurd h7 (by assumption))] at hu
     injection hu with e1 e2 e3 e4 e5 e6 e7
     subst e1 e2 e3 e4 e5 e6 e7
     refine AWp.rg [] [] ?_ (hr:=by conv=>lhs;simp [Tm.row,Tm.Q3,Cs.Q3,h1d,Cs.row,q1,hB1,q2])
     refine AWp.rg [] [] ?_ (hr:=by conv=>lhs;simp [Tm.row,Tm.Q3,Cs.Q3,h1d,Cs.row,q1,hB1,q2])
     refine ⟨⟨(i + 1,ds ++ [.mk dt dws (.mk ek en ea eb evs exs ecs)]),hi1,hsn.symm⟩,by simp;omega,?_⟩
     dsimp only
     exact Le.sub (by simp [Cs.row,Tm.row,Tm.Q3,Cs.Q3,hdl]) (by simp [Cs.row,Tm.row,Tm.Q3,Cs.Q3,hdl])
    by_cases q4 : 0 < A
    ·refine AWp.dw [] [] mixed ?_ (hr:=by conv=>lhs;simp [Tm.row,Tm.Q3,Cs.Q3,h1d,Cs.row,hA,hB,q1,hB1,q4])
     refine AWp.cn ?_
     refine AWp.skip ?_
     rw [R7 hsr fun h1 h2 h3 h4 h5=>by
      have h6 : zk = 9:=h4
      have h7 : za = nm0:=h5
      first | omega | (exact absurd h7 (by assumption))] at hu
     injection hu with e1 e2 e3 e4 e5 e6 e7
     subst e1 e2 e3 e4 e5 e6 e7
     refine AWp.rg [] [] ?_ (hr:=by conv=>lhs;simp [Tm.row,Tm.Q3,Cs.Q3,h1d,Cs.row,q1,hB1,q4])
     refine AWp.rg [] [] ?_ (hr:=by conv=>lhs;simp [Tm.row,Tm.Q3,Cs.Q3,h1d,Cs.row,q1,hB1,q4])
     refine ⟨⟨(i + 1,ds ++ [.mk dt dws (.mk ek en ea eb evs exs ecs)]),hi1,hsn.symm⟩,by simp;omega,?_⟩
     dsimp only
     exact Le.sub (by simp [Cs.row,Tm.row,Tm.Q3,Cs.Q3,hdl]) (by simp [Cs.row,Tm.row,Tm.Q3,Cs.Q3,hdl])
    refine AWp.dw [] [] mixed ?_ (hr:=by conv=>lhs;simp [Tm.row,Tm.Q3,Cs.Q3,h1d,Cs.row,hA,hB,q1,hB1,q4])
    refine AWp.cn ?_
    refine AWp.skip ?_
    rw [R7 hsr fun h1 h2 h3 h4 h5=>by
     have h6 : zk = 9:=h4
     have h7 : za = nm0:=h5
     first | omega | (exact absurd h7 (by assumption))] at hu
    injection hu with e1 e2 e3 e4 e5 e6 e7
    subst e1 e2 e3 e4 e5 e6 e7
    refine AWp.rg [] [] ?_ (hr:=by conv=>lhs;simp [Tm.row,Tm.Q3,Cs.Q3,h1d,Cs.row,q1,hB1,q4])
    refine AWp.rg [] [] ?_ (hr:=by conv=>lhs;simp [Tm.row,Tm.Q3,Cs.Q3,h1d,Cs.row,q1,hB1,q4])
    refine ⟨⟨(i + 1,ds ++ [.mk dt dws (.mk ek en ea eb evs exs ecs)]),hi1,hsn.symm⟩,by simp;omega,?_⟩
    dsimp only
    exact Le.sub (by simp [Cs.row,Tm.row,Tm.Q3,Cs.Q3,hdl]) (by simp [Cs.row,Tm.row,Tm.Q3,Cs.Q3,hdl])
  refine AWp.rg [] [] ?_ (hr:=by conv=>lhs;simp [Tm.row,Tm.Q3,Cs.Q3,h1d,Cs.row,q1])
  refine AWp.cn ?_
  refine AWp.exit ?_
  have hsz3 : Tm.sr (.mk zk zn za zb zvs zxs zcs) us = (us,(.mk zk zn za zb zvs zxs zcs)):=by
   refine if_neg fun h=>?_
   exact absurd h.1 q1
  rw [hsz3] at hsr
  obtain ⟨A,hA⟩ : ∃ A : Int,(dws.length : Int) = A:=⟨_,rfl⟩
  obtain ⟨B,hB⟩ : ∃ B : Int,(txs.length : Int) = B:=⟨_,rfl⟩
  by_cases hB1 : B = 1
  ·obtain ⟨x,hx1⟩ : ∃ x,txs = [x]:=by
    rcases txs with _ | ⟨x,_ | ⟨y,r⟩⟩
    ·simp at hB;omega
    ·exact ⟨x,rfl⟩
    ·simp at hB;omega
   have h1x : txs[0]? = some x:=by rw [hx1];rfl
   have hn1 : x.nm = nm0:=by rw [hn0,hx1];rfl
   obtain ⟨xk,xn,xa,xb,xvs,xxs,xcs⟩:=x
   obtain rfl : nm0 = xa:=hn1.symm
   by_cases q5 : 0 < A
   ·by_cases q6 : tk = 7
    ·by_cases q7 : zk = 9
     ·by_cases q8 : za = nm0
      ·refine AWp.dw [] [] mixed ?_ (hr:=by conv=>lhs;simp [Tm.row,Tm.Q3,Cs.Q3,h1d,Cs.row,hA,hB,h1x,q1,hB1,q5,q6,q7,q8])
       refine AWp.cy ?_
       have hzn : zxs≠[]:=hdu.1 (.inr q7)
       obtain ⟨x2,r,rfl⟩ : ∃ x r,zxs = x :: r:=by
        rcases zxs with _ | ⟨x,r⟩
        ·exact absurd rfl hzn
        ·exact ⟨x,r,rfl⟩
       rw [fuOne_yes2 hsr (by omega) (by omega) q6 q7 q8] at hu
       rw [show Tm.a0 (.mk zk zn za zb zvs (x2 :: r) zcs) = x2 from rfl] at hu
       obtain ⟨vk,vn,va,vb,vvs,vxs,vcs⟩:=x2
       have hct:=Uk 9 us vk vn va vb vvs vxs vcs (by omega)
       generalize cnt 9 us (.mk vk vn va vb vvs vxs vcs) = c at hct hu
       obtain ⟨ck,cn,ca,cb,cvs,cxs,ccs⟩:=c
       injection hu with e1 e2 e3 e4 e5 e6 e7
       subst e1 e2 e3 e4 e5 e6 e7
       refine AWp.dw [10] [.p (fun _=>.agg [.d (.int ck),.d (.int cn),.d (.str ca),.d (.str cb),.d (Q7 cvs),.d (.sl (cxs.map Tm.row)),.d (.sl (ccs.map Cs.row))]) none] mixed ?_ (hr:=by conv=>lhs;simp [Tm.row,Tm.Q3,Cs.Q3,h1d,Cs.row,q1,hB1,q5,q6,q7,q8])
       refine AWp.rg [] [] ?_ (hr:=by conv=>lhs;simp [Tm.row,Tm.Q3,Cs.Q3,h1d,Cs.row,q1,hB1,q5,q6,q7,q8])
       refine AWp.rg [] [] ?_ (hr:=by conv=>lhs;simp [Tm.row,Tm.Q3,Cs.Q3,h1d,Cs.row,q1,hB1,q5,q6,q7,q8])
       refine ⟨⟨(i + 1,ds ++ [.mk dt dws (.mk 10 0 nm0 .empty dws [.mk ck cn ca cb cvs cxs ccs] [])]),hi1,hsn.symm⟩,by simp;omega,?_⟩
       dsimp only
       exact Le.sub (by simp [Cs.row,Tm.row,Tm.Q3,Cs.Q3,hdl,q6,q7,q8]) (by simp [Cs.row,Tm.row,Tm.Q3,Cs.Q3,hdl,q6,q7,q8])
      refine AWp.dw [] [] mixed ?_ (hr:=by conv=>lhs;simp [Tm.row,Tm.Q3,Cs.Q3,h1d,Cs.row,hA,hB,h1x,q1,hB1,q5,q6,q7,q8])
      refine AWp.cn ?_
      refine AWp.skip ?_
      rw [R7 hsr fun h1 h2 h3 h4 h5=>by
       have h6 : zk = 9:=h4
       have h7 : za = nm0:=h5
       first | omega | (exact absurd h7 (by assumption))] at hu
      injection hu with e1 e2 e3 e4 e5 e6 e7
      subst e1 e2 e3 e4 e5 e6 e7
      refine AWp.rg [] [] ?_ (hr:=by conv=>lhs;simp [Tm.row,Tm.Q3,Cs.Q3,h1d,Cs.row,q1,hB1,q5,q6,q7,q8])
      refine AWp.rg [] [] ?_ (hr:=by conv=>lhs;simp [Tm.row,Tm.Q3,Cs.Q3,h1d,Cs.row,q1,hB1,q5,q6,q7,q8])
      refine ⟨⟨(i + 1,ds ++ [.mk dt dws (.mk ek en ea eb evs exs ecs)]),hi1,hsn.symm⟩,by simp;omega,?_⟩
      dsimp only
      exact Le.sub (by simp [Cs.row,Tm.row,Tm.Q3,Cs.Q3,hdl,q6,q7]) (by simp [Cs.row,Tm.row,Tm.Q3,Cs.Q3,hdl,q6,q7])
     refine AWp.dw [] [] mixed ?_ (hr:=by conv=>lhs;simp [Tm.row,Tm.Q3,Cs.Q3,h1d,Cs.row,hA,hB,h1x,q1,hB1,q5,q6,q7])
     refine AWp.cn ?_
     refine AWp.skip ?_
     rw [R7 hsr fun h1 h2 h3 h4 h5=>by
      have h6 : zk = 9:=h4
      have h7 : za = nm0:=h5
      first | omega | (exact absurd h7 (by assumption))] at hu
     injection hu with e1 e2 e3 e4 e5 e6 e7
     subst e1 e2 e3 e4 e5 e6 e7
     refine AWp.rg [] [] ?_ (hr:=by conv=>lhs;simp [Tm.row,Tm.Q3,Cs.Q3,h1d,Cs.row,q1,hB1,q5,q6,q7])
     refine AWp.rg [] [] ?_ (hr:=by conv=>lhs;simp [Tm.row,Tm.Q3,Cs.Q3,h1d,Cs.row,q1,hB1,q5,q6,q7])
     refine ⟨⟨(i + 1,ds ++ [.mk dt dws (.mk ek en ea eb evs exs ecs)]),hi1,hsn.symm⟩,by simp;omega,?_⟩
     dsimp only
     exact Le.sub (by simp [Cs.row,Tm.row,Tm.Q3,Cs.Q3,hdl,q6]) (by simp [Cs.row,Tm.row,Tm.Q3,Cs.Q3,hdl,q6])
    refine AWp.dw [] [] mixed ?_ (hr:=by conv=>lhs;simp [Tm.row,Tm.Q3,Cs.Q3,h1d,Cs.row,hA,hB,h1x,q1,hB1,q5,q6])
    refine AWp.cn ?_
    refine AWp.skip ?_
    rw [R7 hsr fun h1 h2 h3 h4 h5=>by
     have h6 : zk = 9:=h4
     have h7 : za = nm0:=h5
     first | omega | (exact absurd h7 (by assumption))] at hu
    injection hu with e1 e2 e3 e4 e5 e6 e7
    subst e1 e2 e3 e4 e5 e6 e7
    refine AWp.rg [] [] ?_ (hr:=by conv=>lhs;simp [Tm.row,Tm.Q3,Cs.Q3,h1d,Cs.row,q1,hB1,q5,q6])
    refine AWp.rg [] [] ?_ (hr:=by conv=>lhs;simp [Tm.row,Tm.Q3,Cs.Q3,h1d,Cs.row,q1,hB1,q5,q6])
    refine ⟨⟨(i + 1,ds ++ [.mk dt dws (.mk ek en ea eb evs exs ecs)]),hi1,hsn.symm⟩,by simp;omega,?_⟩
    dsimp only
    exact Le.sub (by simp [Cs.row,Tm.row,Tm.Q3,Cs.Q3,hdl]) (by simp [Cs.row,Tm.row,Tm.Q3,Cs.Q3,hdl])
   refine AWp.dw [] [] mixed ?_ (hr:=by conv=>lhs;simp [Tm.row,Tm.Q3,Cs.Q3,h1d,Cs.row,hA,hB,h1x,q1,hB1,q5])
   refine AWp.cn ?_
   refine AWp.skip ?_
   rw [R7 hsr fun h1 h2 h3 h4 h5=>by
    have h6 : zk = 9:=h4
    have h7 : za = nm0:=h5
    first | omega | (exact absurd h7 (by assumption))] at hu
   injection hu with e1 e2 e3 e4 e5 e6 e7
   subst e1 e2 e3 e4 e5 e6 e7
   refine AWp.rg [] [] ?_ (hr:=by conv=>lhs;simp [Tm.row,Tm.Q3,Cs.Q3,h1d,Cs.row,q1,hB1,q5])
   refine AWp.rg [] [] ?_ (hr:=by conv=>lhs;simp [Tm.row,Tm.Q3,Cs.Q3,h1d,Cs.row,q1,hB1,q5])
   refine ⟨⟨(i + 1,ds ++ [.mk dt dws (.mk ek en ea eb evs exs ecs)]),hi1,hsn.symm⟩,by simp;omega,?_⟩
   dsimp only
   exact Le.sub (by simp [Cs.row,Tm.row,Tm.Q3,Cs.Q3,hdl]) (by simp [Cs.row,Tm.row,Tm.Q3,Cs.Q3,hdl])
  by_cases q9 : 0 < A
  ·refine AWp.dw [] [] mixed ?_ (hr:=by conv=>lhs;simp [Tm.row,Tm.Q3,Cs.Q3,h1d,Cs.row,hA,hB,q1,hB1,q9])
   refine AWp.cn ?_
   refine AWp.skip ?_
   rw [R7 hsr fun h1 h2 h3 h4 h5=>by
    have h6 : zk = 9:=h4
    have h7 : za = nm0:=h5
    first | omega | (exact absurd h7 (by assumption))] at hu
   injection hu with e1 e2 e3 e4 e5 e6 e7
   subst e1 e2 e3 e4 e5 e6 e7
   refine AWp.rg [] [] ?_ (hr:=by conv=>lhs;simp [Tm.row,Tm.Q3,Cs.Q3,h1d,Cs.row,q1,hB1,q9])
   refine AWp.rg [] [] ?_ (hr:=by conv=>lhs;simp [Tm.row,Tm.Q3,Cs.Q3,h1d,Cs.row,q1,hB1,q9])
   refine ⟨⟨(i + 1,ds ++ [.mk dt dws (.mk ek en ea eb evs exs ecs)]),hi1,hsn.symm⟩,by simp;omega,?_⟩
   dsimp only
   exact Le.sub (by simp [Cs.row,Tm.row,Tm.Q3,Cs.Q3,hdl]) (by simp [Cs.row,Tm.row,Tm.Q3,Cs.Q3,hdl])
  refine AWp.dw [] [] mixed ?_ (hr:=by conv=>lhs;simp [Tm.row,Tm.Q3,Cs.Q3,h1d,Cs.row,hA,hB,q1,hB1,q9])
  refine AWp.cn ?_
  refine AWp.skip ?_
  rw [R7 hsr fun h1 h2 h3 h4 h5=>by
   have h6 : zk = 9:=h4
   have h7 : za = nm0:=h5
   first | omega | (exact absurd h7 (by assumption))] at hu
  injection hu with e1 e2 e3 e4 e5 e6 e7
  subst e1 e2 e3 e4 e5 e6 e7
  refine AWp.rg [] [] ?_ (hr:=by conv=>lhs;simp [Tm.row,Tm.Q3,Cs.Q3,h1d,Cs.row,q1,hB1,q9])
  refine AWp.rg [] [] ?_ (hr:=by conv=>lhs;simp [Tm.row,Tm.Q3,Cs.Q3,h1d,Cs.row,q1,hB1,q9])
  refine ⟨⟨(i + 1,ds ++ [.mk dt dws (.mk ek en ea eb evs exs ecs)]),hi1,hsn.symm⟩,by simp;omega,?_⟩
  dsimp only
  exact Le.sub (by simp [Cs.row,Tm.row,Tm.Q3,Cs.Q3,hdl]) (by simp [Cs.row,Tm.row,Tm.Q3,Cs.Q3,hdl])
 have hi1 : i = tcs.length:=by have:=of_decide_eq_false hc;omega
 subst hi1
 clear hc
 rw [List.take_length] at hw2
 rw [← hw2] at hR
 clear hw2
 replace hR:=hR.symm
 injection hR with e1 e2 e3 e4 e5 e6 e7
 subst e1 e2 e3 e4 e5 e6 e7
 refine AWp.exit ?_
 refine AWp.rg [] [] ?_ (hr:=by conv=>lhs;simp [Tm.row,Tm.Q3,Cs.Q3])
 refine AWp.ret ?_
 try dsimp only [Qq,Q8]
 apply Zk.Qq1 [400,401]
 ·rfl
 ·conv=>lhs;simp
 ·conv=>lhs;simp [Q9,Tryd.results61]
 first | rfl | simp [Z6,Xw,Tm.row,Tm.Q3,Cs.Q3]
theorem fd_all : ∀ N,FdN N
 | 0=>fun t h=>by obtain ⟨tk,tn,ta,tb,tvs,txs,tcs⟩:=t;simp only [Tm.sz] at h;omega
 | N + 1=>fd_step N (fd_all N)
set_option maxRecDepth 20000 in
set_option maxHeartbeats 16000000 in
theorem sp_FuFn (f : Fn) (h : f.body.Ok∧f.body.Du) : Qw Tryd.prog 35 [W9 f] (fun _=>W9 f.fu) none:=by
 have hx:=fd_all f.body.sz f.body (Nat.le_refl _) h.1 h.2
 unfold Fn.fu
 generalize f.body.fu = z at hx ⊢
 obtain ⟨fg,fps,⟨fk,fn,fa,fb,fvs,fxs,fcs⟩⟩:=f
 obtain ⟨zk,zn,za,zb,zvs,zxs,zcs⟩:=z
 dsimp only at hx
 refine Qw.of Tryd.func35 rfl rfl rfl (Nat.le_of_ble_eq_true rfl) ?_
 show AWp _ _ (Zk _ Tryd.f35 _ _ _) (Z7 11 _)
 refine AWp.rg [] [] ?_ (hr:=by conv=>lhs;simp [W9,Fn.row,Tm.row,Tm.Q3,Cs.Q3])
 refine AWp.dw [] [.p (fun _=>.agg [.d (.int zk),.d (.int zn),.d (.str za),.d (.str zb),.d (Q7 zvs),.d (.sl (zxs.map Tm.row)),.d (.sl (zcs.map Cs.row))]) none] mixed ?_ (hr:=by conv=>lhs;simp [W9,Fn.row,Tm.row,Tm.Q3,Cs.Q3])
 refine AWp.ret ?_
 try dsimp only [Qq,Q8]
 apply Zk.ret
 ·rfl
 ·conv=>lhs;simp [Q9,Tryd.results35]
 rfl
set_option maxRecDepth 20000 in
set_option maxHeartbeats 16000000 in
theorem sp_EachFused (l : List Fn) (hl : l.length≤879609302220) (hall : ∀ f∈l,f.body.Ok∧f.body.Du) : Qw Tryd.prog 32 [D7 l,.d (.fn 35)] (fun _=>D7 (l.map Fn.fu)) none:=by
 obtain ⟨G,hG⟩ : ∃ G,G = l.map Fn.fu:=⟨_,rfl⟩
 rw [← hG]
 refine Qw.of Tryd.func32 rfl rfl rfl (Nat.le_of_ble_eq_true rfl) ?_
 show AWp _ _ (Zk _ Tryd.f32 _ _ _) (Z7 22 _)
 refine AWp.rg [] [] ?_ (hr:=by conv=>lhs;simp [Fn.row,Tm.row,Tm.Q3,Cs.Q3])
 refine AWp.rg [] [] ?_ (hr:=by conv=>lhs;simp [Fn.row,Tm.row,Tm.Q3,Cs.Q3])
 refine AWp.rg [] [] ?_ (hr:=by conv=>lhs;simp [Fn.row,Tm.row,Tm.Q3,Cs.Q3])
 repeat (first | refine AWp.seq ?_ | refine AWp.block ?_)
 refine AWp.le (Le.low [400] [] (fr:=[(1,.d (.fn 35)),(5,.arr 400 0 ([] : List Fn).length),(8,.d (.sl (l.map Fn.row))),(9,.d (.int (l.length : Int))),(10,.d (.int (0 : Int)))]) (mem:=[(400,some (.arr 34 9 (([] : List Fn).map Fn.row)))]) rfl (by simp) (by simp)) ?_
 refine AWp.loop (σ:=fun u : {u : Nat×List Fn // u.1≤l.length∧u.2 = (l.take u.1).map Fn.fu}=>⟨22,[(1,.d (.fn 35)),(5,.arr 400 0 u.1.2.length),(8,.d (.sl (l.map Fn.row))),(9,.d (.int (l.length : Int))),(10,.d (.int (u.1.1 : Int)))],[(400,some (.arr 34 9 (u.1.2.map Fn.row)))]⟩)
  (μ:=fun u=>l.length - u.1.1) ⟨(0,[]),⟨Nat.zero_le _,by simp⟩⟩ (Le.sub (by simp) (by simp)) (fun ⟨(i,gs),⟨hi3,hw⟩⟩=>?_)
 dsimp only at hi3 hw ⊢
 refine AWp.rg [] [] ?_ (hr:=by conv=>lhs;simp [Fn.row,Tm.row,Tm.Q3,Cs.Q3])
 repeat (first | refine AWp.seq ?_ | refine AWp.block ?_)
 refine AWp.cond rfl (fun hc=>?_) (fun hc=>?_)
 ·have hi1 : i < l.length:=by have:=of_decide_eq_true hc;omega
  clear hc
  have h1f : l[i]? = some l[i]:=List.getElem?_eq_getElem hi1
  have hmf : l[i]∈l:=List.getElem_mem hi1
  have hdf : l.drop i = l[i] :: l.drop (i + 1):=List.drop_eq_getElem_cons hi1
  generalize l[i] = f at h1f hmf hdf
  have hgl : gs.length = i:=by rw [hw,List.length_map,List.length_take];omega
  have hx:=sp_FuFn f (hall f hmf)
  generalize hz : Fn.fu f = z at hx
  obtain ⟨fg,fps,⟨fk,fn,fa,fb,fvs,fxs,fcs⟩⟩:=f
  obtain ⟨zg,zps,⟨zk,zn,za,zb,zvs,zxs,zcs⟩⟩:=z
  dsimp only [W9] at hx
  refine AWp.skip ?_
  refine AWp.rg [] [] ?_ (hr:=by conv=>lhs;simp [Fn.row,Tm.row,Tm.Q3,Cs.Q3,h1f])
  refine AWp.rg [] [.p (fun _=>.agg [.d (.str zg),.d (Q7 zps),.d (.int zk),.d (.int zn),.d (.str za),.d (.str zb),.d (Q7 zvs),.d (.sl (zxs.map Tm.row)),.d (.sl (zcs.map Cs.row))]) none] ?_ (hr:=by conv=>lhs;simp [Fn.row,Tm.row,Tm.Q3,Cs.Q3,h1f])
  refine AWp.rg [] [] ?_ (hr:=by conv=>lhs;simp [Fn.row,Tm.row,Tm.Q3,Cs.Q3,h1f])
  refine ⟨⟨(i + 1,gs ++ [⟨zg,zps,.mk zk zn za zb zvs zxs zcs⟩]),hi1,by rw [hw,List.take_add_one,h1f,List.map_append,← hz];rfl⟩,by simp;omega,?_⟩
  dsimp only
  exact Le.sub (by simp [Fn.row,Tm.row,Tm.Q3,Cs.Q3,hgl]) (by simp [Fn.row,Tm.row,Tm.Q3,Cs.Q3,hgl])
 have hi1 : i = l.length:=by have:=of_decide_eq_false hc;omega
 subst hi1
 clear hc
 rw [List.take_length] at hw
 obtain rfl : gs = G:=by rw [hw,hG]
 refine AWp.exit ?_
 refine AWp.rg [] [] ?_ (hr:=by conv=>lhs;simp [Fn.row,Tm.row,Tm.Q3,Cs.Q3])
 refine AWp.ret ?_
 try dsimp only [Qq,Q8]
 apply Zk.Qq1 [400]
 ·rfl
 ·conv=>lhs;simp
 ·conv=>lhs;simp [Q9,Tryd.results32]
 rfl
theorem Bj {l : List Fn} (hl : Gv l) (h : Y8 l = 0) : ∀ f∈l.map Fn.pl,f.Pt:=fun f hf=>by
 obtain ⟨g,hg,rfl⟩:=List.mem_map.1 hf
 obtain ⟨k1,k2,k3⟩:=Tx hl h g hg
 have:=((Qj6 h).2.2.2 g hg).sz
 exact Fn.pl_pt g k1 k2 k3 (by omega)
theorem Fn.ow_fits {f : Fn} (h : f.Pt) : f.ow.body.Ok∧f.ow.body.Du∧f.ow.params.length≤6:=by
 obtain ⟨h1,h2⟩:=ow_ok 175 f.body f.params h.rt h.fit.ok h.pars
 exact ⟨h1,h2,h.par⟩
theorem ow_all_fits {l : List Fn} (h : ∀ f∈l,f.Pt) : ∀ f∈l.map Fn.ow,f.body.Ok∧f.body.Du∧f.params.length≤6:=fun f hf=>by
 obtain ⟨g,hg,rfl⟩:=List.mem_map.1 hf
 exact Fn.ow_fits (h g hg)
theorem fu_all_fits {l : List Fn} (h : ∀ f∈l,f.body.Ok∧f.body.Du∧f.params.length≤6) : ∀ f∈l.map Fn.fu,f.body.Ok∧f.body.Du∧f.params.length≤6:=fun f hf=>by
 obtain ⟨g,hg,rfl⟩:=List.mem_map.1 hf
 obtain ⟨h1,h2,h3⟩:=h g hg
 obtain ⟨h4,h5⟩:=Tm.fu_ok g.body h1 h2
 exact ⟨h4,h5,h3⟩
def mk0 (l : List Fn) : List Fn:=(l.map Fn.pl).map Fn.ow
def mk1 (l : List Fn) : List Fn:=(mk0 l).map Fn.fu
theorem Aw {l : List Fn} (hl : Gv l) (h : Y8 l = 0) : ∀ f∈mk0 l,f.body.Ok∧f.body.Du∧f.params.length≤6:=ow_all_fits (Bj hl h)
theorem mk1_fits {l : List Fn} (hl : Gv l) (h : Y8 l = 0) : ∀ f∈mk1 l,f.body.Ok∧f.body.Du∧f.params.length≤6:=fu_all_fits (Aw hl h)
set_option maxRecDepth 20000 in
set_option maxHeartbeats 16000000 in
theorem sp_Made0 (l : List Fn) (hl : Gv l) (hc : Y8 l = 0) : Qw Tryd.prog 10 [D7 l,.d (.int 0)] (fun _=>D7 (mk0 l)) none:=by
 have hll:=hl.len
 have h1:=Qz7 l hl.len (Tx hl hc)
 have hp:=Bj hl hc
 have h2:=Qz8 (l.map Fn.pl) (by rw [List.length_map];exact hl.len) hp
 unfold mk0
 generalize l.map Fn.pl = P at h1 h2 ⊢
 generalize P.map Fn.ow = O at h2 ⊢
 refine Qw.of Tryd.func10 rfl rfl rfl (Nat.le_of_ble_eq_true rfl) ?_
 show AWp _ _ (Zk _ Tryd.f10 _ _ _) (Z7 17 _)
 refine AWp.rg [] [] ?_
 refine AWp.rg [] [.p (fun _=>.d (.sl (P.map Fn.row))) none,.p (fun _=>.d (.sl (O.map Fn.row))) none] ?_
 refine AWp.rg [] [] ?_
 refine AWp.cn ?_
 refine AWp.skip ?_
 refine AWp.rg [] [] ?_
 refine AWp.cn ?_
 refine AWp.skip ?_
 refine AWp.rg [] [] ?_
 refine AWp.ret ?_
 try dsimp only [Qq,Q8]
 apply Zk.ret
 ·rfl
 ·conv=>lhs;simp [Q9,Tryd.results10]
 rfl
set_option maxRecDepth 20000 in
set_option maxHeartbeats 16000000 in
theorem sp_Made1 (l : List Fn) (hl : Gv l) (hc : Y8 l = 0) : Qw Tryd.prog 10 [D7 l,.d (.int 1)] (fun _=>D7 (mk1 l)) none:=by
 have hll:=hl.len
 have h1:=Qz7 l hl.len (Tx hl hc)
 have hp:=Bj hl hc
 have h2:=Qz8 (l.map Fn.pl) (by rw [List.length_map];exact hl.len) hp
 have h3:=sp_EachFused ((l.map Fn.pl).map Fn.ow) (by rw [List.length_map,List.length_map];exact hl.len) (fun f hf=>⟨(Aw hl hc f hf).1,(Aw hl hc f hf).2.1⟩)
 unfold mk1 mk0
 generalize l.map Fn.pl = P at h1 h2 h3 ⊢
 generalize P.map Fn.ow = O at h2 h3 ⊢
 generalize O.map Fn.fu = U at h3 ⊢
 refine Qw.of Tryd.func10 rfl rfl rfl (Nat.le_of_ble_eq_true rfl) ?_
 show AWp _ _ (Zk _ Tryd.f10 _ _ _) (Z7 17 _)
 refine AWp.rg [] [] ?_
 refine AWp.rg [] [.p (fun _=>.d (.sl (P.map Fn.row))) none,.p (fun _=>.d (.sl (O.map Fn.row))) none] ?_
 refine AWp.rg [] [] ?_
 refine AWp.cy ?_
 refine AWp.rg [] [.p (fun _=>.d (.sl (U.map Fn.row))) none] ?_
 refine AWp.rg [] [] ?_
 refine AWp.cn ?_
 refine AWp.skip ?_
 refine AWp.rg [] [] ?_
 refine AWp.ret ?_
 try dsimp only [Qq,Q8]
 apply Zk.ret
 ·rfl
 ·conv=>lhs;simp [Q9,Tryd.results10]
 rfl
theorem fitA_any (m : Nat) : ∀ l : List Cs,Cs.fitA m l = l.any (Cs.fits m)
 | []=>rfl
 | c :: r=>by rw [Cs.fitA,fitA_any m r];rfl
mutual
def Tm.Fs : Tm→Prop
 | .mk k n a b vs xs cs=>(k = 6→∃ x y,xs = [x,y])∧(8≤k∧k≠12→∃ x,xs = [x])∧Tm.FsL xs∧Cs.FsL cs
def Tm.FsL : List Tm→Prop
 | []=>True
 | x :: r=>x.Fs∧Tm.FsL r
def Cs.FsL : List Cs→Prop
 | []=>True
 | c :: r=>c.Fs∧Cs.FsL r
def Cs.Fs : Cs→Prop
 | .mk t ws y=>y.Fs
end
theorem FsL_iff : ∀ {l : List Tm},Tm.FsL l↔∀ x∈l,x.Fs
 | []=>by simp [Tm.FsL]
 | x :: r=>by simp [Tm.FsL,FsL_iff (l:=r)]
theorem Iq : ∀ {l : List Cs},Cs.FsL l↔∀ x∈l,x.Fs
 | []=>by simp [Cs.FsL]
 | x :: r=>by simp [Cs.FsL,Iq (l:=r)]
def FitN (N : Nat) : Prop:=∀ (t : Tm) (m : Nat),t.sz≤N→t.Ok→t.Fs→Qw Tryd.prog 64 [Xw t,.d (.int (m : Int))] (fun _=>.d (.bool (t.fits m))) none
set_option maxRecDepth 20000 in
set_option maxHeartbeats 16000000 in
theorem fit_step (N : Nat) (ih : FitN N) : FitN (N + 1):=by
 intro t m hsz hO hS
 obtain ⟨R,hR⟩ : ∃ R,R = t.fits m:=⟨_,rfl⟩
 rw [← hR]
 obtain ⟨M,hM⟩ : ∃ M : Int,(m : Int) = M:=⟨_,rfl⟩
 rw [hM]
 obtain ⟨tk,tn,ta,tb,tvs,txs,tcs⟩:=t
 have hxO : ∀ x∈txs,x.Ok:=fun x hx=>Tm.Zq.1 hO.2.2.1 x hx
 have hcO : ∀ x∈tcs,x.Ok:=fun x hx=>Cs.Zq.1 hO.2.2.2 x hx
 have hxS : ∀ x∈txs,x.Fs:=fun x hx=>FsL_iff.1 hS.2.2.1 x hx
 have hcS : ∀ x∈tcs,x.Fs:=fun x hx=>Iq.1 hS.2.2.2 x hx
 obtain ⟨o1,o2,o3,o4,o5⟩:=hO.vars
 simp only [Tm.sz] at hsz
 obtain ⟨B,hB⟩ : ∃ B : Int,(txs.length : Int) = B:=⟨_,rfl⟩
 refine Qw.of Tryd.func64 rfl rfl rfl (Nat.le_of_ble_eq_true rfl) ?_
 show AWp _ _ (Zk _ Tryd.f64 _ _ _) (Z7 75 _)
 refine AWp.rg [] [] ?_ (hr:=by conv=>lhs;simp [Tm.row,Tm.Q3,Cs.Q3])
 by_cases q1 : tk = 3
 ·refine AWp.rg [] [] ?_ (hr:=by conv=>lhs;simp [Tm.row,Tm.Q3,Cs.Q3,q1])
  refine AWp.cy ?_
  refine AWp.rg [] [] ?_ (hr:=by conv=>lhs;simp [Tm.row,Tm.Q3,Cs.Q3,hB,q1])
  refine AWp.ret ?_
  obtain rfl : R = decide (B = M):=by rw [hR,Tm.fits,if_pos q1,← hB,← hM];simp [Int.ofNat_inj]
  try dsimp only [Qq,Q8]
  apply Zk.ret
  ·rfl
  ·conv=>lhs;simp [Q9,Tryd.results64]
  rfl
 refine AWp.rg [] [] ?_ (hr:=by conv=>lhs;simp [Tm.row,Tm.Q3,Cs.Q3,q1])
 refine AWp.cn ?_
 by_cases q2 : tk = 6
 ·refine AWp.rg [] [] ?_ (hr:=by conv=>lhs;simp [Tm.row,Tm.Q3,Cs.Q3,q1,q2])
  refine AWp.cy ?_
  obtain ⟨x,y,hxy⟩:=hS.1 q2
  have h0x : txs[0]? = some x:=by rw [hxy];rfl
  have h1x : txs[1]? = some y:=by rw [hxy];rfl
  have hln : txs.length = 2:=by rw [hxy];rfl
  have hmy : y∈txs:=by rw [hxy];simp
  have hx:=ih y m (by have:=Tm.Z4 hmy;omega) (hxO y hmy) (hxS y hmy)
  obtain ⟨z,hz⟩ : ∃ z,y.fits m = z:=⟨_,rfl⟩
  rw [hz,hM] at hx
  have hR6 : R = ((decide (x.tk = 3) && decide (x.xs.length = m)) || z):=by rw [hR,Tm.fits,if_neg (by omega),if_pos q2,hxy,Tm.fitL,Tm.fitH,hz]
  obtain ⟨xk,xn,xa,xb,xvs,xxs,xcs⟩:=x
  obtain ⟨yk,yn,ya,yb,yvs,yxs,ycs⟩:=y
  obtain ⟨C,hC⟩ : ∃ C : Int,(xxs.length : Int) = C:=⟨_,rfl⟩
  by_cases q3 : xk = 3
  ·by_cases q4 : C = M
   ·refine AWp.rg [] [] ?_ (hr:=by conv=>lhs;simp [Tm.row,Tm.Q3,Cs.Q3,h0x,h1x,hC,q1,q2,q3,q4])
    refine AWp.ret ?_
    obtain rfl : R = true:=by
     have hcm : xxs.length = m:=by omega
     rw [hR6];simp [Tm.tk,Tm.xs,hcm,q3]
    try dsimp only [Qq,Q8]
    apply Zk.ret
    ·rfl
    ·conv=>lhs;simp [Q9,Tryd.results64]
    rfl
   refine AWp.rg [] [.p (fun _=>.d (.bool z)) none] ?_ (hr:=by conv=>lhs;simp [Tm.row,Tm.Q3,Cs.Q3,h0x,h1x,hC,q1,q2,q3,q4])
   refine AWp.ret ?_
   obtain rfl : R = z:=by
    have hcm : xxs.length≠m:=by omega
    rw [hR6];simp [Tm.tk,Tm.xs,hcm,q3]
   try dsimp only [Qq,Q8]
   apply Zk.ret
   ·rfl
   ·conv=>lhs;simp [Q9,Tryd.results64]
   rfl
  refine AWp.rg [] [.p (fun _=>.d (.bool z)) none] ?_ (hr:=by conv=>lhs;simp [Tm.row,Tm.Q3,Cs.Q3,h0x,h1x,hC,q1,q2,q3])
  refine AWp.ret ?_
  obtain rfl : R = z:=by rw [hR6];simp [Tm.tk,q3]
  try dsimp only [Qq,Q8]
  apply Zk.ret
  ·rfl
  ·conv=>lhs;simp [Q9,Tryd.results64]
  rfl
 refine AWp.rg [] [] ?_ (hr:=by conv=>lhs;simp [Tm.row,Tm.Q3,Cs.Q3,q1,q2])
 refine AWp.cn ?_
 by_cases q5 : tk = 7
 ·refine AWp.rg [] [] ?_ (hr:=by conv=>lhs;simp [Tm.row,Tm.Q3,Cs.Q3,q1,q2,q5])
  refine AWp.cy ?_
  have hR7 : R = tcs.any (Cs.fits m):=by rw [hR,Tm.fits,if_neg (by omega),if_neg (by omega),if_pos q5,fitA_any]
  refine AWp.rg [] [] ?_ (hr:=by conv=>lhs;simp [Tm.row,Tm.Q3,Cs.Q3,q1,q2,q5])
  repeat (first | refine AWp.seq ?_ | refine AWp.block ?_)
  refine AWp.loop (σ:=fun u : {u : Nat // u≤tcs.length∧(tcs.take u).any (Cs.fits m) = false}=>⟨75,[(1,.d (.int M)),(49,.d (.sl (tcs.map Cs.row))),(50,.d (.int (tcs.length : Int))),(51,.d (.int (u.1 : Int)))],[]⟩)
   (μ:=fun u=>tcs.length - u.1) ⟨0,⟨Nat.zero_le _,rfl⟩⟩ (Le.sub (by simp) (by simp)) (fun ⟨i,⟨hi7,hw⟩⟩=>?_)
  dsimp only
  refine AWp.rg [] [] ?_ (hr:=by conv=>lhs;simp [Tm.row,Tm.Q3,Cs.Q3,q1,q2,q5])
  repeat (first | refine AWp.seq ?_ | refine AWp.block ?_)
  refine AWp.cond rfl (fun hc=>?_) (fun hc=>?_)
  ·have hi1 : i < tcs.length:=by have:=of_decide_eq_true hc;omega
   clear hc
   have h1d : tcs[i]? = some tcs[i]:=List.getElem?_eq_getElem hi1
   have hmd : tcs[i]∈tcs:=List.getElem_mem hi1
   have hdd : tcs.drop i = tcs[i] :: tcs.drop (i + 1):=List.drop_eq_getElem_cons hi1
   generalize tcs[i] = d at h1d hmd hdd
   have hdO:=hcO d hmd
   have hdS:=hcS d hmd
   have hsz2:=Cs.Z4 hmd
   have hsn : (tcs.take (i + 1)).any (Cs.fits m) = d.fits m:=by rw [List.take_add_one,h1d,List.any_append,hw];simp
   have hany : d.fits m = true→R = true:=fun h=>by
    rw [hR7]
    exact List.any_eq_true.2 ⟨d,hmd,h⟩
   obtain ⟨dt,dws,y⟩:=d
   have hx:=ih y m (by simp only [Cs.sz] at hsz2;omega) hdO.2.2 hdS
   rw [Cs.fits] at hsn hany
   generalize y.fits m = z at hx hsn hany
   rw [hM] at hx
   obtain ⟨yk,yn,ya,yb,yvs,yxs,ycs⟩:=y
   refine AWp.skip ?_
   refine AWp.rg [] [] ?_ (hr:=by conv=>lhs;simp [Tm.row,Tm.Q3,Cs.Q3,h1d,Cs.row,q1,q2,q5])
   cases z with
   | true =>
    refine AWp.rg [] [.p (fun _=>.d (.bool true)) none] ?_ (hr:=by conv=>lhs;simp [Tm.row,Tm.Q3,Cs.Q3,h1d,Cs.row,q1,q2,q5])
    refine AWp.cy ?_
    refine AWp.rg [] [] ?_ (hr:=by conv=>lhs;simp [Tm.row,Tm.Q3,Cs.Q3,h1d,Cs.row,q1,q2,q5])
    refine AWp.ret ?_
    obtain rfl : R = true:=hany rfl
    try dsimp only [Qq,Q8]
    apply Zk.ret
    ·rfl
    ·conv=>lhs;simp [Q9,Tryd.results64]
    rfl
   | false =>
    refine AWp.rg [] [.p (fun _=>.d (.bool false)) none] ?_ (hr:=by conv=>lhs;simp [Tm.row,Tm.Q3,Cs.Q3,h1d,Cs.row,q1,q2,q5])
    refine AWp.cn ?_
    refine AWp.skip ?_
    refine AWp.rg [] [] ?_ (hr:=by conv=>lhs;simp [Tm.row,Tm.Q3,Cs.Q3,h1d,Cs.row,q1,q2,q5])
    refine ⟨⟨i + 1,hi1,hsn⟩,by simp;omega,?_⟩
    dsimp only
    exact Le.sub (by simp [Cs.row,Tm.row,Tm.Q3,Cs.Q3]) (by simp [Cs.row,Tm.row,Tm.Q3,Cs.Q3])
  have hi1 : i = tcs.length:=by have:=of_decide_eq_false hc;omega
  subst hi1
  clear hc
  rw [List.take_length] at hw
  refine AWp.exit ?_
  refine AWp.rg [] [] ?_ (hr:=by conv=>lhs;simp [Tm.row,Tm.Q3,Cs.Q3,q1,q2,q5])
  refine AWp.ret ?_
  obtain rfl : R = false:=by rw [hR7,hw]
  try dsimp only [Qq,Q8]
  apply Zk.ret
  ·rfl
  ·conv=>lhs;simp [Q9,Tryd.results64]
  rfl
 refine AWp.rg [] [] ?_ (hr:=by conv=>lhs;simp [Tm.row,Tm.Q3,Cs.Q3,q1,q2,q5])
 refine AWp.cn ?_
 by_cases q6 : 8≤tk
 ·by_cases q7 : tk = 12
  ·refine AWp.rg [] [] ?_ (hr:=by conv=>lhs;simp [Tm.row,Tm.Q3,Cs.Q3,q1,q2,q5,q6,q7])
   refine AWp.cn ?_
   refine AWp.skip ?_
   refine AWp.rg [] [] ?_ (hr:=by conv=>lhs;simp [Tm.row,Tm.Q3,Cs.Q3,q1,q2,q5,q6,q7])
   refine AWp.ret ?_
   obtain rfl : R = false:=by rw [hR,Tm.fits,if_neg (by omega),if_neg (by omega),if_neg (by omega),if_neg (by omega)]
   try dsimp only [Qq,Q8]
   apply Zk.ret
   ·rfl
   ·conv=>lhs;simp [Q9,Tryd.results64]
   rfl
  refine AWp.rg [] [] ?_ (hr:=by conv=>lhs;simp [Tm.row,Tm.Q3,Cs.Q3,q1,q2,q5,q6,q7])
  refine AWp.cy ?_
  obtain ⟨x,hxy⟩:=hS.2.1 (by omega)
  have h0x : txs[0]? = some x:=by rw [hxy];rfl
  have hln : txs.length = 1:=by rw [hxy];rfl
  have hmy : x∈txs:=by rw [hxy];simp
  have hx:=ih x m (by have:=Tm.Z4 hmy;omega) (hxO x hmy) (hxS x hmy)
  obtain ⟨z,hz⟩ : ∃ z,x.fits m = z:=⟨_,rfl⟩
  rw [hz,hM] at hx
  have hR8 : R = z:=by rw [hR,Tm.fits,if_neg (by omega),if_neg (by omega),if_neg (by omega),if_pos (by omega),hxy,Tm.fitH,hz]
  obtain ⟨xk,xn,xa,xb,xvs,xxs,xcs⟩:=x
  refine AWp.rg [] [.p (fun _=>.d (.bool z)) none] ?_ (hr:=by conv=>lhs;simp [Tm.row,Tm.Q3,Cs.Q3,h0x,q1,q2,q5,q6,q7])
  refine AWp.ret ?_
  obtain rfl : R = z:=hR8
  try dsimp only [Qq,Q8]
  apply Zk.ret
  ·rfl
  ·conv=>lhs;simp [Q9,Tryd.results64]
  rfl
 refine AWp.rg [] [] ?_ (hr:=by conv=>lhs;simp [Tm.row,Tm.Q3,Cs.Q3,q1,q2,q5,q6])
 refine AWp.cn ?_
 refine AWp.skip ?_
 refine AWp.rg [] [] ?_ (hr:=by conv=>lhs;simp [Tm.row,Tm.Q3,Cs.Q3,q1,q2,q5,q6])
 refine AWp.ret ?_
 obtain rfl : R = false:=by rw [hR,Tm.fits,if_neg (by omega),if_neg (by omega),if_neg (by omega),if_neg (by omega)]
 try dsimp only [Qq,Q8]
 apply Zk.ret
 ·rfl
 ·conv=>lhs;simp [Q9,Tryd.results64]
 rfl
theorem fit_all : ∀ N,FitN N
 | 0=>fun t m h=>by obtain ⟨tk,tn,ta,tb,tvs,txs,tcs⟩:=t;simp only [Tm.sz] at h;omega
 | N + 1=>fit_step N (fit_all N)
def PutN (N : Nat) : Prop:=∀ (t : Tm) (tok : ByteArray) (m : Nat),t.sz≤N→t.Ok→t.Fs→tok.size≤140737488355328→Qw Tryd.prog 65 [Xw t,.d (.str tok),.d (.int (m : Int))] (fun _=>Xw (t.put tok m)) none
set_option maxRecDepth 20000 in
set_option maxHeartbeats 16000000 in
theorem put_step (N : Nat) (ih : PutN N) : PutN (N + 1):=by
 intro t tok m hsz hO hS htok
 obtain ⟨R,hR⟩ : ∃ R,R = t.put tok m:=⟨_,rfl⟩
 rw [← hR]
 have hft:=fit_all t.sz t m (Nat.le_refl _) hO hS
 obtain ⟨M,hM⟩ : ∃ M : Int,(m : Int) = M:=⟨_,rfl⟩
 rw [hM] at hft ⊢
 obtain ⟨rk,rn,ra,rb,rvs,rxs,rcs⟩:=R
 obtain ⟨tk,tn,ta,tb,tvs,txs,tcs⟩:=t
 rw [Tm.put] at hR
 obtain ⟨q,hq⟩ : ∃ q,Tm.fits m (.mk tk tn ta tb tvs txs tcs) = q:=⟨_,rfl⟩
 rw [hq] at hft hR
 have hxO : ∀ x∈txs,x.Ok:=fun x hx=>Tm.Zq.1 hO.2.2.1 x hx
 have hcO : ∀ x∈tcs,x.Ok:=fun x hx=>Cs.Zq.1 hO.2.2.2 x hx
 have hxS : ∀ x∈txs,x.Fs:=fun x hx=>FsL_iff.1 hS.2.2.1 x hx
 have hcS : ∀ x∈tcs,x.Fs:=fun x hx=>Iq.1 hS.2.2.2 x hx
 obtain ⟨o1,o2,o3,o4,o5⟩:=hO.vars
 simp only [Tm.sz] at hsz
 refine Qw.of Tryd.func65 rfl rfl rfl (Nat.le_of_ble_eq_true rfl) ?_
 show AWp _ _ (Zk _ Tryd.f65 _ _ _) (Z7 116 _)
 refine AWp.rg [] [] ?_ (hr:=by conv=>lhs;simp [Tm.row,Tm.Q3,Cs.Q3])
 cases q with
 | true =>
  refine AWp.rg [] [.p (fun _=>.d (.bool true)) none] ?_ (hr:=by conv=>lhs;simp [Tm.row,Tm.Q3,Cs.Q3])
  refine AWp.cn ?_
  refine AWp.skip ?_
  refine AWp.rg [] [] ?_ (hr:=by conv=>lhs;simp [Tm.row,Tm.Q3,Cs.Q3])
  rw [if_neg (by simp)] at hR
  by_cases q1 : tk = 3
  ·refine AWp.rg [] [] ?_ (hr:=by conv=>lhs;simp [Tm.row,Tm.Q3,Cs.Q3,q1])
   refine AWp.cy ?_
   rw [if_pos q1] at hR
   replace hR:=hR.symm
   injection hR with e1 e2 e3 e4 e5 e6 e7
   subst e1 e2 e3 e4 e5 e6 e7
   refine AWp.rg [] [] ?_ (hr:=by conv=>lhs;simp [Tm.row,Tm.Q3,Cs.Q3,q1])
   refine AWp.rg [] [] ?_ (hr:=by conv=>lhs;simp [Tm.row,Tm.Q3,Cs.Q3,q1])
   refine AWp.ret ?_
   try dsimp only [Qq,Q8]
   apply Zk.ret
   ·rfl
   ·conv=>lhs;simp [Q9,Tryd.results65]
   first | rfl | (simp [Z6,Xw,Tm.row,Tm.Q3,Cs.Q3,AV.J3,U3,Q7];done) | (simp [Z6,Xw,Tm.row,Tm.Q3,Cs.Q3,AV.J3,U3,Q7];omega)
  refine AWp.rg [] [] ?_ (hr:=by conv=>lhs;simp [Tm.row,Tm.Q3,Cs.Q3,q1])
  refine AWp.cn ?_
  by_cases h6 : tk = 6
  ·obtain ⟨x,y,hxy⟩:=hS.1 h6
   have h0x : txs[0]? = some x:=by rw [hxy];rfl
   have h1x : txs[1]? = some y:=by rw [hxy];rfl
   have hln : txs.length = 2:=by rw [hxy];rfl
   have hmx : x∈txs:=by rw [hxy];simp
   have hmy : y∈txs:=by rw [hxy];simp
   have hx1:=ih x tok m (by have:=Tm.Z4 hmx;omega) (hxO x hmx) (hxS x hmx) htok
   have hx2:=ih y tok m (by have:=Tm.Z4 hmy;omega) (hxO y hmy) (hxS y hmy) htok
   rw [hM] at hx1 hx2
   rw [if_neg (by omega),if_pos h6,hxy,Tm.O8,Tm.G5] at hR
   obtain ⟨xk,xn,xa,xb,xvs,xxs,xcs⟩:=x
   obtain ⟨C,hC⟩ : ∃ C : Int,(xxs.length : Int) = C:=⟨_,rfl⟩
   by_cases q2 : xk = 3
   ·by_cases q3 : C = M
    ·refine AWp.rg [] [] ?_ (hr:=by conv=>lhs;simp [Tm.row,Tm.Q3,Cs.Q3,h0x,h1x,hC,q1,h6,q2,q3])
     refine AWp.cy ?_
     subst q2
     have hcm : xxs.length = m:=by omega
     rw [if_pos ⟨rfl,hcm⟩] at hR
     generalize Tm.put tok m (.mk 3 xn xa xb xvs xxs xcs) = z at hx1 hR
     obtain ⟨yk,yn,ya,yb,yvs,yxs,ycs⟩:=y
     obtain ⟨zk,zn,za,zb,zvs,zxs,zcs⟩:=z
     replace hR:=hR.symm
     injection hR with e1 e2 e3 e4 e5 e6 e7
     subst e1 e2 e3 e4 e5 e6 e7
     refine AWp.dw [11] [.p (fun _=>.agg [.d (.int zk),.d (.int zn),.d (.str za),.d (.str zb),.d (Q7 zvs),.d (.sl (zxs.map Tm.row)),.d (.sl (zcs.map Cs.row))]) none] mixed ?_ (hr:=by conv=>lhs;simp [Tm.row,Tm.Q3,Cs.Q3,h0x,h1x,hC,q1,h6,q3])
     refine AWp.rg [] [] ?_ (hr:=by conv=>lhs;simp [Tm.row,Tm.Q3,Cs.Q3,h0x,h1x,hC,q1,h6,q3])
     refine AWp.ret ?_
     try dsimp only [Qq,Q8]
     apply Zk.ret
     ·rfl
     ·conv=>lhs;simp [Q9,Tryd.results65]
     first | rfl | (simp [Z6,Xw,Tm.row,Tm.Q3,Cs.Q3,AV.J3,U3,Q7];done) | (simp [Z6,Xw,Tm.row,Tm.Q3,Cs.Q3,AV.J3,U3,Q7];omega)
    refine AWp.rg [] [] ?_ (hr:=by conv=>lhs;simp [Tm.row,Tm.Q3,Cs.Q3,h0x,h1x,hC,q1,h6,q2,q3])
    refine AWp.cn ?_
    refine AWp.rg [] [] ?_ (hr:=by conv=>lhs;simp [Tm.row,Tm.Q3,Cs.Q3,h0x,h1x,hC,q1,h6,q2,q3])
    refine AWp.cy ?_
    rw [if_neg (fun h=>by have h3 : xk = 3:=h.1;have hcm : xxs.length = m:=h.2;first | omega | (exact absurd h3 (by assumption)))] at hR
    generalize Tm.put tok m y = z at hx2 hR
    obtain ⟨yk,yn,ya,yb,yvs,yxs,ycs⟩:=y
    obtain ⟨zk,zn,za,zb,zvs,zxs,zcs⟩:=z
    replace hR:=hR.symm
    injection hR with e1 e2 e3 e4 e5 e6 e7
    subst e1 e2 e3 e4 e5 e6 e7
    refine AWp.dw [11] [.p (fun _=>.agg [.d (.int zk),.d (.int zn),.d (.str za),.d (.str zb),.d (Q7 zvs),.d (.sl (zxs.map Tm.row)),.d (.sl (zcs.map Cs.row))]) none] mixed ?_ (hr:=by conv=>lhs;simp [Tm.row,Tm.Q3,Cs.Q3,h0x,h1x,hC,q1,h6,q2,q3])
    refine AWp.rg [] [] ?_ (hr:=by conv=>lhs;simp [Tm.row,Tm.Q3,Cs.Q3,h0x,h1x,hC,q1,h6,q2,q3])
    refine AWp.ret ?_
    try dsimp only [Qq,Q8]
    apply Zk.ret
    ·rfl
    ·conv=>lhs;simp [Q9,Tryd.results65]
    first | rfl | (simp [Z6,Xw,Tm.row,Tm.Q3,Cs.Q3,AV.J3,U3,Q7];done) | (simp [Z6,Xw,Tm.row,Tm.Q3,Cs.Q3,AV.J3,U3,Q7];omega)
   refine AWp.rg [] [] ?_ (hr:=by conv=>lhs;simp [Tm.row,Tm.Q3,Cs.Q3,h0x,h1x,hC,q1,h6,q2])
   refine AWp.cn ?_
   refine AWp.rg [] [] ?_ (hr:=by conv=>lhs;simp [Tm.row,Tm.Q3,Cs.Q3,h0x,h1x,hC,q1,h6,q2])
   refine AWp.cy ?_
   rw [if_neg (fun h=>by have h3 : xk = 3:=h.1;have hcm : xxs.length = m:=h.2;first | omega | (exact absurd h3 (by assumption)))] at hR
   generalize Tm.put tok m y = z at hx2 hR
   obtain ⟨yk,yn,ya,yb,yvs,yxs,ycs⟩:=y
   obtain ⟨zk,zn,za,zb,zvs,zxs,zcs⟩:=z
   replace hR:=hR.symm
   injection hR with e1 e2 e3 e4 e5 e6 e7
   subst e1 e2 e3 e4 e5 e6 e7
   refine AWp.dw [11] [.p (fun _=>.agg [.d (.int zk),.d (.int zn),.d (.str za),.d (.str zb),.d (Q7 zvs),.d (.sl (zxs.map Tm.row)),.d (.sl (zcs.map Cs.row))]) none] mixed ?_ (hr:=by conv=>lhs;simp [Tm.row,Tm.Q3,Cs.Q3,h0x,h1x,hC,q1,h6,q2])
   refine AWp.rg [] [] ?_ (hr:=by conv=>lhs;simp [Tm.row,Tm.Q3,Cs.Q3,h0x,h1x,hC,q1,h6,q2])
   refine AWp.ret ?_
   try dsimp only [Qq,Q8]
   apply Zk.ret
   ·rfl
   ·conv=>lhs;simp [Q9,Tryd.results65]
   first | rfl | (simp [Z6,Xw,Tm.row,Tm.Q3,Cs.Q3,AV.J3,U3,Q7];done) | (simp [Z6,Xw,Tm.row,Tm.Q3,Cs.Q3,AV.J3,U3,Q7];omega)
  refine AWp.rg [] [] ?_ (hr:=by conv=>lhs;simp [Tm.row,Tm.Q3,Cs.Q3,q1,h6])
  refine AWp.cn ?_
  refine AWp.rg [] [] ?_ (hr:=by conv=>lhs;simp [Tm.row,Tm.Q3,Cs.Q3,q1,h6])
  refine AWp.cn ?_
  by_cases q4 : tk = 7
  ·refine AWp.rg [] [] ?_ (hr:=by conv=>lhs;simp [Tm.row,Tm.Q3,Cs.Q3,q1,h6,q4])
   refine AWp.cy ?_
   subst q4
   rw [if_neg (by omega),if_neg (by omega),if_pos rfl,O1] at hR
   refine AWp.rg [] [] ?_ (hr:=by conv=>lhs;simp [Tm.row,Tm.Q3,Cs.Q3,q1,h6])
   refine AWp.rg [] [] ?_ (hr:=by conv=>lhs;simp [Tm.row,Tm.Q3,Cs.Q3,q1,h6])
   repeat (first | refine AWp.seq ?_ | refine AWp.block ?_)
   refine AWp.le (Le.low [401] [] (fr:=[(1,.d (.str tok)),(2,.d (.int M)),(6,.ptr 6 0),(7,.ptr 7 0),(93,.d (.sl (tcs.map Cs.row))),(94,.d (.int (tcs.length : Int))),(95,.d (.int (0 : Int)))]) (mem:=[(6,some (.blk 32 [.d (.int 0),.d (.int 0),.d (.str ByteArray.empty),.d (.str ByteArray.empty),.lit (.slice none 0 0),.lit (.slice none 0 0),.lit (.slice none 0 0)])),(7,some (.blk 32 [.d (.int 7),.d (.int tn),.d (.str ta),.d (.str tb),.d (Q7 tvs),.d (.sl (txs.map Tm.row)),.arr 401 0 ([] : List Cs).length])),(401,some (.arr 42 9 (([] : List Cs).map Cs.row)))]) rfl (by simp) (by simp)) ?_
   refine AWp.loop (σ:=fun u : {u : Nat×List Cs // u.1≤tcs.length∧u.2 = (tcs.take u.1).map (Cs.put tok m)}=>⟨116,[(1,.d (.str tok)),(2,.d (.int M)),(6,.ptr 6 0),(7,.ptr 7 0),(93,.d (.sl (tcs.map Cs.row))),(94,.d (.int (tcs.length : Int))),(95,.d (.int (u.1.1 : Int)))],[(6,some (.blk 32 [.d (.int 0),.d (.int 0),.d (.str ByteArray.empty),.d (.str ByteArray.empty),.lit (.slice none 0 0),.lit (.slice none 0 0),.lit (.slice none 0 0)])),(7,some (.blk 32 [.d (.int 7),.d (.int tn),.d (.str ta),.d (.str tb),.d (Q7 tvs),.d (.sl (txs.map Tm.row)),.arr 401 0 u.1.2.length])),(401,some (.arr 42 9 (u.1.2.map Cs.row)))]⟩)
    (μ:=fun u=>tcs.length - u.1.1) ⟨(0,[]),⟨Nat.zero_le _,by simp⟩⟩ (Le.sub (by simp) (by simp)) (fun ⟨(i,ds),⟨hi14,hw⟩⟩=>?_)
   dsimp only at hi14 hw ⊢
   refine AWp.rg [] [] ?_ (hr:=by conv=>lhs;simp [Tm.row,Tm.Q3,Cs.Q3,q1,h6])
   repeat (first | refine AWp.seq ?_ | refine AWp.block ?_)
   refine AWp.cond rfl (fun hc=>?_) (fun hc=>?_)
   ·have hi1 : i < tcs.length:=by have:=of_decide_eq_true hc;omega
    clear hc
    have h1d : tcs[i]? = some tcs[i]:=List.getElem?_eq_getElem hi1
    have hmd : tcs[i]∈tcs:=List.getElem_mem hi1
    have hdd : tcs.drop i = tcs[i] :: tcs.drop (i + 1):=List.drop_eq_getElem_cons hi1
    generalize tcs[i] = d at h1d hmd hdd
    have hdl : ds.length = i:=by rw [hw,List.length_map,List.length_take];omega
    have hdO:=hcO d hmd
    have hdS:=hcS d hmd
    have hsz2:=Cs.Z4 hmd
    have hsn : (tcs.take (i + 1)).map (Cs.put tok m) = ds ++ [d.put tok m]:=by rw [List.take_add_one,h1d,List.map_append,← hw];rfl
    obtain ⟨dt,dws,y⟩:=d
    have hx:=ih y tok m (by simp only [Cs.sz] at hsz2;omega) hdO.2.2 hdS htok
    rw [hM] at hx
    rw [Cs.put] at hsn
    generalize y.put tok m = z at hx hsn
    obtain ⟨yk,yn,ya,yb,yvs,yxs,ycs⟩:=y
    obtain ⟨zk,zn,za,zb,zvs,zxs,zcs⟩:=z
    refine AWp.skip ?_
    refine AWp.rg [] [] ?_ (hr:=by conv=>lhs;simp [Tm.row,Tm.Q3,Cs.Q3,h1d,Cs.row,q1,h6])
    refine AWp.dw [] [.p (fun _=>.agg [.d (.int zk),.d (.int zn),.d (.str za),.d (.str zb),.d (Q7 zvs),.d (.sl (zxs.map Tm.row)),.d (.sl (zcs.map Cs.row))]) none] mixed ?_ (hr:=by conv=>lhs;simp [Tm.row,Tm.Q3,Cs.Q3,h1d,Cs.row,q1,h6])
    refine AWp.rg [] [] ?_ (hr:=by conv=>lhs;simp [Tm.row,Tm.Q3,Cs.Q3,h1d,Cs.row,q1,h6])
    refine ⟨⟨(i + 1,ds ++ [.mk dt dws (.mk zk zn za zb zvs zxs zcs)]),hi1,hsn.symm⟩,by simp;omega,?_⟩
    dsimp only
    exact Le.sub (by simp [Cs.row,Tm.row,Tm.Q3,Cs.Q3,hdl]) (by simp [Cs.row,Tm.row,Tm.Q3,Cs.Q3,hdl])
   have hi1 : i = tcs.length:=by have:=of_decide_eq_false hc;omega
   subst hi1
   clear hc
   rw [List.take_length] at hw
   rw [← hw] at hR
   clear hw
   replace hR:=hR.symm
   injection hR with e1 e2 e3 e4 e5 e6 e7
   subst e1 e2 e3 e4 e5 e6 e7
   refine AWp.exit ?_
   refine AWp.rg [] [] ?_ (hr:=by conv=>lhs;simp [Tm.row,Tm.Q3,Cs.Q3,q1,h6])
   refine AWp.ret ?_
   try dsimp only [Qq,Q8]
   apply Zk.Qq1 [401]
   ·rfl
   ·conv=>lhs;simp
   ·conv=>lhs;simp [Q9,Tryd.results65]
   first | rfl | (simp [Z6,Xw,Tm.row,Tm.Q3,Cs.Q3,AV.J3,U3,Q7];done) | (simp [Z6,Xw,Tm.row,Tm.Q3,Cs.Q3,AV.J3,U3,Q7];omega)
  refine AWp.rg [] [] ?_ (hr:=by conv=>lhs;simp [Tm.row,Tm.Q3,Cs.Q3,q1,h6,q4])
  refine AWp.cn ?_
  rw [if_neg (by omega),if_neg (by omega),if_neg (by omega)] at hR
  have h8 : 8≤tk∧tk≠12:=by
   rw [Tm.fits,if_neg (by omega),if_neg (by omega),if_neg (by omega)] at hq
   by_cases h8 : 8≤tk∧tk≠12
   ·exact h8
   ·rw [if_neg h8] at hq;simp at hq
  obtain ⟨x,hxy⟩:=hS.2.1 h8
  have h0x : txs[0]? = some x:=by rw [hxy];rfl
  have hln : txs.length = 1:=by rw [hxy];rfl
  have hmx : x∈txs:=by rw [hxy];simp
  have hx:=ih x tok m (by have:=Tm.Z4 hmx;omega) (hxO x hmx) (hxS x hmx) htok
  rw [hM] at hx
  rw [hxy,Tm.G5] at hR
  generalize x.put tok m = z at hx hR
  obtain ⟨xk,xn,xa,xb,xvs,xxs,xcs⟩:=x
  obtain ⟨zk,zn,za,zb,zvs,zxs,zcs⟩:=z
  replace hR:=hR.symm
  injection hR with e1 e2 e3 e4 e5 e6 e7
  subst e1 e2 e3 e4 e5 e6 e7
  refine AWp.rg [7] [.p (fun _=>.agg [.d (.int zk),.d (.int zn),.d (.str za),.d (.str zb),.d (Q7 zvs),.d (.sl (zxs.map Tm.row)),.d (.sl (zcs.map Cs.row))]) none] ?_ (hr:=by conv=>lhs;simp [Tm.row,Tm.Q3,Cs.Q3,h0x,q1,h6,q4])
  refine AWp.rg [] [] ?_ (hr:=by conv=>lhs;simp [Tm.row,Tm.Q3,Cs.Q3,h0x,q1,h6,q4])
  refine AWp.ret ?_
  try dsimp only [Qq,Q8]
  apply Zk.ret
  ·rfl
  ·conv=>lhs;simp [Q9,Tryd.results65]
  first | rfl | (simp [Z6,Xw,Tm.row,Tm.Q3,Cs.Q3,AV.J3,U3,Q7];done) | (simp [Z6,Xw,Tm.row,Tm.Q3,Cs.Q3,AV.J3,U3,Q7];omega)
 | false =>
  refine AWp.rg [] [.p (fun _=>.d (.bool false)) none] ?_ (hr:=by conv=>lhs;simp [Tm.row,Tm.Q3,Cs.Q3])
  refine AWp.cy ?_
  rw [if_pos rfl] at hR
  replace hR:=hR.symm
  injection hR with e1 e2 e3 e4 e5 e6 e7
  subst e1 e2 e3 e4 e5 e6 e7
  refine AWp.rg [2] [] ?_ (hr:=by conv=>lhs;simp [Tm.row,Tm.Q3,Cs.Q3])
  refine AWp.ret ?_
  try dsimp only [Qq,Q8]
  apply Zk.ret
  ·rfl
  ·conv=>lhs;simp [Q9,Tryd.results65]
  first | rfl | (simp [Z6,Xw,Tm.row,Tm.Q3,Cs.Q3,AV.J3,U3,Q7];done) | (simp [Z6,Xw,Tm.row,Tm.Q3,Cs.Q3,AV.J3,U3,Q7];omega)
theorem put_all : ∀ N,PutN N
 | 0=>fun t tok m h=>by obtain ⟨tk,tn,ta,tb,tvs,txs,tcs⟩:=t;simp only [Tm.sz] at h;omega
 | N + 1=>put_step N (put_all N)
end Go.Proofs.YtjpldhjgehoffaaDoor
namespace Go.Proofs.YtjpldhjgehoffaaDoor
open Classical Go.RowKit
set_option linter.unusedVariables false
set_option linter.unusedSimpArgs false
mutual
def Tm.wg : Tm→Nat
 | .mk k n a b vs xs cs=>1 + (if k = 10∨k = 11 then vs.length else 0) + Tm.wgs xs + Cs.wgs cs
def Tm.wgs : List Tm→Nat
 | []=>0
 | x :: r=>x.wg + Tm.wgs r
def Cs.wgs : List Cs→Nat
 | []=>0
 | c :: r=>c.wg + Cs.wgs r
def Cs.wg : Cs→Nat
 | .mk t ws y=>y.wg
end
theorem Tm.C8 {x : Tm} : ∀ {l : List Tm},x∈l→x.wg≤Tm.wgs l
 | y :: r,h=>by
  rw [Tm.wgs]
  rcases List.mem_cons.1 h with rfl | h
  ·omega
  ·have:=Tm.C8 h;omega
theorem Cs.C8 {x : Cs} : ∀ {l : List Cs},x∈l→x.wg≤Cs.wgs l
 | y :: r,h=>by
  rw [Cs.wgs]
  rcases List.mem_cons.1 h with rfl | h
  ·omega
  ·have:=Cs.C8 h;omega
structure LS.Wd (s : LS) (W : Nat) : Prop where
 bd : s.Bd (4611686018427387904 - W)
 tl : (s.tk.length : Int) + W≤4611686018427387904
 k1 : KN s.ct
 k2 : KN s.inn
 k3 : KN s.tk
theorem LS.Wd.mono {s : LS} {W V : Nat} (h : s.Wd W) (hv : V≤W) : s.Wd V:=⟨h.bd.mono (by omega),by have:=h.tl;omega,h.k1,h.k2,h.k3⟩
theorem LS.Wd.big {s : LS} {W : Nat} (h : s.Wd W) : s.Bd 4611686018427387904:=h.bd.mono (by omega)
theorem LS.Wd.tlen {s : LS} {W : Nat} (h : s.Wd W) : s.tk.length≤4611686018427387904:=by have:=h.tl;omega
theorem LS.Wd.use {s : LS} {W : Nat} (h : s.Wd W) (n : ByteArray) : (s.Yj n).2.Wd W:=by
 have hb:=h.bd.use n
 obtain ⟨h1,h2⟩:=s.useE_tk n
 refine ⟨hb,by rw [h1];exact h.tl,?_,by rw [h2];exact h.k2,by rw [h1];exact h.k3⟩
 unfold LS.Yj
 split
 ·exact h.k1
 ·split
  ·exact h.k1
  ·exact h.k1.put _ _
theorem LS.Wd.inc {s : LS} {W : Nat} (h : s.Wd (W + 1)) (n : ByteArray) : (s.inc n).Wd W :=
 ⟨(h.bd.inc n).mono (by omega),by have:=h.tl;show (s.tk.length : Int) + W≤_;omega,h.k1.put _ _,h.k2,h.k3⟩
theorem LS.Wd.Xv : ∀ (vs : List ByteArray) {s : LS} {W : Nat} (h : s.Wd (W + vs.length)) (nm : ByteArray),(s.Xv nm vs).2.Wd W
 | [],s,W,h,nm=>by rw [LS.openE_nil];exact LS.Wd.use h nm
 | v :: r,s,W,h,nm=>by
  rw [LS.openE_cons]
  split
  ·exact h.mono (by omega)
  ·exact LS.Wd.Xv r (LS.Wd.inc (by rw [List.length_cons] at h;exact h) v) nm
theorem LS.Wd.tput {s : LS} {W : Nat} (h : s.Wd (W + 1)) (b : ByteArray) (v : Int) : ({ s with tk:=X5 s.tk b v } : LS).Wd W:=by
 refine ⟨h.bd.mono (by omega),?_,h.k1,h.k2,h.k3.put _ _⟩
 have h1:=h.tl
 have h2 : (s.tk.filter fun p=>decide (p.1≠b)).length≤s.tk.length:=List.length_filter_le ..
 show ((X5 s.tk b v).length : Int) + W≤_
 unfold X5
 rw [List.length_cons];omega
theorem LS.Wd.tdel {s : LS} {W : Nat} (h : s.Wd W) (b : ByteArray) : ({ s with tk:=Wz s.tk b } : LS).Wd W:=by
 refine ⟨h.bd,?_,h.k1,h.k2,h.k3.filter _⟩
 have h1:=h.tl
 have h2 : (s.tk.filter fun p=>decide (p.1≠b)).length≤s.tk.length:=List.length_filter_le ..
 show ((Wz s.tk b).length : Int) + W≤_
 unfold Wz;omega
theorem LS.Wd.put {s : LS} {W : Nat} (h : s.Wd W) (n : ByteArray) {v : Int} (h0 : 0≤v) (h1 : v + W≤4611686018427387904) : ({ s with ct:=X5 s.ct n v } : LS).Wd W:=by
 refine ⟨fun m=>?_,h.tl,h.k1.put _ _,h.k2,h.k3⟩
 have:=h.bd m
 rw [LS.O4]
 split <;> omega
theorem LS.Wd.iput {s : LS} {W : Nat} (h : s.Wd W) (n v : ByteArray) : ({ s with inn:=X5 s.inn n v } : LS).Wd W:=⟨h.bd,h.tl,h.k1,h.k2.put _ _,h.k3⟩
theorem min1_le {k : Int} (h : 0≤k) : 0≤Dk k∧Dk k≤k:=by unfold Dk;split <;> omega
theorem LS.Wd.fst {s : LS} {W : Nat} (h : s.Wd W) (t : Tm) : (s.fst t).Wd W:=by
 refine ⟨fun n=>?_,?_,?_,h.k2,h.k3.filter _⟩
 ·have h1:=h.bd n
  have h2:=min1_le h1.1
  rw [LS.fst_c]
  split <;> omega
 ·have h1:=h.tl
  have h2 : (s.tk.filter fun p=>t.U7 p.1).length≤s.tk.length:=List.length_filter_le ..
  show ((s.tk.filter fun p=>t.U7 p.1).length : Int) + W≤_
  omega
 ·unfold LS.fst KN
  dsimp only
  rw [List.map_map]
  exact h.k1.filter fun p=>t.Fx p.1
theorem LS.Wd.rst {s : LS} {W : Nat} (h : s.Wd W) (t : Tm) : (s.rst t).Wd W:=by
 refine ⟨fun n=>?_,?_,?_,h.k2,h.k3.filter _⟩
 ·have h1:=h.bd n
  have h2:=min1_le h1.1
  rw [LS.rst_c]
  split <;> omega
 ·have h1:=h.tl
  have h2 : (s.tk.filter fun p=>!t.U7 p.1).length≤s.tk.length:=List.length_filter_le ..
  show ((s.tk.filter fun p=>!t.U7 p.1).length : Int) + W≤_
  omega
 ·unfold LS.rst KN
  dsimp only
  rw [List.map_map]
  exact h.k1
def spN : List ByteArray→List (ByteArray×Int)→List (ByteArray×Int)→List (ByteArray×Int)×List (ByteArray×Int)
 | [],c,f=>(c,f)
 | n :: r,c,f=>match lkA c n with
  | none=>spN r c f
  | some k=>spN r (X5 c n (k - Dk k)) (X5 f n (Dk k))
def spK : List ByteArray→List (ByteArray×Int)→List (ByteArray×Int)→List (ByteArray×Int)×List (ByteArray×Int)
 | [],c,f=>(c,f)
 | n :: r,c,f=>match lkA c n with
  | none=>spK r c f
  | some k=>spK r (Wz c n) (X5 f n k)
theorem spN_kn : ∀ (l : List ByteArray) (c f : List (ByteArray×Int)),KN c→KN f→KN (spN l c f).1∧KN (spN l c f).2
 | [],c,f,h1,h2=>⟨h1,h2⟩
 | n :: r,c,f,h1,h2=>by
  rw [spN]
  split
  ·exact spN_kn r c f h1 h2
  ·exact spN_kn r _ _ (h1.put _ _) (h2.put _ _)
theorem spK_kn : ∀ (l : List ByteArray) (c f : List (ByteArray×Int)),KN c→KN f→KN (spK l c f).1∧KN (spK l c f).2
 | [],c,f,h1,h2=>⟨h1,h2⟩
 | n :: r,c,f,h1,h2=>by
  rw [spK]
  split
  ·exact spK_kn r c f h1 h2
  ·exact spK_kn r _ _ (h1.filter _) (h2.put _ _)
theorem spN_lk : ∀ (l : List ByteArray) (c f : List (ByteArray×Int)),l.Nodup→∀ m,lkA (spN l c f).1 m = (if m∈l then (lkA c m).map fun k=>k - Dk k else lkA c m)∧lkA (spN l c f).2 m = (if m∈l then ((lkA c m).map Dk).or (lkA f m) else lkA f m)
 | [],c,f,_,m=>by simp [spN]
 | n :: r,c,f,hn,m=>by
  obtain ⟨hnr,hr⟩:=List.nodup_cons.1 hn
  rw [spN]
  cases hk : lkA c n with
  | none =>
   obtain ⟨h1,h2⟩:=spN_lk r c f hr m
   dsimp only
   rw [h1,h2]
   by_cases hm : m = n
   ·subst hm
    rw [if_neg hnr,if_pos (List.mem_cons_self ..),if_neg hnr,if_pos (List.mem_cons_self ..),hk]
    exact ⟨rfl,rfl⟩
   ·have e : (m∈n :: r)↔m∈r:=by rw [List.mem_cons];exact ⟨fun h=>h.resolve_left hm,.inr⟩
    by_cases hmr : m∈r
    ·rw [if_pos hmr,if_pos (e.2 hmr),if_pos hmr,if_pos (e.2 hmr)];exact ⟨rfl,rfl⟩
    ·rw [if_neg hmr,if_neg (fun h=>hmr (e.1 h)),if_neg hmr,if_neg (fun h=>hmr (e.1 h))];exact ⟨rfl,rfl⟩
  | some k =>
   obtain ⟨h1,h2⟩:=spN_lk r (X5 c n (k - Dk k)) (X5 f n (Dk k)) hr m
   dsimp only
   rw [h1,h2,X7,X7]
   by_cases hm : m = n
   ·subst hm
    rw [if_neg hnr,if_pos rfl,if_pos (List.mem_cons_self ..),if_neg hnr,if_pos rfl,if_pos (List.mem_cons_self ..),hk]
    exact ⟨rfl,rfl⟩
   ·have hnm : ¬ n = m:=fun e=>hm e.symm
    have e : (m∈n :: r)↔m∈r:=by rw [List.mem_cons];exact ⟨fun h=>h.resolve_left hm,.inr⟩
    rw [if_neg hnm,if_neg hnm]
    by_cases hmr : m∈r
    ·rw [if_pos hmr,if_pos (e.2 hmr),if_pos hmr,if_pos (e.2 hmr)];exact ⟨rfl,rfl⟩
    ·rw [if_neg hmr,if_neg (fun h=>hmr (e.1 h)),if_neg hmr,if_neg (fun h=>hmr (e.1 h))];exact ⟨rfl,rfl⟩
theorem spK_lk : ∀ (l : List ByteArray) (c f : List (ByteArray×Int)),l.Nodup→∀ m,lkA (spK l c f).1 m = (if m∈l then none else lkA c m)∧lkA (spK l c f).2 m = (if m∈l then (lkA c m).or (lkA f m) else lkA f m)
 | [],c,f,_,m=>by simp [spK]
 | n :: r,c,f,hn,m=>by
  obtain ⟨hnr,hr⟩:=List.nodup_cons.1 hn
  rw [spK]
  cases hk : lkA c n with
  | none =>
   obtain ⟨h1,h2⟩:=spK_lk r c f hr m
   dsimp only
   rw [h1,h2]
   by_cases hm : m = n
   ·subst hm
    rw [if_neg hnr,if_pos (List.mem_cons_self ..),if_neg hnr,if_pos (List.mem_cons_self ..),hk]
    exact ⟨rfl,rfl⟩
   ·have e : (m∈n :: r)↔m∈r:=by rw [List.mem_cons];exact ⟨fun h=>h.resolve_left hm,.inr⟩
    by_cases hmr : m∈r
    ·rw [if_pos hmr,if_pos (e.2 hmr),if_pos hmr,if_pos (e.2 hmr)];exact ⟨rfl,rfl⟩
    ·rw [if_neg hmr,if_neg (fun h=>hmr (e.1 h)),if_neg hmr,if_neg (fun h=>hmr (e.1 h))];exact ⟨rfl,rfl⟩
  | some k =>
   obtain ⟨h1,h2⟩:=spK_lk r (Wz c n) (X5 f n k) hr m
   dsimp only
   rw [h1,h2,X7,Hz]
   by_cases hm : m = n
   ·subst hm
    rw [if_neg hnr,if_pos rfl,if_pos (List.mem_cons_self ..),if_neg hnr,if_pos rfl,if_pos (List.mem_cons_self ..),hk]
    exact ⟨rfl,rfl⟩
   ·have hnm : ¬ n = m:=fun e=>hm e.symm
    have e : (m∈n :: r)↔m∈r:=by rw [List.mem_cons];exact ⟨fun h=>h.resolve_left hm,.inr⟩
    rw [if_neg hnm,if_neg hnm]
    by_cases hmr : m∈r
    ·rw [if_pos hmr,if_pos (e.2 hmr),if_pos hmr,if_pos (e.2 hmr)];exact ⟨rfl,rfl⟩
    ·rw [if_neg hmr,if_neg (fun h=>hmr (e.1 h)),if_neg hmr,if_neg (fun h=>hmr (e.1 h))];exact ⟨rfl,rfl⟩
theorem ent_perm {a b : List (ByteArray×Int)} (ha : KN a) (hb : KN b) (h : ∀ n,lkA a n = lkA b n) : (Qk a).Perm (Qk b) :=
 (entI_ents ha).perm (entI_ents hb) fun s=>by rw [X4,X4,h s]
theorem sp_fst {s : LS} {W : Nat} (h : s.Wd W) (t : Tm) :
  (Qk (spN t.ndN s.ct []).1).Perm (Qk (s.rst t).ct)∧(Qk (spN t.ndN s.ct []).2).Perm (Qk (s.fst t).ct)∧(Qk (spK t.ndT s.tk []).1).Perm (Qk (s.rst t).tk)∧(Qk (spK t.ndT s.tk []).2).Perm (Qk (s.fst t).tk):=by
 have k0 : KN ([] : List (ByteArray×Int)):=KN.nil
 have hf:=h.fst t
 have hr:=h.rst t
 refine ⟨ent_perm (spN_kn _ _ _ h.k1 k0).1 hr.k1 fun n=>?_,ent_perm (spN_kn _ _ _ h.k1 k0).2 hf.k1 fun n=>?_,ent_perm (spK_kn _ _ _ h.k3 k0).1 hr.k3 fun n=>?_,ent_perm (spK_kn _ _ _ h.k3 k0).2 hf.k3 fun n=>?_⟩
 ·rw [(spN_lk _ _ _ t.ndN_nodup n).1]
  unfold LS.rst
  dsimp only
  rw [Hq (fun k v=>if t.Fx k then v - Dk v else v)]
  by_cases hm : n∈t.ndN
  ·rw [if_pos hm]
   have ha:=(t.ndN_mem n).1 hm
   congr 1;funext v;rw [if_pos ha]
  ·rw [if_neg hm]
   have ha : ¬ t.Fx n = true:=fun e=>hm ((t.ndN_mem n).2 e)
   cases lkA s.ct n with
   | none=>rfl
   | some v=>simp [ha]
 ·rw [(spN_lk _ _ _ t.ndN_nodup n).2]
  unfold LS.fst
  dsimp only
  rw [Hq (fun _ k=>Dk k),Z9 t.Fx]
  by_cases hm : n∈t.ndN
  ·rw [if_pos hm,if_pos ((t.ndN_mem n).1 hm)]
   cases lkA s.ct n <;> rfl
  ·rw [if_neg hm,if_neg (fun e=>hm ((t.ndN_mem n).2 e))];rfl
 ·rw [(spK_lk _ _ _ t.ndT_nodup n).1]
  unfold LS.rst
  dsimp only
  rw [Z9 (fun b=>!t.U7 b)]
  by_cases hm : n∈t.ndT
  ·rw [if_pos hm,if_neg (by simp [(t.ndT_mem n).1 hm])]
  ·rw [if_neg hm,if_pos]
   have ha : ¬ t.U7 n = true:=fun e=>hm ((t.ndT_mem n).2 e)
   simpa using ha
 ·rw [(spK_lk _ _ _ t.ndT_nodup n).2]
  unfold LS.fst
  dsimp only
  rw [Z9 t.U7]
  by_cases hm : n∈t.ndT
  ·rw [if_pos hm,if_pos ((t.ndT_mem n).1 hm)]
   cases lkA s.tk n <;> rfl
  ·rw [if_neg hm,if_neg (fun e=>hm ((t.ndT_mem n).2 e))];rfl
theorem LS.Wd.Wq (nm : ByteArray) : ∀ (ws : List ByteArray) {s : LS} {W : Nat} (h : s.Wd W),(s.Wq nm ws).2.Wd W
 | [],s,W,h=>h
 | v :: r,s,W,h=>by
  rw [LS.Wq]
  split
  ·exact h
  ·have h1:=h.tl
   have h2 : (0 : Int)≤s.tk.length:=Int.natCast_nonneg _
   exact LS.Wd.Wq nm r ((h.put v (v:=0) (by omega) (by omega)).iput v nm)
end Go.Proofs.YtjpldhjgehoffaaDoor
namespace Go.Proofs.YtjpldhjgehoffaaDoor
open Go.RowKit
set_option linter.unusedVariables false
set_option linter.unusedSimpArgs false
def FuId (t : Tm) : Prop:=t.fu = t
theorem FuId.args {k n : Int} {a b : ByteArray} {vs : List ByteArray} {xs : List Tm} {cs : List Cs} (h : FuId (.mk k n a b vs xs cs)) : ∀ x∈xs,FuId x:=by
 unfold FuId at h
 rw [Tm.fu,Tm.Qj1] at h
 injection h with _ _ _ _ _ h _
 intro x hx
 obtain ⟨i,hi⟩:=List.mem_iff_getElem?.1 hx
 have h1 : (xs.map Tm.fu)[i]? = some x:=by rw [h];exact hi
 rw [List.getElem?_map,hi] at h1
 exact Option.some.inj h1
theorem FuId.a0 {t : Tm} (h : FuId t) : FuId t.a0:=by
 obtain ⟨k,n,a,b,vs,xs,cs⟩:=t
 unfold Tm.a0 Tm.xs
 rcases xs with _ | ⟨x,r⟩
 ·exact h
 ·exact h.args x (List.mem_cons_self ..)
theorem put_fs (b : ByteArray) (m : Nat) : ∀ (N : Nat) (t : Tm),t.sz≤N→t.Fs→(t.put b m).Fs:=by
 intro N
 induction N with
 | zero=>intro t h;have:=t.F8;omega
 | succ N ih =>
  intro t hN hS
  obtain ⟨k,n,a,b0,vs,xs,cs⟩:=t
  rw [Tm.sz] at hN
  have hX : ∀ x∈xs,x.sz≤N:=fun x hx=>by have:=Tm.Z4 hx;omega
  rw [Tm.put]
  split
  ·exact ⟨by omega,fun _=>⟨_,rfl⟩,⟨hS,trivial⟩,trivial⟩
  split
  ·exact ⟨by omega,by omega,hS.2.2⟩
  split
  ·rename_i h6
   obtain ⟨x,y,rfl⟩:=hS.1 h6
   rw [Tm.O8,Tm.G5]
   obtain ⟨h1,h2,-⟩:=hS.2.2.1
   split
   ·exact ⟨fun _=>⟨_,_,rfl⟩,by omega,⟨ih x (hX x (by simp)) h1,h2,trivial⟩,hS.2.2.2⟩
   ·exact ⟨fun _=>⟨_,_,rfl⟩,by omega,⟨h1,ih y (hX y (by simp)) h2,trivial⟩,hS.2.2.2⟩
  split
  ·refine ⟨by omega,by omega,hS.2.2.1,?_⟩
   rw [O1]
   refine Iq.2 fun c h=>?_
   obtain ⟨c0,hc0,rfl⟩:=List.mem_map.1 h
   have h1:=Iq.1 hS.2.2.2 c0 hc0
   have hs:=Cs.Z4 hc0
   obtain ⟨t,ws,y⟩:=c0
   rw [Cs.sz] at hs
   rw [Cs.put]
   exact ih y (by omega) h1
  ·refine ⟨by omega,fun h=>?_,?_,hS.2.2.2⟩
   ·obtain ⟨x,rfl⟩:=hS.2.1 h
    exact ⟨_,rfl⟩
   ·cases xs with
    | nil=>trivial
    | cons x r=>rw [Tm.G5];exact ⟨ih x (hX x (by simp)) hS.2.2.1.1,hS.2.2.1.2⟩
theorem G9 (b : ByteArray) (m : Nat) (hb : b.size≤140737488355328) : ∀ (N : Nat) (t : Tm),t.sz≤N→t.Ok→(t.put b m).Ok:=by
 intro N
 induction N with
 | zero=>intro t h;have:=t.F8;omega
 | succ N ih =>
  intro t hN hO
  obtain ⟨k,n,a,b0,vs,xs,cs⟩:=t
  rw [Tm.sz] at hN
  have hX : ∀ x∈xs,x.sz≤N:=fun x hx=>by have:=Tm.Z4 hx;omega
  obtain ⟨⟨o1,o2,o3⟩,⟨o4,o5,o6⟩,o7,o8⟩:=id hO
  have hH : ∀ l : List Tm,(∀ x∈l,x.sz≤N)→Tm.Oks l→Tm.Oks (Tm.G5 b m l)∧(Tm.G5 b m l).length = l.length:=fun l hl h1=>by
   cases l with
   | nil=>exact ⟨trivial,rfl⟩
   | cons x r=>rw [Tm.G5];exact ⟨⟨ih x (hl x (by simp)) h1.1,h1.2⟩,rfl⟩
  rw [Tm.put]
  split
  ·exact ⟨⟨by simp,hb,by simp⟩,⟨by simp,by simp,by simp⟩,⟨hO,trivial⟩,trivial⟩
  split
  ·exact ⟨⟨o1,hb,o3⟩,⟨o4,o5,o6⟩,o7,o8⟩
  split
  ·cases xs with
   | nil=>exact hO
   | cons x r =>
    rw [Tm.O8]
    split
    ·exact ⟨⟨o1,o2,o3⟩,⟨o4,o5,o6⟩,⟨ih x (hX x (by simp)) o7.1,o7.2⟩,o8⟩
    ·have h1:=hH r (fun z hz=>hX z (by simp [hz])) o7.2
     exact ⟨⟨o1,o2,o3⟩,⟨o4,by rw [List.length_cons,h1.2];exact o5,o6⟩,⟨o7.1,h1.1⟩,o8⟩
  split
  ·refine ⟨⟨o1,o2,o3⟩,⟨o4,o5,by rw [O1,List.length_map];exact o6⟩,o7,?_⟩
   rw [O1]
   refine Cs.Zq.2 fun c h=>?_
   obtain ⟨c0,hc0,rfl⟩:=List.mem_map.1 h
   have h1:=Cs.Zq.1 o8 c0 hc0
   have hs:=Cs.Z4 hc0
   obtain ⟨t,ws,y⟩:=c0
   rw [Cs.sz] at hs
   rw [Cs.put]
   exact ⟨h1.1,h1.2.1,ih y (by omega) h1.2.2⟩
  ·have h1:=hH xs hX o7
   exact ⟨⟨o1,o2,o3⟩,⟨o4,by rw [h1.2];exact o5,o6⟩,h1.1,o8⟩
end Go.Proofs.YtjpldhjgehoffaaDoor
