import Derived.Test.YtjpldhjgehoffaaDoorLineM
namespace Go.Proofs.YtjpldhjgehoffaaDoor
open Go.RowKit
attribute [local simp] Cq mkRc ldOf stOf Qz4 Fq M4 Rq K7 V3 Yv K4 J7 Y9 L9 evA Kv G8 Value.oneCell' Zj Q4 Z7 Iz Vz Z0 AS.after Z8 K8 Jv AV.ids Mq Qz.ids Qj3 F9 Wv U9 G6 Y0 Y5 Kk V9 V7 Yz Ov T9 setAt Vj Cj Gq Pj R9 Pk binI AV.cells J9 Jz R8 U1 AV.kill Qz.kill AV.has AV.K9 Op.operands Call.operands Gj Hw Zv Oz Zz Xz Tk moQ M6 Uz Yw AV.ren Tj Qz.ren Qz.like kept X8 M5 AV.frz Pz Cw Ex H9 F3 AS.frz Mv Uw Qz.frz Rx Rj bleF Nat.ble_eq R4 Ww K3 D.Yx F5 Uv Vx Vq phO Px Gz Wx U0 K6 Low Sq
set_option linter.unusedVariables false
set_option linter.unusedSimpArgs false
abbrev iObj (c : Int) : Qz:=.blk 3 [.d (.int c)]
def WoN (N : Nat) : Prop:=∀ (t : Tm) (c : Int),t.sz≤N→t.Ok→t.S3→X3 Tryd.prog 26 [Xw t,.ptr 1000 0] [(1000,iObj c)] (.tuple [Xw (t.wo c).1,.d (.bool (t.wo c).2.1)]) [(1000,iObj (t.wo c).2.2)]
set_option maxRecDepth 20000 in
set_option maxHeartbeats 16000000 in
theorem wo_step (N : Nat) (ih : WoN N) : WoN (N + 1):=by
 intro t c hN hO hS
 obtain ⟨R,hR⟩ : ∃ R,R = t.wo c:=⟨_,rfl⟩
 rw [← hR]
 obtain ⟨tk,tn,ta,tb,tvs,txs,tcs⟩:=t
 rw [Tm.wo] at hR
 rw [Tm.sz] at hN
 have hxN : ∀ x∈txs,x.sz≤N:=fun x hx=>by have:=Tm.Z4 hx;omega
 have hcN : ∀ x∈tcs,x.sz≤N:=fun x hx=>by have:=Cs.Z4 hx;omega
 have hxO : ∀ x∈txs,x.Ok:=fun x hx=>Tm.Zq.1 hO.2.2.1 x hx
 have hcO : ∀ x∈tcs,x.Ok:=fun x hx=>Cs.Zq.1 hO.2.2.2 x hx
 have hxS : ∀ x∈txs,x.S3:=fun x hx=>S3L_iff.1 hS.2.1 x hx
 have hcS : ∀ x∈tcs,x.S3:=fun x hx=>CS3L_iff.1 hS.2.2 x hx
 obtain ⟨o1,o2,o3,o4,o5⟩:=hO.vars
 refine X3.of Tryd.func26 rfl rfl (Nat.le_of_ble_eq_true rfl) ?_
 show AWp _ _ (Qv _ Tryd.f26 _ _) (X8 103 _ _)
 refine AWp.rg [] [] ?_ (hr:=by conv=>lhs;simp [Tm.row,Tm.Q3,Cs.Q3])
 by_cases h8 : tk = 8
 ·have hg : tk = 8∨tk = 9∨tk = 13:=by omega
  obtain ⟨x,hxy⟩:=hS.1 hg
  have h0x : txs[0]? = some x:=by rw [hxy];rfl
  simp only [if_pos hg] at hR
  refine AWp.rg [] [] ?_ (hr:=by conv=>lhs;simp [Tm.row,Tm.Q3,Cs.Q3,h0x,h8])
  refine AWp.cy ?_
  by_cases q1 : c = 0
  ·refine AWp.rg [] [] ?_ (hr:=by conv=>lhs;simp [Tm.row,Tm.Q3,Cs.Q3,h0x,h8,q1])
   refine AWp.cy ?_
   have hc0 : c = 0:=q1
   rw [if_pos ⟨hg,hc0⟩] at hR
   have hhx : hdT0 txs = x:=by rw [hxy];rfl
   rw [hhx] at hR
   obtain ⟨xk,xn,xa,xb,xvs,xxs,xcs⟩:=x
   subst hR
   refine AWp.rg [] [] ?_ (hr:=by conv=>lhs;simp [Tm.row,Tm.Q3,Cs.Q3,h0x,h8,q1])
   refine AWp.rg [] [] ?_ (hr:=by conv=>lhs;simp [Tm.row,Tm.Q3,Cs.Q3,h0x,h8,q1])
   refine AWp.ret ?_
   try dsimp only [Qq,Q8]
   apply Qv.ret
   ·rfl
   ·conv=>lhs;simp [Q9,Tryd.results26]
   ·rfl
   ·simp [Qj,Q4]
  refine AWp.rg [] [] ?_ (hr:=by conv=>lhs;simp [Tm.row,Tm.Q3,Cs.Q3,h0x,h8,q1])
  refine AWp.cn ?_
  refine AWp.skip ?_
  rw [if_neg (fun h=>q1 h.2)] at hR
  refine AWp.rg [3] [] ?_ (hr:=by conv=>lhs;simp [Tm.row,Tm.Q3,Cs.Q3,h0x,h8,q1])
  subst h8
  obtain ⟨e,he⟩ : ∃ e : Int,wr (c - 1) = e:=⟨_,rfl⟩
  rw [he] at hR
  rw [he]
  refine AWp.rg [] [] ?_ (hr:=by conv=>lhs;simp [Tm.row,Tm.Q3,Cs.Q3,q1])
  refine AWp.rg [] [] ?_ (hr:=by conv=>lhs;simp [Tm.row,Tm.Q3,Cs.Q3,q1])
  refine AWp.rg [] [] ?_ (hr:=by conv=>lhs;simp [Tm.row,Tm.Q3,Cs.Q3,q1])
  refine AWp.rg [] [] ?_ (hr:=by conv=>lhs;simp [Tm.row,Tm.Q3,Cs.Q3,q1])
  repeat (first | refine AWp.seq ?_ | refine AWp.block ?_)
  refine AWp.le (Le.low [400] [] (fr:=[(1,.ptr 1000 0),(2,.ptr 2 0),(4,.ptr 4 0),(6,.ptr 6 0),(7,.d (.bool (false : Bool))),(48,.d (.sl (txs.map Tm.row))),(49,.d (.int (txs.length : Int))),(50,.d (.int (0 : Int)))]) (mem:=[(2,some (.blk 32 [.d (.int 8),.d (.int tn),.d (.str ta),.d (.str tb),.d (Q7 tvs),.d (.sl (txs.map Tm.row)),.d (.sl (tcs.map Cs.row))])),(4,some (.blk 32 [.d (.int 0),.d (.int 0),.d (.str ByteArray.empty),.d (.str ByteArray.empty),.lit (.slice none 0 0),.lit (.slice none 0 0),.lit (.slice none 0 0)])),(6,some (.blk 32 [.d (.int 8),.d (.int tn),.d (.str ta),.d (.str tb),.d (Q7 tvs),.arr 400 0 ([] : List Tm).length,.lit (.slice none 0 0)])),(400,some (.arr 32 7 (([] : List Tm).map Tm.row))),(1000,some (.blk 3 [.d (.int (e : Int))]))]) rfl (by simp) (by simp)) ?_
  refine AWp.loop (σ:=fun u : {u : Nat×List Tm×Int×Bool // u.1≤txs.length∧(Tm.woL txs e = (u.2.1 ++ (Tm.woL (txs.drop u.1) u.2.2.1).1,u.2.2.2 || (Tm.woL (txs.drop u.1) u.2.2.1).2.1,(Tm.woL (txs.drop u.1) u.2.2.1).2.2)∧u.2.1.length = u.1)}=>⟨103,[(1,.ptr 1000 0),(2,.ptr 2 0),(4,.ptr 4 0),(6,.ptr 6 0),(7,.d (.bool u.1.2.2.2)),(48,.d (.sl (txs.map Tm.row))),(49,.d (.int (txs.length : Int))),(50,.d (.int (u.1.1 : Int)))],[(2,some (.blk 32 [.d (.int 8),.d (.int tn),.d (.str ta),.d (.str tb),.d (Q7 tvs),.d (.sl (txs.map Tm.row)),.d (.sl (tcs.map Cs.row))])),(4,some (.blk 32 [.d (.int 0),.d (.int 0),.d (.str ByteArray.empty),.d (.str ByteArray.empty),.lit (.slice none 0 0),.lit (.slice none 0 0),.lit (.slice none 0 0)])),(6,some (.blk 32 [.d (.int 8),.d (.int tn),.d (.str ta),.d (.str tb),.d (Q7 tvs),.arr 400 0 u.1.2.1.length,.lit (.slice none 0 0)])),(400,some (.arr 32 7 (u.1.2.1.map Tm.row))),(1000,some (.blk 3 [.d (.int u.1.2.2.1)]))]⟩)
   (μ:=fun u=>txs.length - u.1.1) ⟨(0,[],e,false),⟨Nat.zero_le _,⟨by simp,rfl⟩⟩⟩ (Le.sub (by simp) (by simp)) (fun ⟨(i,ys,c1,ga),⟨hi10,hw⟩⟩=>?_)
  dsimp only at hi10 hw ⊢
  refine AWp.rg [] [] ?_ (hr:=by conv=>lhs;simp [Tm.row,Tm.Q3,Cs.Q3,q1])
  repeat (first | refine AWp.seq ?_ | refine AWp.block ?_)
  refine AWp.cond rfl (fun hc=>?_) (fun hc=>?_)
  ·have hi1 : i < txs.length:=by have:=of_decide_eq_true hc;omega
   clear hc
   have h1y : txs[i]? = some txs[i]:=List.getElem?_eq_getElem hi1
   have hmy : txs[i]∈txs:=List.getElem_mem hi1
   have hdy : txs.drop i = txs[i] :: txs.drop (i + 1):=List.drop_eq_getElem_cons hi1
   generalize txs[i] = y at h1y hmy hdy
   obtain ⟨hap,hyl⟩:=hw
   rw [hdy,Tm.woL] at hap
   have hx:=ih y c1 (hxN y hmy) (hxO y hmy) (hxS y hmy)
   generalize y.wo c1 = o at hx hap
   obtain ⟨z,q,c2⟩:=o
   dsimp only at hx hap
   obtain ⟨yk,yn,ya,yb,yvs,yxs,ycs⟩:=y
   obtain ⟨zk,zn,za,zb,zvs,zxs,zcs⟩:=z
   refine AWp.skip ?_
   refine AWp.rg [] [] ?_ (hr:=by conv=>lhs;simp [Tm.row,Tm.Q3,Cs.Q3,h1y,q1])
   refine AWp.rg [] [.c [] [.agg [.d (.int yk),.d (.int yn),.d (.str ya),.d (.str yb),.d (Q7 yvs),.d (.sl (yxs.map Tm.row)),.d (.sl (ycs.map Cs.row))],.ptr 1000 0] [(1000,.blk 3 [.d (.int c1)])] (.tuple [.agg [.d (.int zk),.d (.int zn),.d (.str za),.d (.str zb),.d (Q7 zvs),.d (.sl (zxs.map Tm.row)),.d (.sl (zcs.map Cs.row))],.d (.bool q)]) [(1000,.blk 3 [.d (.int c2)])]] ?_ (hr:=by conv=>lhs;simp [Tm.row,Tm.Q3,Cs.Q3,h1y,q1])
   cases ga with
   | true =>
    refine AWp.rg [] [] ?_ (hr:=by conv=>lhs;simp [Tm.row,Tm.Q3,Cs.Q3,h1y,q1])
    refine AWp.rg [] [] ?_ (hr:=by conv=>lhs;simp [Tm.row,Tm.Q3,Cs.Q3,h1y,q1])
    refine AWp.rg [] [] ?_ (hr:=by conv=>lhs;simp [Tm.row,Tm.Q3,Cs.Q3,h1y,q1])
    refine ⟨⟨(i + 1,ys ++ [.mk zk zn za zb zvs zxs zcs],c2,true),hi1,⟨by rw [hap];simp,by simp [hyl]⟩⟩,by simp;omega,?_⟩
    dsimp only
    exact Le.sub (by simp [Tm.row,Tm.Q3,Cs.Q3,hyl]) (by simp [Tm.row,Tm.Q3,Cs.Q3,hyl])
   | false =>
    refine AWp.rg [] [] ?_ (hr:=by conv=>lhs;simp [Tm.row,Tm.Q3,Cs.Q3,h1y,q1])
    refine AWp.rg [] [] ?_ (hr:=by conv=>lhs;simp [Tm.row,Tm.Q3,Cs.Q3,h1y,q1])
    refine AWp.rg [] [] ?_ (hr:=by conv=>lhs;simp [Tm.row,Tm.Q3,Cs.Q3,h1y,q1])
    refine ⟨⟨(i + 1,ys ++ [.mk zk zn za zb zvs zxs zcs],c2,q),hi1,⟨by rw [hap];simp,by simp [hyl]⟩⟩,by simp;omega,?_⟩
    dsimp only
    exact Le.sub (by simp [Tm.row,Tm.Q3,Cs.Q3,hyl]) (by simp [Tm.row,Tm.Q3,Cs.Q3,hyl])
  have hi1 : i = txs.length:=by have:=of_decide_eq_false hc;omega
  subst hi1
  clear hc
  obtain ⟨hap,hyl⟩:=hw
  rw [List.drop_length,Tm.woL] at hap
  simp only [List.append_nil,Bool.or_false] at hap
  rw [hap] at hR
  dsimp only at hR
  clear hap
  refine AWp.exit ?_
  refine AWp.rg [] [] ?_ (hr:=by conv=>lhs;simp [Tm.row,Tm.Q3,Cs.Q3,q1])
  repeat (first | refine AWp.seq ?_ | refine AWp.block ?_)
  refine AWp.le (Le.low [401] [] (fr:=[(1,.ptr 1000 0),(4,.ptr 4 0),(6,.ptr 6 0),(7,.d (.bool (ga : Bool))),(72,.d (.sl (tcs.map Cs.row))),(73,.d (.int (tcs.length : Int))),(74,.d (.int (0 : Int)))]) (mem:=[(4,some (.blk 32 [.d (.int 0),.d (.int 0),.d (.str ByteArray.empty),.d (.str ByteArray.empty),.lit (.slice none 0 0),.lit (.slice none 0 0),.lit (.slice none 0 0)])),(6,some (.blk 32 [.d (.int 8),.d (.int tn),.d (.str ta),.d (.str tb),.d (Q7 tvs),.arr 400 0 ys.length,.arr 401 0 ([] : List Cs).length])),(400,some (.arr 32 7 (ys.map Tm.row))),(401,some (.arr 42 9 (([] : List Cs).map Cs.row))),(1000,some (.blk 3 [.d (.int (c1 : Int))]))]) rfl (by simp) (by simp)) ?_
  refine AWp.loop (σ:=fun u : {u : Nat×List Cs×Int×Bool // u.1≤tcs.length∧((Cs.woL tcs c1).1 = u.2.1 ++ (Cs.woL (tcs.drop u.1) u.2.2.1).1∧(ga || (Cs.woL tcs c1).2.1) = (u.2.2.2 || (Cs.woL (tcs.drop u.1) u.2.2.1).2.1)∧(Cs.woL tcs c1).2.2 = (Cs.woL (tcs.drop u.1) u.2.2.1).2.2∧u.2.1.length = u.1)}=>⟨103,[(1,.ptr 1000 0),(4,.ptr 4 0),(6,.ptr 6 0),(7,.d (.bool u.1.2.2.2)),(72,.d (.sl (tcs.map Cs.row))),(73,.d (.int (tcs.length : Int))),(74,.d (.int (u.1.1 : Int)))],[(4,some (.blk 32 [.d (.int 0),.d (.int 0),.d (.str ByteArray.empty),.d (.str ByteArray.empty),.lit (.slice none 0 0),.lit (.slice none 0 0),.lit (.slice none 0 0)])),(6,some (.blk 32 [.d (.int 8),.d (.int tn),.d (.str ta),.d (.str tb),.d (Q7 tvs),.arr 400 0 ys.length,.arr 401 0 u.1.2.1.length])),(400,some (.arr 32 7 (ys.map Tm.row))),(401,some (.arr 42 9 (u.1.2.1.map Cs.row))),(1000,some (.blk 3 [.d (.int u.1.2.2.1)]))]⟩)
   (μ:=fun u=>tcs.length - u.1.1) ⟨(0,[],c1,ga),⟨Nat.zero_le _,⟨by simp,rfl,rfl,rfl⟩⟩⟩ (Le.sub (by simp) (by simp)) (fun ⟨(i,ds,c3,gb),⟨hi17,hw2⟩⟩=>?_)
  dsimp only at hi17 hw2 ⊢
  refine AWp.rg [] [] ?_ (hr:=by conv=>lhs;simp [Tm.row,Tm.Q3,Cs.Q3,q1])
  repeat (first | refine AWp.seq ?_ | refine AWp.block ?_)
  refine AWp.cond rfl (fun hc=>?_) (fun hc=>?_)
  ·have hi1 : i < tcs.length:=by have:=of_decide_eq_true hc;omega
   clear hc
   have h1d : tcs[i]? = some tcs[i]:=List.getElem?_eq_getElem hi1
   have hmd : tcs[i]∈tcs:=List.getElem_mem hi1
   have hdd : tcs.drop i = tcs[i] :: tcs.drop (i + 1):=List.drop_eq_getElem_cons hi1
   generalize tcs[i] = d at h1d hmd hdd
   obtain ⟨hap,hq2,hc2,hdl⟩:=hw2
   have hdd2:=hcN d hmd
   have hdO:=hcO d hmd
   have hdS:=hcS d hmd
   obtain ⟨dt,dws,y⟩:=d
   rw [hdd,Cs.woL,Cs.wo] at hap hq2 hc2
   rw [Cs.sz] at hdd2
   have hx:=ih y c3 (by omega) hdO.2.2 hdS
   generalize y.wo c3 = o at hx hap hq2 hc2
   obtain ⟨z,q,c2⟩:=o
   dsimp only at hx hap hq2 hc2
   obtain ⟨yk,yn,ya,yb,yvs,yxs,ycs⟩:=y
   obtain ⟨zk,zn,za,zb,zvs,zxs,zcs⟩:=z
   refine AWp.skip ?_
   refine AWp.rg [] [] ?_ (hr:=by conv=>lhs;simp [Tm.row,Tm.Q3,Cs.Q3,h1d,Cs.row,q1])
   refine AWp.rg [] [.c [] [.agg [.d (.int yk),.d (.int yn),.d (.str ya),.d (.str yb),.d (Q7 yvs),.d (.sl (yxs.map Tm.row)),.d (.sl (ycs.map Cs.row))],.ptr 1000 0] [(1000,.blk 3 [.d (.int c3)])] (.tuple [.agg [.d (.int zk),.d (.int zn),.d (.str za),.d (.str zb),.d (Q7 zvs),.d (.sl (zxs.map Tm.row)),.d (.sl (zcs.map Cs.row))],.d (.bool q)]) [(1000,.blk 3 [.d (.int c2)])]] ?_ (hr:=by conv=>lhs;simp [Tm.row,Tm.Q3,Cs.Q3,h1d,Cs.row,q1])
   cases gb with
   | true =>
    refine AWp.rg [] [] ?_ (hr:=by conv=>lhs;simp [Tm.row,Tm.Q3,Cs.Q3,h1d,Cs.row,q1])
    refine AWp.rg [] [] ?_ (hr:=by conv=>lhs;simp [Tm.row,Tm.Q3,Cs.Q3,h1d,Cs.row,q1])
    refine AWp.rg [] [] ?_ (hr:=by conv=>lhs;simp [Tm.row,Tm.Q3,Cs.Q3,h1d,Cs.row,q1])
    refine ⟨⟨(i + 1,ds ++ [.mk dt dws (.mk zk zn za zb zvs zxs zcs)],c2,true),hi1,⟨by rw [hap];simp,by rw [hq2];simp,hc2,by simp [hdl]⟩⟩,by simp;omega,?_⟩
    dsimp only
    exact Le.sub (by simp [Cs.row,Tm.row,Tm.Q3,Cs.Q3,hdl]) (by simp [Cs.row,Tm.row,Tm.Q3,Cs.Q3,hdl])
   | false =>
    refine AWp.rg [] [] ?_ (hr:=by conv=>lhs;simp [Tm.row,Tm.Q3,Cs.Q3,h1d,Cs.row,q1])
    refine AWp.rg [] [] ?_ (hr:=by conv=>lhs;simp [Tm.row,Tm.Q3,Cs.Q3,h1d,Cs.row,q1])
    refine AWp.rg [] [] ?_ (hr:=by conv=>lhs;simp [Tm.row,Tm.Q3,Cs.Q3,h1d,Cs.row,q1])
    refine ⟨⟨(i + 1,ds ++ [.mk dt dws (.mk zk zn za zb zvs zxs zcs)],c2,q),hi1,⟨by rw [hap];simp,by rw [hq2];simp,hc2,by simp [hdl]⟩⟩,by simp;omega,?_⟩
    dsimp only
    exact Le.sub (by simp [Cs.row,Tm.row,Tm.Q3,Cs.Q3,hdl]) (by simp [Cs.row,Tm.row,Tm.Q3,Cs.Q3,hdl])
  have hi1 : i = tcs.length:=by have:=of_decide_eq_false hc;omega
  subst hi1
  clear hc
  obtain ⟨hap,hq2,hc2,hdl⟩:=hw2
  rw [List.drop_length,Cs.woL] at hap hq2 hc2
  simp only [List.append_nil,Bool.or_false] at hap hq2 hc2
  rw [hap,hq2,hc2] at hR
  subst hR
  refine AWp.exit ?_
  refine AWp.rg [] [] ?_ (hr:=by conv=>lhs;simp [Tm.row,Tm.Q3,Cs.Q3,q1])
  refine AWp.ret ?_
  try dsimp only [Qq,Q8]
  apply Qv.Qq1 [400,401]
  ·rfl
  ·conv=>lhs;simp
  ·conv=>lhs;simp [Q9,Tryd.results26]
  ·rfl
  ·simp [Qj,Q4]
 by_cases h9 : tk = 9
 ·have hg : tk = 8∨tk = 9∨tk = 13:=by omega
  obtain ⟨x,hxy⟩:=hS.1 hg
  have h0x : txs[0]? = some x:=by rw [hxy];rfl
  simp only [if_pos hg] at hR
  refine AWp.rg [] [] ?_ (hr:=by conv=>lhs;simp [Tm.row,Tm.Q3,Cs.Q3,h0x,h8,h9])
  refine AWp.cy ?_
  by_cases q2 : c = 0
  ·refine AWp.rg [] [] ?_ (hr:=by conv=>lhs;simp [Tm.row,Tm.Q3,Cs.Q3,h0x,h8,h9,q2])
   refine AWp.cy ?_
   have hc0 : c = 0:=q2
   rw [if_pos ⟨hg,hc0⟩] at hR
   have hhx : hdT0 txs = x:=by rw [hxy];rfl
   rw [hhx] at hR
   obtain ⟨xk,xn,xa,xb,xvs,xxs,xcs⟩:=x
   subst hR
   refine AWp.rg [] [] ?_ (hr:=by conv=>lhs;simp [Tm.row,Tm.Q3,Cs.Q3,h0x,h8,h9,q2])
   refine AWp.rg [] [] ?_ (hr:=by conv=>lhs;simp [Tm.row,Tm.Q3,Cs.Q3,h0x,h8,h9,q2])
   refine AWp.ret ?_
   try dsimp only [Qq,Q8]
   apply Qv.ret
   ·rfl
   ·conv=>lhs;simp [Q9,Tryd.results26]
   ·rfl
   ·simp [Qj,Q4]
  refine AWp.rg [] [] ?_ (hr:=by conv=>lhs;simp [Tm.row,Tm.Q3,Cs.Q3,h0x,h8,h9,q2])
  refine AWp.cn ?_
  refine AWp.skip ?_
  rw [if_neg (fun h=>q2 h.2)] at hR
  refine AWp.rg [3] [] ?_ (hr:=by conv=>lhs;simp [Tm.row,Tm.Q3,Cs.Q3,h0x,h8,h9,q2])
  subst h9
  obtain ⟨e,he⟩ : ∃ e : Int,wr (c - 1) = e:=⟨_,rfl⟩
  rw [he] at hR
  rw [he]
  refine AWp.rg [] [] ?_ (hr:=by conv=>lhs;simp [Tm.row,Tm.Q3,Cs.Q3,h8,q2])
  refine AWp.rg [] [] ?_ (hr:=by conv=>lhs;simp [Tm.row,Tm.Q3,Cs.Q3,h8,q2])
  refine AWp.rg [] [] ?_ (hr:=by conv=>lhs;simp [Tm.row,Tm.Q3,Cs.Q3,h8,q2])
  refine AWp.rg [] [] ?_ (hr:=by conv=>lhs;simp [Tm.row,Tm.Q3,Cs.Q3,h8,q2])
  repeat (first | refine AWp.seq ?_ | refine AWp.block ?_)
  refine AWp.le (Le.low [400] [] (fr:=[(1,.ptr 1000 0),(2,.ptr 2 0),(4,.ptr 4 0),(6,.ptr 6 0),(7,.d (.bool (false : Bool))),(48,.d (.sl (txs.map Tm.row))),(49,.d (.int (txs.length : Int))),(50,.d (.int (0 : Int)))]) (mem:=[(2,some (.blk 32 [.d (.int 9),.d (.int tn),.d (.str ta),.d (.str tb),.d (Q7 tvs),.d (.sl (txs.map Tm.row)),.d (.sl (tcs.map Cs.row))])),(4,some (.blk 32 [.d (.int 0),.d (.int 0),.d (.str ByteArray.empty),.d (.str ByteArray.empty),.lit (.slice none 0 0),.lit (.slice none 0 0),.lit (.slice none 0 0)])),(6,some (.blk 32 [.d (.int 9),.d (.int tn),.d (.str ta),.d (.str tb),.d (Q7 tvs),.arr 400 0 ([] : List Tm).length,.lit (.slice none 0 0)])),(400,some (.arr 32 7 (([] : List Tm).map Tm.row))),(1000,some (.blk 3 [.d (.int (e : Int))]))]) rfl (by simp) (by simp)) ?_
  refine AWp.loop (σ:=fun u : {u : Nat×List Tm×Int×Bool // u.1≤txs.length∧(Tm.woL txs e = (u.2.1 ++ (Tm.woL (txs.drop u.1) u.2.2.1).1,u.2.2.2 || (Tm.woL (txs.drop u.1) u.2.2.1).2.1,(Tm.woL (txs.drop u.1) u.2.2.1).2.2)∧u.2.1.length = u.1)}=>⟨103,[(1,.ptr 1000 0),(2,.ptr 2 0),(4,.ptr 4 0),(6,.ptr 6 0),(7,.d (.bool u.1.2.2.2)),(48,.d (.sl (txs.map Tm.row))),(49,.d (.int (txs.length : Int))),(50,.d (.int (u.1.1 : Int)))],[(2,some (.blk 32 [.d (.int 9),.d (.int tn),.d (.str ta),.d (.str tb),.d (Q7 tvs),.d (.sl (txs.map Tm.row)),.d (.sl (tcs.map Cs.row))])),(4,some (.blk 32 [.d (.int 0),.d (.int 0),.d (.str ByteArray.empty),.d (.str ByteArray.empty),.lit (.slice none 0 0),.lit (.slice none 0 0),.lit (.slice none 0 0)])),(6,some (.blk 32 [.d (.int 9),.d (.int tn),.d (.str ta),.d (.str tb),.d (Q7 tvs),.arr 400 0 u.1.2.1.length,.lit (.slice none 0 0)])),(400,some (.arr 32 7 (u.1.2.1.map Tm.row))),(1000,some (.blk 3 [.d (.int u.1.2.2.1)]))]⟩)
   (μ:=fun u=>txs.length - u.1.1) ⟨(0,[],e,false),⟨Nat.zero_le _,⟨by simp,rfl⟩⟩⟩ (Le.sub (by simp) (by simp)) (fun ⟨(i,ys,c1,ga),⟨hi10,hw⟩⟩=>?_)
  dsimp only at hi10 hw ⊢
  refine AWp.rg [] [] ?_ (hr:=by conv=>lhs;simp [Tm.row,Tm.Q3,Cs.Q3,h8,q2])
  repeat (first | refine AWp.seq ?_ | refine AWp.block ?_)
  refine AWp.cond rfl (fun hc=>?_) (fun hc=>?_)
  ·have hi1 : i < txs.length:=by have:=of_decide_eq_true hc;omega
   clear hc
   have h1y : txs[i]? = some txs[i]:=List.getElem?_eq_getElem hi1
   have hmy : txs[i]∈txs:=List.getElem_mem hi1
   have hdy : txs.drop i = txs[i] :: txs.drop (i + 1):=List.drop_eq_getElem_cons hi1
   generalize txs[i] = y at h1y hmy hdy
   obtain ⟨hap,hyl⟩:=hw
   rw [hdy,Tm.woL] at hap
   have hx:=ih y c1 (hxN y hmy) (hxO y hmy) (hxS y hmy)
   generalize y.wo c1 = o at hx hap
   obtain ⟨z,q,c2⟩:=o
   dsimp only at hx hap
   obtain ⟨yk,yn,ya,yb,yvs,yxs,ycs⟩:=y
   obtain ⟨zk,zn,za,zb,zvs,zxs,zcs⟩:=z
   refine AWp.skip ?_
   refine AWp.rg [] [] ?_ (hr:=by conv=>lhs;simp [Tm.row,Tm.Q3,Cs.Q3,h1y,h8,q2])
   refine AWp.rg [] [.c [] [.agg [.d (.int yk),.d (.int yn),.d (.str ya),.d (.str yb),.d (Q7 yvs),.d (.sl (yxs.map Tm.row)),.d (.sl (ycs.map Cs.row))],.ptr 1000 0] [(1000,.blk 3 [.d (.int c1)])] (.tuple [.agg [.d (.int zk),.d (.int zn),.d (.str za),.d (.str zb),.d (Q7 zvs),.d (.sl (zxs.map Tm.row)),.d (.sl (zcs.map Cs.row))],.d (.bool q)]) [(1000,.blk 3 [.d (.int c2)])]] ?_ (hr:=by conv=>lhs;simp [Tm.row,Tm.Q3,Cs.Q3,h1y,h8,q2])
   cases ga with
   | true =>
    refine AWp.rg [] [] ?_ (hr:=by conv=>lhs;simp [Tm.row,Tm.Q3,Cs.Q3,h1y,h8,q2])
    refine AWp.rg [] [] ?_ (hr:=by conv=>lhs;simp [Tm.row,Tm.Q3,Cs.Q3,h1y,h8,q2])
    refine AWp.rg [] [] ?_ (hr:=by conv=>lhs;simp [Tm.row,Tm.Q3,Cs.Q3,h1y,h8,q2])
    refine ⟨⟨(i + 1,ys ++ [.mk zk zn za zb zvs zxs zcs],c2,true),hi1,⟨by rw [hap];simp,by simp [hyl]⟩⟩,by simp;omega,?_⟩
    dsimp only
    exact Le.sub (by simp [Tm.row,Tm.Q3,Cs.Q3,hyl]) (by simp [Tm.row,Tm.Q3,Cs.Q3,hyl])
   | false =>
    refine AWp.rg [] [] ?_ (hr:=by conv=>lhs;simp [Tm.row,Tm.Q3,Cs.Q3,h1y,h8,q2])
    refine AWp.rg [] [] ?_ (hr:=by conv=>lhs;simp [Tm.row,Tm.Q3,Cs.Q3,h1y,h8,q2])
    refine AWp.rg [] [] ?_ (hr:=by conv=>lhs;simp [Tm.row,Tm.Q3,Cs.Q3,h1y,h8,q2])
    refine ⟨⟨(i + 1,ys ++ [.mk zk zn za zb zvs zxs zcs],c2,q),hi1,⟨by rw [hap];simp,by simp [hyl]⟩⟩,by simp;omega,?_⟩
    dsimp only
    exact Le.sub (by simp [Tm.row,Tm.Q3,Cs.Q3,hyl]) (by simp [Tm.row,Tm.Q3,Cs.Q3,hyl])
  have hi1 : i = txs.length:=by have:=of_decide_eq_false hc;omega
  subst hi1
  clear hc
  obtain ⟨hap,hyl⟩:=hw
  rw [List.drop_length,Tm.woL] at hap
  simp only [List.append_nil,Bool.or_false] at hap
  rw [hap] at hR
  dsimp only at hR
  clear hap
  refine AWp.exit ?_
  refine AWp.rg [] [] ?_ (hr:=by conv=>lhs;simp [Tm.row,Tm.Q3,Cs.Q3,h8,q2])
  repeat (first | refine AWp.seq ?_ | refine AWp.block ?_)
  refine AWp.le (Le.low [401] [] (fr:=[(1,.ptr 1000 0),(4,.ptr 4 0),(6,.ptr 6 0),(7,.d (.bool (ga : Bool))),(72,.d (.sl (tcs.map Cs.row))),(73,.d (.int (tcs.length : Int))),(74,.d (.int (0 : Int)))]) (mem:=[(4,some (.blk 32 [.d (.int 0),.d (.int 0),.d (.str ByteArray.empty),.d (.str ByteArray.empty),.lit (.slice none 0 0),.lit (.slice none 0 0),.lit (.slice none 0 0)])),(6,some (.blk 32 [.d (.int 9),.d (.int tn),.d (.str ta),.d (.str tb),.d (Q7 tvs),.arr 400 0 ys.length,.arr 401 0 ([] : List Cs).length])),(400,some (.arr 32 7 (ys.map Tm.row))),(401,some (.arr 42 9 (([] : List Cs).map Cs.row))),(1000,some (.blk 3 [.d (.int (c1 : Int))]))]) rfl (by simp) (by simp)) ?_
  refine AWp.loop (σ:=fun u : {u : Nat×List Cs×Int×Bool // u.1≤tcs.length∧((Cs.woL tcs c1).1 = u.2.1 ++ (Cs.woL (tcs.drop u.1) u.2.2.1).1∧(ga || (Cs.woL tcs c1).2.1) = (u.2.2.2 || (Cs.woL (tcs.drop u.1) u.2.2.1).2.1)∧(Cs.woL tcs c1).2.2 = (Cs.woL (tcs.drop u.1) u.2.2.1).2.2∧u.2.1.length = u.1)}=>⟨103,[(1,.ptr 1000 0),(4,.ptr 4 0),(6,.ptr 6 0),(7,.d (.bool u.1.2.2.2)),(72,.d (.sl (tcs.map Cs.row))),(73,.d (.int (tcs.length : Int))),(74,.d (.int (u.1.1 : Int)))],[(4,some (.blk 32 [.d (.int 0),.d (.int 0),.d (.str ByteArray.empty),.d (.str ByteArray.empty),.lit (.slice none 0 0),.lit (.slice none 0 0),.lit (.slice none 0 0)])),(6,some (.blk 32 [.d (.int 9),.d (.int tn),.d (.str ta),.d (.str tb),.d (Q7 tvs),.arr 400 0 ys.length,.arr 401 0 u.1.2.1.length])),(400,some (.arr 32 7 (ys.map Tm.row))),(401,some (.arr 42 9 (u.1.2.1.map Cs.row))),(1000,some (.blk 3 [.d (.int u.1.2.2.1)]))]⟩)
   (μ:=fun u=>tcs.length - u.1.1) ⟨(0,[],c1,ga),⟨Nat.zero_le _,⟨by simp,rfl,rfl,rfl⟩⟩⟩ (Le.sub (by simp) (by simp)) (fun ⟨(i,ds,c3,gb),⟨hi17,hw2⟩⟩=>?_)
  dsimp only at hi17 hw2 ⊢
  refine AWp.rg [] [] ?_ (hr:=by conv=>lhs;simp [Tm.row,Tm.Q3,Cs.Q3,h8,q2])
  repeat (first | refine AWp.seq ?_ | refine AWp.block ?_)
  refine AWp.cond rfl (fun hc=>?_) (fun hc=>?_)
  ·have hi1 : i < tcs.length:=by have:=of_decide_eq_true hc;omega
   clear hc
   have h1d : tcs[i]? = some tcs[i]:=List.getElem?_eq_getElem hi1
   have hmd : tcs[i]∈tcs:=List.getElem_mem hi1
   have hdd : tcs.drop i = tcs[i] :: tcs.drop (i + 1):=List.drop_eq_getElem_cons hi1
   generalize tcs[i] = d at h1d hmd hdd
   obtain ⟨hap,hq2,hc2,hdl⟩:=hw2
   have hdd2:=hcN d hmd
   have hdO:=hcO d hmd
   have hdS:=hcS d hmd
   obtain ⟨dt,dws,y⟩:=d
   rw [hdd,Cs.woL,Cs.wo] at hap hq2 hc2
   rw [Cs.sz] at hdd2
   have hx:=ih y c3 (by omega) hdO.2.2 hdS
   generalize y.wo c3 = o at hx hap hq2 hc2
   obtain ⟨z,q,c2⟩:=o
   dsimp only at hx hap hq2 hc2
   obtain ⟨yk,yn,ya,yb,yvs,yxs,ycs⟩:=y
   obtain ⟨zk,zn,za,zb,zvs,zxs,zcs⟩:=z
   refine AWp.skip ?_
   refine AWp.rg [] [] ?_ (hr:=by conv=>lhs;simp [Tm.row,Tm.Q3,Cs.Q3,h1d,Cs.row,h8,q2])
   refine AWp.rg [] [.c [] [.agg [.d (.int yk),.d (.int yn),.d (.str ya),.d (.str yb),.d (Q7 yvs),.d (.sl (yxs.map Tm.row)),.d (.sl (ycs.map Cs.row))],.ptr 1000 0] [(1000,.blk 3 [.d (.int c3)])] (.tuple [.agg [.d (.int zk),.d (.int zn),.d (.str za),.d (.str zb),.d (Q7 zvs),.d (.sl (zxs.map Tm.row)),.d (.sl (zcs.map Cs.row))],.d (.bool q)]) [(1000,.blk 3 [.d (.int c2)])]] ?_ (hr:=by conv=>lhs;simp [Tm.row,Tm.Q3,Cs.Q3,h1d,Cs.row,h8,q2])
   cases gb with
   | true =>
    refine AWp.rg [] [] ?_ (hr:=by conv=>lhs;simp [Tm.row,Tm.Q3,Cs.Q3,h1d,Cs.row,h8,q2])
    refine AWp.rg [] [] ?_ (hr:=by conv=>lhs;simp [Tm.row,Tm.Q3,Cs.Q3,h1d,Cs.row,h8,q2])
    refine AWp.rg [] [] ?_ (hr:=by conv=>lhs;simp [Tm.row,Tm.Q3,Cs.Q3,h1d,Cs.row,h8,q2])
    refine ⟨⟨(i + 1,ds ++ [.mk dt dws (.mk zk zn za zb zvs zxs zcs)],c2,true),hi1,⟨by rw [hap];simp,by rw [hq2];simp,hc2,by simp [hdl]⟩⟩,by simp;omega,?_⟩
    dsimp only
    exact Le.sub (by simp [Cs.row,Tm.row,Tm.Q3,Cs.Q3,hdl]) (by simp [Cs.row,Tm.row,Tm.Q3,Cs.Q3,hdl])
   | false =>
    refine AWp.rg [] [] ?_ (hr:=by conv=>lhs;simp [Tm.row,Tm.Q3,Cs.Q3,h1d,Cs.row,h8,q2])
    refine AWp.rg [] [] ?_ (hr:=by conv=>lhs;simp [Tm.row,Tm.Q3,Cs.Q3,h1d,Cs.row,h8,q2])
    refine AWp.rg [] [] ?_ (hr:=by conv=>lhs;simp [Tm.row,Tm.Q3,Cs.Q3,h1d,Cs.row,h8,q2])
    refine ⟨⟨(i + 1,ds ++ [.mk dt dws (.mk zk zn za zb zvs zxs zcs)],c2,q),hi1,⟨by rw [hap];simp,by rw [hq2];simp,hc2,by simp [hdl]⟩⟩,by simp;omega,?_⟩
    dsimp only
    exact Le.sub (by simp [Cs.row,Tm.row,Tm.Q3,Cs.Q3,hdl]) (by simp [Cs.row,Tm.row,Tm.Q3,Cs.Q3,hdl])
  have hi1 : i = tcs.length:=by have:=of_decide_eq_false hc;omega
  subst hi1
  clear hc
  obtain ⟨hap,hq2,hc2,hdl⟩:=hw2
  rw [List.drop_length,Cs.woL] at hap hq2 hc2
  simp only [List.append_nil,Bool.or_false] at hap hq2 hc2
  rw [hap,hq2,hc2] at hR
  subst hR
  refine AWp.exit ?_
  refine AWp.rg [] [] ?_ (hr:=by conv=>lhs;simp [Tm.row,Tm.Q3,Cs.Q3,h8,q2])
  refine AWp.ret ?_
  try dsimp only [Qq,Q8]
  apply Qv.Qq1 [400,401]
  ·rfl
  ·conv=>lhs;simp
  ·conv=>lhs;simp [Q9,Tryd.results26]
  ·rfl
  ·simp [Qj,Q4]
 by_cases h13 : tk = 13
 ·have hg : tk = 8∨tk = 9∨tk = 13:=by omega
  obtain ⟨x,hxy⟩:=hS.1 hg
  have h0x : txs[0]? = some x:=by rw [hxy];rfl
  simp only [if_pos hg] at hR
  refine AWp.rg [] [] ?_ (hr:=by conv=>lhs;simp [Tm.row,Tm.Q3,Cs.Q3,h0x,h8,h9,h13])
  refine AWp.cy ?_
  by_cases q3 : c = 0
  ·refine AWp.rg [] [] ?_ (hr:=by conv=>lhs;simp [Tm.row,Tm.Q3,Cs.Q3,h0x,h8,h9,h13,q3])
   refine AWp.cy ?_
   have hc0 : c = 0:=q3
   rw [if_pos ⟨hg,hc0⟩] at hR
   have hhx : hdT0 txs = x:=by rw [hxy];rfl
   rw [hhx] at hR
   obtain ⟨xk,xn,xa,xb,xvs,xxs,xcs⟩:=x
   subst hR
   refine AWp.rg [] [] ?_ (hr:=by conv=>lhs;simp [Tm.row,Tm.Q3,Cs.Q3,h0x,h8,h9,h13,q3])
   refine AWp.rg [] [] ?_ (hr:=by conv=>lhs;simp [Tm.row,Tm.Q3,Cs.Q3,h0x,h8,h9,h13,q3])
   refine AWp.ret ?_
   try dsimp only [Qq,Q8]
   apply Qv.ret
   ·rfl
   ·conv=>lhs;simp [Q9,Tryd.results26]
   ·rfl
   ·simp [Qj,Q4]
  refine AWp.rg [] [] ?_ (hr:=by conv=>lhs;simp [Tm.row,Tm.Q3,Cs.Q3,h0x,h8,h9,h13,q3])
  refine AWp.cn ?_
  refine AWp.skip ?_
  rw [if_neg (fun h=>q3 h.2)] at hR
  refine AWp.rg [3] [] ?_ (hr:=by conv=>lhs;simp [Tm.row,Tm.Q3,Cs.Q3,h0x,h8,h9,h13,q3])
  subst h13
  obtain ⟨e,he⟩ : ∃ e : Int,wr (c - 1) = e:=⟨_,rfl⟩
  rw [he] at hR
  rw [he]
  refine AWp.rg [] [] ?_ (hr:=by conv=>lhs;simp [Tm.row,Tm.Q3,Cs.Q3,h8,h9,q3])
  refine AWp.rg [] [] ?_ (hr:=by conv=>lhs;simp [Tm.row,Tm.Q3,Cs.Q3,h8,h9,q3])
  refine AWp.rg [] [] ?_ (hr:=by conv=>lhs;simp [Tm.row,Tm.Q3,Cs.Q3,h8,h9,q3])
  refine AWp.rg [] [] ?_ (hr:=by conv=>lhs;simp [Tm.row,Tm.Q3,Cs.Q3,h8,h9,q3])
  repeat (first | refine AWp.seq ?_ | refine AWp.block ?_)
  refine AWp.le (Le.low [400] [] (fr:=[(1,.ptr 1000 0),(2,.ptr 2 0),(4,.ptr 4 0),(6,.ptr 6 0),(7,.d (.bool (false : Bool))),(48,.d (.sl (txs.map Tm.row))),(49,.d (.int (txs.length : Int))),(50,.d (.int (0 : Int)))]) (mem:=[(2,some (.blk 32 [.d (.int 13),.d (.int tn),.d (.str ta),.d (.str tb),.d (Q7 tvs),.d (.sl (txs.map Tm.row)),.d (.sl (tcs.map Cs.row))])),(4,some (.blk 32 [.d (.int 0),.d (.int 0),.d (.str ByteArray.empty),.d (.str ByteArray.empty),.lit (.slice none 0 0),.lit (.slice none 0 0),.lit (.slice none 0 0)])),(6,some (.blk 32 [.d (.int 13),.d (.int tn),.d (.str ta),.d (.str tb),.d (Q7 tvs),.arr 400 0 ([] : List Tm).length,.lit (.slice none 0 0)])),(400,some (.arr 32 7 (([] : List Tm).map Tm.row))),(1000,some (.blk 3 [.d (.int (e : Int))]))]) rfl (by simp) (by simp)) ?_
  refine AWp.loop (σ:=fun u : {u : Nat×List Tm×Int×Bool // u.1≤txs.length∧(Tm.woL txs e = (u.2.1 ++ (Tm.woL (txs.drop u.1) u.2.2.1).1,u.2.2.2 || (Tm.woL (txs.drop u.1) u.2.2.1).2.1,(Tm.woL (txs.drop u.1) u.2.2.1).2.2)∧u.2.1.length = u.1)}=>⟨103,[(1,.ptr 1000 0),(2,.ptr 2 0),(4,.ptr 4 0),(6,.ptr 6 0),(7,.d (.bool u.1.2.2.2)),(48,.d (.sl (txs.map Tm.row))),(49,.d (.int (txs.length : Int))),(50,.d (.int (u.1.1 : Int)))],[(2,some (.blk 32 [.d (.int 13),.d (.int tn),.d (.str ta),.d (.str tb),.d (Q7 tvs),.d (.sl (txs.map Tm.row)),.d (.sl (tcs.map Cs.row))])),(4,some (.blk 32 [.d (.int 0),.d (.int 0),.d (.str ByteArray.empty),.d (.str ByteArray.empty),.lit (.slice none 0 0),.lit (.slice none 0 0),.lit (.slice none 0 0)])),(6,some (.blk 32 [.d (.int 13),.d (.int tn),.d (.str ta),.d (.str tb),.d (Q7 tvs),.arr 400 0 u.1.2.1.length,.lit (.slice none 0 0)])),(400,some (.arr 32 7 (u.1.2.1.map Tm.row))),(1000,some (.blk 3 [.d (.int u.1.2.2.1)]))]⟩)
   (μ:=fun u=>txs.length - u.1.1) ⟨(0,[],e,false),⟨Nat.zero_le _,⟨by simp,rfl⟩⟩⟩ (Le.sub (by simp) (by simp)) (fun ⟨(i,ys,c1,ga),⟨hi10,hw⟩⟩=>?_)
  dsimp only at hi10 hw ⊢
  refine AWp.rg [] [] ?_ (hr:=by conv=>lhs;simp [Tm.row,Tm.Q3,Cs.Q3,h8,h9,q3])
  repeat (first | refine AWp.seq ?_ | refine AWp.block ?_)
  refine AWp.cond rfl (fun hc=>?_) (fun hc=>?_)
  ·have hi1 : i < txs.length:=by have:=of_decide_eq_true hc;omega
   clear hc
   have h1y : txs[i]? = some txs[i]:=List.getElem?_eq_getElem hi1
   have hmy : txs[i]∈txs:=List.getElem_mem hi1
   have hdy : txs.drop i = txs[i] :: txs.drop (i + 1):=List.drop_eq_getElem_cons hi1
   generalize txs[i] = y at h1y hmy hdy
   obtain ⟨hap,hyl⟩:=hw
   rw [hdy,Tm.woL] at hap
   have hx:=ih y c1 (hxN y hmy) (hxO y hmy) (hxS y hmy)
   generalize y.wo c1 = o at hx hap
   obtain ⟨z,q,c2⟩:=o
   dsimp only at hx hap
   obtain ⟨yk,yn,ya,yb,yvs,yxs,ycs⟩:=y
   obtain ⟨zk,zn,za,zb,zvs,zxs,zcs⟩:=z
   refine AWp.skip ?_
   refine AWp.rg [] [] ?_ (hr:=by conv=>lhs;simp [Tm.row,Tm.Q3,Cs.Q3,h1y,h8,h9,q3])
   refine AWp.rg [] [.c [] [.agg [.d (.int yk),.d (.int yn),.d (.str ya),.d (.str yb),.d (Q7 yvs),.d (.sl (yxs.map Tm.row)),.d (.sl (ycs.map Cs.row))],.ptr 1000 0] [(1000,.blk 3 [.d (.int c1)])] (.tuple [.agg [.d (.int zk),.d (.int zn),.d (.str za),.d (.str zb),.d (Q7 zvs),.d (.sl (zxs.map Tm.row)),.d (.sl (zcs.map Cs.row))],.d (.bool q)]) [(1000,.blk 3 [.d (.int c2)])]] ?_ (hr:=by conv=>lhs;simp [Tm.row,Tm.Q3,Cs.Q3,h1y,h8,h9,q3])
   cases ga with
   | true =>
    refine AWp.rg [] [] ?_ (hr:=by conv=>lhs;simp [Tm.row,Tm.Q3,Cs.Q3,h1y,h8,h9,q3])
    refine AWp.rg [] [] ?_ (hr:=by conv=>lhs;simp [Tm.row,Tm.Q3,Cs.Q3,h1y,h8,h9,q3])
    refine AWp.rg [] [] ?_ (hr:=by conv=>lhs;simp [Tm.row,Tm.Q3,Cs.Q3,h1y,h8,h9,q3])
    refine ⟨⟨(i + 1,ys ++ [.mk zk zn za zb zvs zxs zcs],c2,true),hi1,⟨by rw [hap];simp,by simp [hyl]⟩⟩,by simp;omega,?_⟩
    dsimp only
    exact Le.sub (by simp [Tm.row,Tm.Q3,Cs.Q3,hyl]) (by simp [Tm.row,Tm.Q3,Cs.Q3,hyl])
   | false =>
    refine AWp.rg [] [] ?_ (hr:=by conv=>lhs;simp [Tm.row,Tm.Q3,Cs.Q3,h1y,h8,h9,q3])
    refine AWp.rg [] [] ?_ (hr:=by conv=>lhs;simp [Tm.row,Tm.Q3,Cs.Q3,h1y,h8,h9,q3])
    refine AWp.rg [] [] ?_ (hr:=by conv=>lhs;simp [Tm.row,Tm.Q3,Cs.Q3,h1y,h8,h9,q3])
    refine ⟨⟨(i + 1,ys ++ [.mk zk zn za zb zvs zxs zcs],c2,q),hi1,⟨by rw [hap];simp,by simp [hyl]⟩⟩,by simp;omega,?_⟩
    dsimp only
    exact Le.sub (by simp [Tm.row,Tm.Q3,Cs.Q3,hyl]) (by simp [Tm.row,Tm.Q3,Cs.Q3,hyl])
  have hi1 : i = txs.length:=by have:=of_decide_eq_false hc;omega
  subst hi1
  clear hc
  obtain ⟨hap,hyl⟩:=hw
  rw [List.drop_length,Tm.woL] at hap
  simp only [List.append_nil,Bool.or_false] at hap
  rw [hap] at hR
  dsimp only at hR
  clear hap
  refine AWp.exit ?_
  refine AWp.rg [] [] ?_ (hr:=by conv=>lhs;simp [Tm.row,Tm.Q3,Cs.Q3,h8,h9,q3])
  repeat (first | refine AWp.seq ?_ | refine AWp.block ?_)
  refine AWp.le (Le.low [401] [] (fr:=[(1,.ptr 1000 0),(4,.ptr 4 0),(6,.ptr 6 0),(7,.d (.bool (ga : Bool))),(72,.d (.sl (tcs.map Cs.row))),(73,.d (.int (tcs.length : Int))),(74,.d (.int (0 : Int)))]) (mem:=[(4,some (.blk 32 [.d (.int 0),.d (.int 0),.d (.str ByteArray.empty),.d (.str ByteArray.empty),.lit (.slice none 0 0),.lit (.slice none 0 0),.lit (.slice none 0 0)])),(6,some (.blk 32 [.d (.int 13),.d (.int tn),.d (.str ta),.d (.str tb),.d (Q7 tvs),.arr 400 0 ys.length,.arr 401 0 ([] : List Cs).length])),(400,some (.arr 32 7 (ys.map Tm.row))),(401,some (.arr 42 9 (([] : List Cs).map Cs.row))),(1000,some (.blk 3 [.d (.int (c1 : Int))]))]) rfl (by simp) (by simp)) ?_
  refine AWp.loop (σ:=fun u : {u : Nat×List Cs×Int×Bool // u.1≤tcs.length∧((Cs.woL tcs c1).1 = u.2.1 ++ (Cs.woL (tcs.drop u.1) u.2.2.1).1∧(ga || (Cs.woL tcs c1).2.1) = (u.2.2.2 || (Cs.woL (tcs.drop u.1) u.2.2.1).2.1)∧(Cs.woL tcs c1).2.2 = (Cs.woL (tcs.drop u.1) u.2.2.1).2.2∧u.2.1.length = u.1)}=>⟨103,[(1,.ptr 1000 0),(4,.ptr 4 0),(6,.ptr 6 0),(7,.d (.bool u.1.2.2.2)),(72,.d (.sl (tcs.map Cs.row))),(73,.d (.int (tcs.length : Int))),(74,.d (.int (u.1.1 : Int)))],[(4,some (.blk 32 [.d (.int 0),.d (.int 0),.d (.str ByteArray.empty),.d (.str ByteArray.empty),.lit (.slice none 0 0),.lit (.slice none 0 0),.lit (.slice none 0 0)])),(6,some (.blk 32 [.d (.int 13),.d (.int tn),.d (.str ta),.d (.str tb),.d (Q7 tvs),.arr 400 0 ys.length,.arr 401 0 u.1.2.1.length])),(400,some (.arr 32 7 (ys.map Tm.row))),(401,some (.arr 42 9 (u.1.2.1.map Cs.row))),(1000,some (.blk 3 [.d (.int u.1.2.2.1)]))]⟩)
   (μ:=fun u=>tcs.length - u.1.1) ⟨(0,[],c1,ga),⟨Nat.zero_le _,⟨by simp,rfl,rfl,rfl⟩⟩⟩ (Le.sub (by simp) (by simp)) (fun ⟨(i,ds,c3,gb),⟨hi17,hw2⟩⟩=>?_)
  dsimp only at hi17 hw2 ⊢
  refine AWp.rg [] [] ?_ (hr:=by conv=>lhs;simp [Tm.row,Tm.Q3,Cs.Q3,h8,h9,q3])
  repeat (first | refine AWp.seq ?_ | refine AWp.block ?_)
  refine AWp.cond rfl (fun hc=>?_) (fun hc=>?_)
  ·have hi1 : i < tcs.length:=by have:=of_decide_eq_true hc;omega
   clear hc
   have h1d : tcs[i]? = some tcs[i]:=List.getElem?_eq_getElem hi1
   have hmd : tcs[i]∈tcs:=List.getElem_mem hi1
   have hdd : tcs.drop i = tcs[i] :: tcs.drop (i + 1):=List.drop_eq_getElem_cons hi1
   generalize tcs[i] = d at h1d hmd hdd
   obtain ⟨hap,hq2,hc2,hdl⟩:=hw2
   have hdd2:=hcN d hmd
   have hdO:=hcO d hmd
   have hdS:=hcS d hmd
   obtain ⟨dt,dws,y⟩:=d
   rw [hdd,Cs.woL,Cs.wo] at hap hq2 hc2
   rw [Cs.sz] at hdd2
   have hx:=ih y c3 (by omega) hdO.2.2 hdS
   generalize y.wo c3 = o at hx hap hq2 hc2
   obtain ⟨z,q,c2⟩:=o
   dsimp only at hx hap hq2 hc2
   obtain ⟨yk,yn,ya,yb,yvs,yxs,ycs⟩:=y
   obtain ⟨zk,zn,za,zb,zvs,zxs,zcs⟩:=z
   refine AWp.skip ?_
   refine AWp.rg [] [] ?_ (hr:=by conv=>lhs;simp [Tm.row,Tm.Q3,Cs.Q3,h1d,Cs.row,h8,h9,q3])
   refine AWp.rg [] [.c [] [.agg [.d (.int yk),.d (.int yn),.d (.str ya),.d (.str yb),.d (Q7 yvs),.d (.sl (yxs.map Tm.row)),.d (.sl (ycs.map Cs.row))],.ptr 1000 0] [(1000,.blk 3 [.d (.int c3)])] (.tuple [.agg [.d (.int zk),.d (.int zn),.d (.str za),.d (.str zb),.d (Q7 zvs),.d (.sl (zxs.map Tm.row)),.d (.sl (zcs.map Cs.row))],.d (.bool q)]) [(1000,.blk 3 [.d (.int c2)])]] ?_ (hr:=by conv=>lhs;simp [Tm.row,Tm.Q3,Cs.Q3,h1d,Cs.row,h8,h9,q3])
   cases gb with
   | true =>
    refine AWp.rg [] [] ?_ (hr:=by conv=>lhs;simp [Tm.row,Tm.Q3,Cs.Q3,h1d,Cs.row,h8,h9,q3])
    refine AWp.rg [] [] ?_ (hr:=by conv=>lhs;simp [Tm.row,Tm.Q3,Cs.Q3,h1d,Cs.row,h8,h9,q3])
    refine AWp.rg [] [] ?_ (hr:=by conv=>lhs;simp [Tm.row,Tm.Q3,Cs.Q3,h1d,Cs.row,h8,h9,q3])
    refine ⟨⟨(i + 1,ds ++ [.mk dt dws (.mk zk zn za zb zvs zxs zcs)],c2,true),hi1,⟨by rw [hap];simp,by rw [hq2];simp,hc2,by simp [hdl]⟩⟩,by simp;omega,?_⟩
    dsimp only
    exact Le.sub (by simp [Cs.row,Tm.row,Tm.Q3,Cs.Q3,hdl]) (by simp [Cs.row,Tm.row,Tm.Q3,Cs.Q3,hdl])
   | false =>
    refine AWp.rg [] [] ?_ (hr:=by conv=>lhs;simp [Tm.row,Tm.Q3,Cs.Q3,h1d,Cs.row,h8,h9,q3])
    refine AWp.rg [] [] ?_ (hr:=by conv=>lhs;simp [Tm.row,Tm.Q3,Cs.Q3,h1d,Cs.row,h8,h9,q3])
    refine AWp.rg [] [] ?_ (hr:=by conv=>lhs;simp [Tm.row,Tm.Q3,Cs.Q3,h1d,Cs.row,h8,h9,q3])
    refine ⟨⟨(i + 1,ds ++ [.mk dt dws (.mk zk zn za zb zvs zxs zcs)],c2,q),hi1,⟨by rw [hap];simp,by rw [hq2];simp,hc2,by simp [hdl]⟩⟩,by simp;omega,?_⟩
    dsimp only
    exact Le.sub (by simp [Cs.row,Tm.row,Tm.Q3,Cs.Q3,hdl]) (by simp [Cs.row,Tm.row,Tm.Q3,Cs.Q3,hdl])
  have hi1 : i = tcs.length:=by have:=of_decide_eq_false hc;omega
  subst hi1
  clear hc
  obtain ⟨hap,hq2,hc2,hdl⟩:=hw2
  rw [List.drop_length,Cs.woL] at hap hq2 hc2
  simp only [List.append_nil,Bool.or_false] at hap hq2 hc2
  rw [hap,hq2,hc2] at hR
  subst hR
  refine AWp.exit ?_
  refine AWp.rg [] [] ?_ (hr:=by conv=>lhs;simp [Tm.row,Tm.Q3,Cs.Q3,h8,h9,q3])
  refine AWp.ret ?_
  try dsimp only [Qq,Q8]
  apply Qv.Qq1 [400,401]
  ·rfl
  ·conv=>lhs;simp
  ·conv=>lhs;simp [Q9,Tryd.results26]
  ·rfl
  ·simp [Qj,Q4]
 have hg : ¬ (tk = 8∨tk = 9∨tk = 13):=by omega
 simp only [if_neg hg] at hR
 rw [if_neg (fun h=>hg h.1)] at hR
 refine AWp.rg [] [] ?_ (hr:=by conv=>lhs;simp [Tm.row,Tm.Q3,Cs.Q3,h8,h9,h13])
 refine AWp.cn ?_
 refine AWp.skip ?_
 refine AWp.rg [] [] ?_ (hr:=by conv=>lhs;simp [Tm.row,Tm.Q3,Cs.Q3,h8,h9,h13])
 refine AWp.rg [] [] ?_ (hr:=by conv=>lhs;simp [Tm.row,Tm.Q3,Cs.Q3,h8,h9,h13])
 refine AWp.rg [] [] ?_ (hr:=by conv=>lhs;simp [Tm.row,Tm.Q3,Cs.Q3,h8,h9,h13])
 refine AWp.rg [] [] ?_ (hr:=by conv=>lhs;simp [Tm.row,Tm.Q3,Cs.Q3,h8,h9,h13])
 repeat (first | refine AWp.seq ?_ | refine AWp.block ?_)
 refine AWp.le (Le.low [400] [] (fr:=[(1,.ptr 1000 0),(2,.ptr 2 0),(4,.ptr 4 0),(6,.ptr 6 0),(7,.d (.bool (false : Bool))),(48,.d (.sl (txs.map Tm.row))),(49,.d (.int (txs.length : Int))),(50,.d (.int (0 : Int)))]) (mem:=[(2,some (.blk 32 [.d (.int tk),.d (.int tn),.d (.str ta),.d (.str tb),.d (Q7 tvs),.d (.sl (txs.map Tm.row)),.d (.sl (tcs.map Cs.row))])),(4,some (.blk 32 [.d (.int 0),.d (.int 0),.d (.str ByteArray.empty),.d (.str ByteArray.empty),.lit (.slice none 0 0),.lit (.slice none 0 0),.lit (.slice none 0 0)])),(6,some (.blk 32 [.d (.int tk),.d (.int tn),.d (.str ta),.d (.str tb),.d (Q7 tvs),.arr 400 0 ([] : List Tm).length,.lit (.slice none 0 0)])),(400,some (.arr 32 7 (([] : List Tm).map Tm.row))),(1000,some (.blk 3 [.d (.int (c : Int))]))]) rfl (by simp) (by simp)) ?_
 refine AWp.loop (σ:=fun u : {u : Nat×List Tm×Int×Bool // u.1≤txs.length∧(Tm.woL txs c = (u.2.1 ++ (Tm.woL (txs.drop u.1) u.2.2.1).1,u.2.2.2 || (Tm.woL (txs.drop u.1) u.2.2.1).2.1,(Tm.woL (txs.drop u.1) u.2.2.1).2.2)∧u.2.1.length = u.1)}=>⟨103,[(1,.ptr 1000 0),(2,.ptr 2 0),(4,.ptr 4 0),(6,.ptr 6 0),(7,.d (.bool u.1.2.2.2)),(48,.d (.sl (txs.map Tm.row))),(49,.d (.int (txs.length : Int))),(50,.d (.int (u.1.1 : Int)))],[(2,some (.blk 32 [.d (.int tk),.d (.int tn),.d (.str ta),.d (.str tb),.d (Q7 tvs),.d (.sl (txs.map Tm.row)),.d (.sl (tcs.map Cs.row))])),(4,some (.blk 32 [.d (.int 0),.d (.int 0),.d (.str ByteArray.empty),.d (.str ByteArray.empty),.lit (.slice none 0 0),.lit (.slice none 0 0),.lit (.slice none 0 0)])),(6,some (.blk 32 [.d (.int tk),.d (.int tn),.d (.str ta),.d (.str tb),.d (Q7 tvs),.arr 400 0 u.1.2.1.length,.lit (.slice none 0 0)])),(400,some (.arr 32 7 (u.1.2.1.map Tm.row))),(1000,some (.blk 3 [.d (.int u.1.2.2.1)]))]⟩)
  (μ:=fun u=>txs.length - u.1.1) ⟨(0,[],c,false),⟨Nat.zero_le _,⟨by simp,rfl⟩⟩⟩ (Le.sub (by simp) (by simp)) (fun ⟨(i,ys,c1,ga),⟨hi10,hw⟩⟩=>?_)
 dsimp only at hi10 hw ⊢
 refine AWp.rg [] [] ?_ (hr:=by conv=>lhs;simp [Tm.row,Tm.Q3,Cs.Q3,h8,h9,h13])
 repeat (first | refine AWp.seq ?_ | refine AWp.block ?_)
 refine AWp.cond rfl (fun hc=>?_) (fun hc=>?_)
 ·have hi1 : i < txs.length:=by have:=of_decide_eq_true hc;omega
  clear hc
  have h1y : txs[i]? = some txs[i]:=List.getElem?_eq_getElem hi1
  have hmy : txs[i]∈txs:=List.getElem_mem hi1
  have hdy : txs.drop i = txs[i] :: txs.drop (i + 1):=List.drop_eq_getElem_cons hi1
  generalize txs[i] = y at h1y hmy hdy
  obtain ⟨hap,hyl⟩:=hw
  rw [hdy,Tm.woL] at hap
  have hx:=ih y c1 (hxN y hmy) (hxO y hmy) (hxS y hmy)
  generalize y.wo c1 = o at hx hap
  obtain ⟨z,q,c2⟩:=o
  dsimp only at hx hap
  obtain ⟨yk,yn,ya,yb,yvs,yxs,ycs⟩:=y
  obtain ⟨zk,zn,za,zb,zvs,zxs,zcs⟩:=z
  refine AWp.skip ?_
  refine AWp.rg [] [] ?_ (hr:=by conv=>lhs;simp [Tm.row,Tm.Q3,Cs.Q3,h1y,h8,h9,h13])
  refine AWp.rg [] [.c [] [.agg [.d (.int yk),.d (.int yn),.d (.str ya),.d (.str yb),.d (Q7 yvs),.d (.sl (yxs.map Tm.row)),.d (.sl (ycs.map Cs.row))],.ptr 1000 0] [(1000,.blk 3 [.d (.int c1)])] (.tuple [.agg [.d (.int zk),.d (.int zn),.d (.str za),.d (.str zb),.d (Q7 zvs),.d (.sl (zxs.map Tm.row)),.d (.sl (zcs.map Cs.row))],.d (.bool q)]) [(1000,.blk 3 [.d (.int c2)])]] ?_ (hr:=by conv=>lhs;simp [Tm.row,Tm.Q3,Cs.Q3,h1y,h8,h9,h13])
  cases ga with
  | true =>
   refine AWp.rg [] [] ?_ (hr:=by conv=>lhs;simp [Tm.row,Tm.Q3,Cs.Q3,h1y,h8,h9,h13])
   refine AWp.rg [] [] ?_ (hr:=by conv=>lhs;simp [Tm.row,Tm.Q3,Cs.Q3,h1y,h8,h9,h13])
   refine AWp.rg [] [] ?_ (hr:=by conv=>lhs;simp [Tm.row,Tm.Q3,Cs.Q3,h1y,h8,h9,h13])
   refine ⟨⟨(i + 1,ys ++ [.mk zk zn za zb zvs zxs zcs],c2,true),hi1,⟨by rw [hap];simp,by simp [hyl]⟩⟩,by simp;omega,?_⟩
   dsimp only
   exact Le.sub (by simp [Tm.row,Tm.Q3,Cs.Q3,hyl]) (by simp [Tm.row,Tm.Q3,Cs.Q3,hyl])
  | false =>
   refine AWp.rg [] [] ?_ (hr:=by conv=>lhs;simp [Tm.row,Tm.Q3,Cs.Q3,h1y,h8,h9,h13])
   refine AWp.rg [] [] ?_ (hr:=by conv=>lhs;simp [Tm.row,Tm.Q3,Cs.Q3,h1y,h8,h9,h13])
   refine AWp.rg [] [] ?_ (hr:=by conv=>lhs;simp [Tm.row,Tm.Q3,Cs.Q3,h1y,h8,h9,h13])
   refine ⟨⟨(i + 1,ys ++ [.mk zk zn za zb zvs zxs zcs],c2,q),hi1,⟨by rw [hap];simp,by simp [hyl]⟩⟩,by simp;omega,?_⟩
   dsimp only
   exact Le.sub (by simp [Tm.row,Tm.Q3,Cs.Q3,hyl]) (by simp [Tm.row,Tm.Q3,Cs.Q3,hyl])
 have hi1 : i = txs.length:=by have:=of_decide_eq_false hc;omega
 subst hi1
 clear hc
 obtain ⟨hap,hyl⟩:=hw
 rw [List.drop_length,Tm.woL] at hap
 simp only [List.append_nil,Bool.or_false] at hap
 rw [hap] at hR
 dsimp only at hR
 clear hap
 refine AWp.exit ?_
 refine AWp.rg [] [] ?_ (hr:=by conv=>lhs;simp [Tm.row,Tm.Q3,Cs.Q3,h8,h9,h13])
 repeat (first | refine AWp.seq ?_ | refine AWp.block ?_)
 refine AWp.le (Le.low [401] [] (fr:=[(1,.ptr 1000 0),(4,.ptr 4 0),(6,.ptr 6 0),(7,.d (.bool (ga : Bool))),(72,.d (.sl (tcs.map Cs.row))),(73,.d (.int (tcs.length : Int))),(74,.d (.int (0 : Int)))]) (mem:=[(4,some (.blk 32 [.d (.int 0),.d (.int 0),.d (.str ByteArray.empty),.d (.str ByteArray.empty),.lit (.slice none 0 0),.lit (.slice none 0 0),.lit (.slice none 0 0)])),(6,some (.blk 32 [.d (.int tk),.d (.int tn),.d (.str ta),.d (.str tb),.d (Q7 tvs),.arr 400 0 ys.length,.arr 401 0 ([] : List Cs).length])),(400,some (.arr 32 7 (ys.map Tm.row))),(401,some (.arr 42 9 (([] : List Cs).map Cs.row))),(1000,some (.blk 3 [.d (.int (c1 : Int))]))]) rfl (by simp) (by simp)) ?_
 refine AWp.loop (σ:=fun u : {u : Nat×List Cs×Int×Bool // u.1≤tcs.length∧((Cs.woL tcs c1).1 = u.2.1 ++ (Cs.woL (tcs.drop u.1) u.2.2.1).1∧(ga || (Cs.woL tcs c1).2.1) = (u.2.2.2 || (Cs.woL (tcs.drop u.1) u.2.2.1).2.1)∧(Cs.woL tcs c1).2.2 = (Cs.woL (tcs.drop u.1) u.2.2.1).2.2∧u.2.1.length = u.1)}=>⟨103,[(1,.ptr 1000 0),(4,.ptr 4 0),(6,.ptr 6 0),(7,.d (.bool u.1.2.2.2)),(72,.d (.sl (tcs.map Cs.row))),(73,.d (.int (tcs.length : Int))),(74,.d (.int (u.1.1 : Int)))],[(4,some (.blk 32 [.d (.int 0),.d (.int 0),.d (.str ByteArray.empty),.d (.str ByteArray.empty),.lit (.slice none 0 0),.lit (.slice none 0 0),.lit (.slice none 0 0)])),(6,some (.blk 32 [.d (.int tk),.d (.int tn),.d (.str ta),.d (.str tb),.d (Q7 tvs),.arr 400 0 ys.length,.arr 401 0 u.1.2.1.length])),(400,some (.arr 32 7 (ys.map Tm.row))),(401,some (.arr 42 9 (u.1.2.1.map Cs.row))),(1000,some (.blk 3 [.d (.int u.1.2.2.1)]))]⟩)
  (μ:=fun u=>tcs.length - u.1.1) ⟨(0,[],c1,ga),⟨Nat.zero_le _,⟨by simp,rfl,rfl,rfl⟩⟩⟩ (Le.sub (by simp) (by simp)) (fun ⟨(i,ds,c3,gb),⟨hi17,hw2⟩⟩=>?_)
 dsimp only at hi17 hw2 ⊢
 refine AWp.rg [] [] ?_ (hr:=by conv=>lhs;simp [Tm.row,Tm.Q3,Cs.Q3,h8,h9,h13])
 repeat (first | refine AWp.seq ?_ | refine AWp.block ?_)
 refine AWp.cond rfl (fun hc=>?_) (fun hc=>?_)
 ·have hi1 : i < tcs.length:=by have:=of_decide_eq_true hc;omega
  clear hc
  have h1d : tcs[i]? = some tcs[i]:=List.getElem?_eq_getElem hi1
  have hmd : tcs[i]∈tcs:=List.getElem_mem hi1
  have hdd : tcs.drop i = tcs[i] :: tcs.drop (i + 1):=List.drop_eq_getElem_cons hi1
  generalize tcs[i] = d at h1d hmd hdd
  obtain ⟨hap,hq2,hc2,hdl⟩:=hw2
  have hdd2:=hcN d hmd
  have hdO:=hcO d hmd
  have hdS:=hcS d hmd
  obtain ⟨dt,dws,y⟩:=d
  rw [hdd,Cs.woL,Cs.wo] at hap hq2 hc2
  rw [Cs.sz] at hdd2
  have hx:=ih y c3 (by omega) hdO.2.2 hdS
  generalize y.wo c3 = o at hx hap hq2 hc2
  obtain ⟨z,q,c2⟩:=o
  dsimp only at hx hap hq2 hc2
  obtain ⟨yk,yn,ya,yb,yvs,yxs,ycs⟩:=y
  obtain ⟨zk,zn,za,zb,zvs,zxs,zcs⟩:=z
  refine AWp.skip ?_
  refine AWp.rg [] [] ?_ (hr:=by conv=>lhs;simp [Tm.row,Tm.Q3,Cs.Q3,h1d,Cs.row,h8,h9,h13])
  refine AWp.rg [] [.c [] [.agg [.d (.int yk),.d (.int yn),.d (.str ya),.d (.str yb),.d (Q7 yvs),.d (.sl (yxs.map Tm.row)),.d (.sl (ycs.map Cs.row))],.ptr 1000 0] [(1000,.blk 3 [.d (.int c3)])] (.tuple [.agg [.d (.int zk),.d (.int zn),.d (.str za),.d (.str zb),.d (Q7 zvs),.d (.sl (zxs.map Tm.row)),.d (.sl (zcs.map Cs.row))],.d (.bool q)]) [(1000,.blk 3 [.d (.int c2)])]] ?_ (hr:=by conv=>lhs;simp [Tm.row,Tm.Q3,Cs.Q3,h1d,Cs.row,h8,h9,h13])
  cases gb with
  | true =>
   refine AWp.rg [] [] ?_ (hr:=by conv=>lhs;simp [Tm.row,Tm.Q3,Cs.Q3,h1d,Cs.row,h8,h9,h13])
   refine AWp.rg [] [] ?_ (hr:=by conv=>lhs;simp [Tm.row,Tm.Q3,Cs.Q3,h1d,Cs.row,h8,h9,h13])
   refine AWp.rg [] [] ?_ (hr:=by conv=>lhs;simp [Tm.row,Tm.Q3,Cs.Q3,h1d,Cs.row,h8,h9,h13])
   refine ⟨⟨(i + 1,ds ++ [.mk dt dws (.mk zk zn za zb zvs zxs zcs)],c2,true),hi1,⟨by rw [hap];simp,by rw [hq2];simp,hc2,by simp [hdl]⟩⟩,by simp;omega,?_⟩
   dsimp only
   exact Le.sub (by simp [Cs.row,Tm.row,Tm.Q3,Cs.Q3,hdl]) (by simp [Cs.row,Tm.row,Tm.Q3,Cs.Q3,hdl])
  | false =>
   refine AWp.rg [] [] ?_ (hr:=by conv=>lhs;simp [Tm.row,Tm.Q3,Cs.Q3,h1d,Cs.row,h8,h9,h13])
   refine AWp.rg [] [] ?_ (hr:=by conv=>lhs;simp [Tm.row,Tm.Q3,Cs.Q3,h1d,Cs.row,h8,h9,h13])
   refine AWp.rg [] [] ?_ (hr:=by conv=>lhs;simp [Tm.row,Tm.Q3,Cs.Q3,h1d,Cs.row,h8,h9,h13])
   refine ⟨⟨(i + 1,ds ++ [.mk dt dws (.mk zk zn za zb zvs zxs zcs)],c2,q),hi1,⟨by rw [hap];simp,by rw [hq2];simp,hc2,by simp [hdl]⟩⟩,by simp;omega,?_⟩
   dsimp only
   exact Le.sub (by simp [Cs.row,Tm.row,Tm.Q3,Cs.Q3,hdl]) (by simp [Cs.row,Tm.row,Tm.Q3,Cs.Q3,hdl])
 have hi1 : i = tcs.length:=by have:=of_decide_eq_false hc;omega
 subst hi1
 clear hc
 obtain ⟨hap,hq2,hc2,hdl⟩:=hw2
 rw [List.drop_length,Cs.woL] at hap hq2 hc2
 simp only [List.append_nil,Bool.or_false] at hap hq2 hc2
 rw [hap,hq2,hc2] at hR
 subst hR
 refine AWp.exit ?_
 refine AWp.rg [] [] ?_ (hr:=by conv=>lhs;simp [Tm.row,Tm.Q3,Cs.Q3,h8,h9,h13])
 refine AWp.ret ?_
 try dsimp only [Qq,Q8]
 apply Qv.Qq1 [400,401]
 ·rfl
 ·conv=>lhs;simp
 ·conv=>lhs;simp [Q9,Tryd.results26]
 ·rfl
 ·simp [Qj,Q4]
theorem wo_all : ∀ N,WoN N
 | 0=>fun t c h=>by have:=t.F8;omega
 | N + 1=>wo_step N (wo_all N)
theorem rem_fit {x x' : Tm} (h : Rem x x') : x.Ok→x'.Ok∧x'.wg≤x.wg:=by
 induction h with
 | here hk =>
  intro hO
  refine ⟨Tm.Zq.1 hO.2.2.1 _ (by simp),?_⟩
  rw [Tm.wg,Tm.wgs,Tm.wgs];omega
 | @arg k n a b vs p q x x' cs h ih =>
  intro hO
  obtain ⟨i1,i2⟩:=ih (Tm.Zq.1 hO.2.2.1 _ (by simp))
  obtain ⟨h1,h2,h3,h4⟩:=hO
  refine ⟨⟨h1,by simpa using h2,Tm.Zq.2 fun y hy=>?_,h4⟩,?_⟩
  ·rcases List.mem_append.1 hy with hy | hy
   ·exact Tm.Zq.1 h3 y (by simp [hy])
   ·rcases List.mem_cons.1 hy with rfl | hy
    ·exact i1
    ·exact Tm.Zq.1 h3 y (by simp [hy])
  ·have hs : ∀ p : List Tm,Tm.wgs (p ++ x' :: q)≤Tm.wgs (p ++ x :: q):=by
    intro p
    induction p with
    | nil=>simp only [List.nil_append,Tm.wgs];omega
    | cons y r ih=>simp only [List.cons_append,Tm.wgs];omega
   have:=hs p
   rw [Tm.wg,Tm.wg];omega
 | @cas k n a b vs xs p q t ws y y' h ih =>
  intro hO
  have hc:=Cs.Zq.1 hO.2.2.2 (.mk t ws y) (by simp)
  obtain ⟨i1,i2⟩:=ih hc.2.2
  obtain ⟨h1,h2,h3,h4⟩:=hO
  refine ⟨⟨h1,by simpa using h2,h3,Cs.Zq.2 fun z hz=>?_⟩,?_⟩
  ·rcases List.mem_append.1 hz with hz | hz
   ·exact Cs.Zq.1 h4 z (by simp [hz])
   ·rcases List.mem_cons.1 hz with rfl | hz
    ·exact ⟨hc.1,hc.2.1,i1⟩
    ·exact Cs.Zq.1 h4 z (by simp [hz])
  ·have hs : ∀ p : List Cs,Cs.wgs (p ++ .mk t ws y' :: q)≤Cs.wgs (p ++ .mk t ws y :: q):=by
    intro p
    induction p with
    | nil=>simp only [List.nil_append,Cs.wgs,Cs.wg];omega
    | cons y r ih=>simp only [List.cons_append,Cs.wgs];omega
   have:=hs p
   rw [Tm.wg,Tm.wg];omega
theorem wo_fit {t : Tm} (hB : t.sz≤1152921504606846976) (h3 : t.S3) (hO : t.Ok) (i : Int) (h0 : -9223372036854775808≤i) (h2 : i≤9223372036854775807) (h : (t.wo i).2.1 = true) : (t.wo i).1.Ok∧(t.wo i).1.wg≤t.wg:=by
 have h1 : -4611686018427387904 + t.sz≤i:=by
  by_cases h1 : -4611686018427387904 + t.sz≤i
  ·exact h1
  ·have:=(wo_no t.sz t i (Nat.le_refl _) hB h0 h2 (.inl (by omega))).1
   rw [this] at h;simp at h
 obtain ⟨-,hr,-⟩:=(wo_rem t.sz t i (Nat.le_refl _) hB h3 h1 h2).2 h
 exact rem_fit hr hO
set_option maxRecDepth 20000 in
set_option maxHeartbeats 16000000 in
theorem sp_LinearLeft (l : List Fn) (v k : Int) (n : Int) (hl : Gv l) (hn : inI n) : Qw Tryd.prog 7 [D7 l,.d (.int v),.d (.int k),.d (.int n)] (fun _=>.d (.bool true)) none:=by
 have hal:=sp_alive7
 have hkl:=sp_refCheck l hl
 obtain ⟨cl,hcl⟩ : ∃ c,c = Y8 l:=⟨_,rfl⟩
 rw [← hcl] at hkl
 refine Qw.of Tryd.func7 rfl rfl rfl (Nat.le_of_ble_eq_true rfl) ?_
 show AWp _ _ (Zk _ Tryd.f7 _ _ _) (Z7 57 _)
 refine AWp.rg [] [] ?_ (hr:=by conv=>lhs;simp [Fn.row,Tm.row,Tm.Q3,Cs.Q3])
 refine AWp.rg [] [.p (fun _=>.d (.bool true)) none] ?_ (hr:=by conv=>lhs;simp [Fn.row,Tm.row,Tm.Q3,Cs.Q3])
 refine AWp.cn ?_
 refine AWp.skip ?_
 by_cases q1 : cl = 0
 ·have q1t:=eq_true q1
  by_cases q2 : v < 0
  ·refine AWp.rg [] [.p (fun _=>.d (.int cl)) none] ?_ (hr:=by conv=>lhs;simp [Fn.row,Tm.row,Tm.Q3,Cs.Q3,q1t,q2])
   refine AWp.cy ?_
   refine AWp.rg [] [] ?_ (hr:=by conv=>lhs;simp [Fn.row,Tm.row,Tm.Q3,Cs.Q3,q1t,q2])
   refine AWp.ret ?_
   try dsimp only [Qq,Q8]
   apply Zk.ret
   ·rfl
   ·conv=>lhs;simp [Q9,Tryd.results7]
   first | rfl | simp [Z6,AV.J3,]
  by_cases q3 : 2 < v
  ·refine AWp.rg [] [.p (fun _=>.d (.int cl)) none] ?_ (hr:=by conv=>lhs;simp [Fn.row,Tm.row,Tm.Q3,Cs.Q3,q1t,q2,q3])
   refine AWp.cy ?_
   refine AWp.rg [] [] ?_ (hr:=by conv=>lhs;simp [Fn.row,Tm.row,Tm.Q3,Cs.Q3,q1t,q2,q3])
   refine AWp.ret ?_
   try dsimp only [Qq,Q8]
   apply Zk.ret
   ·rfl
   ·conv=>lhs;simp [Q9,Tryd.results7]
   first | rfl | simp [Z6,AV.J3,]
  by_cases q4 : k < 0
  ·refine AWp.rg [] [.p (fun _=>.d (.int cl)) none] ?_ (hr:=by conv=>lhs;simp [Fn.row,Tm.row,Tm.Q3,Cs.Q3,q1t,q2,q3,q4])
   refine AWp.cy ?_
   refine AWp.rg [] [] ?_ (hr:=by conv=>lhs;simp [Fn.row,Tm.row,Tm.Q3,Cs.Q3,q1t,q2,q3,q4])
   refine AWp.ret ?_
   try dsimp only [Qq,Q8]
   apply Zk.ret
   ·rfl
   ·conv=>lhs;simp [Q9,Tryd.results7]
   first | rfl | simp [Z6,AV.J3,]
  by_cases q5 : (l.length : Int)≤k
  ·refine AWp.rg [] [.p (fun _=>.d (.int cl)) none] ?_ (hr:=by conv=>lhs;simp [Fn.row,Tm.row,Tm.Q3,Cs.Q3,q1t,q2,q3,q4,q5])
   refine AWp.cy ?_
   refine AWp.rg [] [] ?_ (hr:=by conv=>lhs;simp [Fn.row,Tm.row,Tm.Q3,Cs.Q3,q1t,q2,q3,q4,q5])
   refine AWp.ret ?_
   try dsimp only [Qq,Q8]
   apply Zk.ret
   ·rfl
   ·conv=>lhs;simp [Q9,Tryd.results7]
   first | rfl | simp [Z6,AV.J3,]
  refine AWp.rg [] [.p (fun _=>.d (.int cl)) none] ?_ (hr:=by conv=>lhs;simp [Fn.row,Tm.row,Tm.Q3,Cs.Q3,q1t,q2,q3,q4,q5])
  refine AWp.cn ?_
  refine AWp.skip ?_
  obtain ⟨M,hM,hMl,hMa,hMf,hMp⟩:=made_at l hl (by omega) v (by omega) (by omega)
  have hll:=hl.len
  obtain ⟨f,hkx⟩ : ∃ f,M[k.toNat]? = some f:=⟨_,List.getElem?_eq_getElem (by omega)⟩
  have hmf:=List.mem_of_getElem? hkx
  have ha:=hMa f hmf
  have hf:=hMf f hmf
  have hwg:=ha.wg
  have hsz:=f.body.sz_wg
  have hO:=ha.ok
  have hpr:=ha.par
  have hwo:=wo_all f.body.sz f.body n (Nat.le_refl _) hO hf.s3
  have hlf:=hf.left (by omega) n hn.1 hn.2
  have hft:=wo_fit (by omega) hf.s3 hO n hn.1 hn.2
  clear ha hf hMa hMf hMp
  obtain ⟨fg,fps,b⟩:=f
  dsimp only at hwo hlf hft hwg hsz hpr
  generalize b.wo n = o at hwo hlf hft
  obtain ⟨z,q,c2⟩:=o
  obtain ⟨fk,fn,fa,fb,fvs,fxs,fcs⟩:=b
  obtain ⟨zk,zn,za,zb,zvs,zxs,zcs⟩:=z
  dsimp only at hwo hlf hft
  refine AWp.rg [] [.p (fun _=>.d (.sl (M.map Fn.row))) none] ?_ (hr:=by conv=>lhs;simp [Fn.row,Tm.row,Tm.Q3,Cs.Q3,hkx,q1t,q2,q3,q4,q5])
  refine AWp.rg [] [.c [(1000,7)] [.agg [.d (.int fk),.d (.int fn),.d (.str fa),.d (.str fb),.d (Q7 fvs),.d (.sl (fxs.map Tm.row)),.d (.sl (fcs.map Cs.row))],.ptr 1000 0] [(1000,.blk 3 [.d (.int n)])] (.tuple [.agg [.d (.int zk),.d (.int zn),.d (.str za),.d (.str zb),.d (Q7 zvs),.d (.sl (zxs.map Tm.row)),.d (.sl (zcs.map Cs.row))],.d (.bool q)]) [(1000,.blk 3 [.d (.int c2)])]] ?_ (hr:=by conv=>lhs;simp [Fn.row,Tm.row,Tm.Q3,Cs.Q3,hkx,q1t,q2,q3,q4,q5])
  cases q with
  | true =>
   refine AWp.rg [] [] ?_ (hr:=by conv=>lhs;simp [Fn.row,Tm.row,Tm.Q3,Cs.Q3,hkx,q1t,q2,q3,q4,q5])
   refine AWp.cn ?_
   refine AWp.skip ?_
   obtain ⟨hf1,hf2⟩:=hft rfl
   have hE0:=hlf rfl
   have hch:=Tq ⟨fg,fps,.mk zk zn za zb zvs zxs zcs⟩ hf1 (by dsimp only;omega) (by dsimp only;have:=(Tm.mk zk zn za zb zvs zxs zcs).sz_wg;omega) (by dsimp only;omega)
   obtain ⟨E,hE⟩ : ∃ E,Fn.lin ⟨fg,fps,.mk zk zn za zb zvs zxs zcs⟩ = E:=⟨_,rfl⟩
   rw [hE] at hE0 hch
   dsimp only [W9] at hch
   refine AWp.rg [] [.p (fun _=>.d (.int E)) none] ?_ (hr:=by conv=>lhs;simp [Fn.row,Tm.row,Tm.Q3,Cs.Q3,hkx,q1t,q2,q3,q4,q5,hE0])
   refine AWp.ret ?_
   try dsimp only [Qq,Q8]
   apply Zk.ret
   ·rfl
   ·conv=>lhs;simp [Q9,Tryd.results7]
   first | rfl | simp [Z6,AV.J3,hE0]
  | false =>
   refine AWp.rg [] [] ?_ (hr:=by conv=>lhs;simp [Fn.row,Tm.row,Tm.Q3,Cs.Q3,hkx,q1t,q2,q3,q4,q5])
   refine AWp.cy ?_
   refine AWp.rg [] [] ?_ (hr:=by conv=>lhs;simp [Fn.row,Tm.row,Tm.Q3,Cs.Q3,hkx,q1t,q2,q3,q4,q5])
   refine AWp.ret ?_
   try dsimp only [Qq,Q8]
   apply Zk.ret
   ·rfl
   ·conv=>lhs;simp [Q9,Tryd.results7]
   first | rfl | simp [Z6,AV.J3,]
 refine AWp.rg [] [.p (fun _=>.d (.int cl)) none] ?_ (hr:=by conv=>lhs;simp [Fn.row,Tm.row,Tm.Q3,Cs.Q3,q1])
 refine AWp.cy ?_
 refine AWp.rg [] [] ?_ (hr:=by conv=>lhs;simp [Fn.row,Tm.row,Tm.Q3,Cs.Q3,q1])
 refine AWp.ret ?_
 try dsimp only [Qq,Q8]
 apply Zk.ret
 ·rfl
 ·conv=>lhs;simp [Q9,Tryd.results7]
 first | rfl | simp [Z6,AV.J3,]
set_option maxRecDepth 20000 in
set_option maxHeartbeats 16000000 in
theorem sp_LinearMore (l : List Fn) (v k : Int) (n : Bool) (hl : Gv l) : Qw Tryd.prog 8 [D7 l,.d (.int v),.d (.int k),.d (.bool n)] (fun _=>.d (.bool true)) none:=by
 have hal:=sp_alive7
 have hkl:=sp_refCheck l hl
 obtain ⟨cl,hcl⟩ : ∃ c,c = Y8 l:=⟨_,rfl⟩
 rw [← hcl] at hkl
 refine Qw.of Tryd.func8 rfl rfl rfl (Nat.le_of_ble_eq_true rfl) ?_
 show AWp _ _ (Zk _ Tryd.f8 _ _ _) (Z7 66 _)
 refine AWp.rg [] [] ?_ (hr:=by conv=>lhs;simp [Fn.row,Tm.row,Tm.Q3,Cs.Q3])
 refine AWp.rg [] [.p (fun _=>.d (.bool true)) none] ?_ (hr:=by conv=>lhs;simp [Fn.row,Tm.row,Tm.Q3,Cs.Q3])
 refine AWp.cn ?_
 refine AWp.skip ?_
 by_cases k0 : k < 0
 ·by_cases q1 : cl = 0
  ·have q1t:=eq_true q1
   by_cases q2 : v < 0
   ·refine AWp.rg [] [.p (fun _=>.d (.int cl)) none] ?_ (hr:=by conv=>lhs;simp [Fn.row,Tm.row,Tm.Q3,Cs.Q3,k0,q1t,q2])
    refine AWp.cy ?_
    refine AWp.rg [] [] ?_ (hr:=by conv=>lhs;simp [Fn.row,Tm.row,Tm.Q3,Cs.Q3,k0,q1t,q2])
    refine AWp.ret ?_
    try dsimp only [Qq,Q8]
    apply Zk.ret
    ·rfl
    ·conv=>lhs;simp [Q9,Tryd.results8]
    first | rfl | simp [Z6,AV.J3,]
   by_cases q3 : 2 < v
   ·refine AWp.rg [] [.p (fun _=>.d (.int cl)) none] ?_ (hr:=by conv=>lhs;simp [Fn.row,Tm.row,Tm.Q3,Cs.Q3,k0,q1t,q2,q3])
    refine AWp.cy ?_
    refine AWp.rg [] [] ?_ (hr:=by conv=>lhs;simp [Fn.row,Tm.row,Tm.Q3,Cs.Q3,k0,q1t,q2,q3])
    refine AWp.ret ?_
    try dsimp only [Qq,Q8]
    apply Zk.ret
    ·rfl
    ·conv=>lhs;simp [Q9,Tryd.results8]
    first | rfl | simp [Z6,AV.J3,]
   refine AWp.rg [] [.p (fun _=>.d (.int cl)) none] ?_ (hr:=by conv=>lhs;simp [Fn.row,Tm.row,Tm.Q3,Cs.Q3,k0,q1t,q2,q3])
   refine AWp.cy ?_
   refine AWp.rg [] [] ?_ (hr:=by conv=>lhs;simp [Fn.row,Tm.row,Tm.Q3,Cs.Q3,k0,q1t,q2,q3])
   refine AWp.ret ?_
   try dsimp only [Qq,Q8]
   apply Zk.ret
   ·rfl
   ·conv=>lhs;simp [Q9,Tryd.results8]
   first | rfl | simp [Z6,AV.J3,]
  refine AWp.rg [] [.p (fun _=>.d (.int cl)) none] ?_ (hr:=by conv=>lhs;simp [Fn.row,Tm.row,Tm.Q3,Cs.Q3,k0,q1])
  refine AWp.cy ?_
  refine AWp.rg [] [] ?_ (hr:=by conv=>lhs;simp [Fn.row,Tm.row,Tm.Q3,Cs.Q3,k0,q1])
  refine AWp.ret ?_
  try dsimp only [Qq,Q8]
  apply Zk.ret
  ·rfl
  ·conv=>lhs;simp [Q9,Tryd.results8]
  first | rfl | simp [Z6,AV.J3,]
 by_cases k1 : (l.length : Int)≤k
 ·by_cases q4 : cl = 0
  ·have q4t:=eq_true q4
   by_cases q5 : v < 0
   ·refine AWp.rg [] [.p (fun _=>.d (.int cl)) none] ?_ (hr:=by conv=>lhs;simp [Fn.row,Tm.row,Tm.Q3,Cs.Q3,k0,k1,q4t,q5])
    refine AWp.cy ?_
    refine AWp.rg [] [] ?_ (hr:=by conv=>lhs;simp [Fn.row,Tm.row,Tm.Q3,Cs.Q3,k0,k1,q4t,q5])
    refine AWp.ret ?_
    try dsimp only [Qq,Q8]
    apply Zk.ret
    ·rfl
    ·conv=>lhs;simp [Q9,Tryd.results8]
    first | rfl | simp [Z6,AV.J3,]
   by_cases q6 : 2 < v
   ·refine AWp.rg [] [.p (fun _=>.d (.int cl)) none] ?_ (hr:=by conv=>lhs;simp [Fn.row,Tm.row,Tm.Q3,Cs.Q3,k0,k1,q4t,q5,q6])
    refine AWp.cy ?_
    refine AWp.rg [] [] ?_ (hr:=by conv=>lhs;simp [Fn.row,Tm.row,Tm.Q3,Cs.Q3,k0,k1,q4t,q5,q6])
    refine AWp.ret ?_
    try dsimp only [Qq,Q8]
    apply Zk.ret
    ·rfl
    ·conv=>lhs;simp [Q9,Tryd.results8]
    first | rfl | simp [Z6,AV.J3,]
   refine AWp.rg [] [.p (fun _=>.d (.int cl)) none] ?_ (hr:=by conv=>lhs;simp [Fn.row,Tm.row,Tm.Q3,Cs.Q3,k0,k1,q4t,q5,q6])
   refine AWp.cy ?_
   refine AWp.rg [] [] ?_ (hr:=by conv=>lhs;simp [Fn.row,Tm.row,Tm.Q3,Cs.Q3,k0,k1,q4t,q5,q6])
   refine AWp.ret ?_
   try dsimp only [Qq,Q8]
   apply Zk.ret
   ·rfl
   ·conv=>lhs;simp [Q9,Tryd.results8]
   first | rfl | simp [Z6,AV.J3,]
  refine AWp.rg [] [.p (fun _=>.d (.int cl)) none] ?_ (hr:=by conv=>lhs;simp [Fn.row,Tm.row,Tm.Q3,Cs.Q3,k0,k1,q4])
  refine AWp.cy ?_
  refine AWp.rg [] [] ?_ (hr:=by conv=>lhs;simp [Fn.row,Tm.row,Tm.Q3,Cs.Q3,k0,k1,q4])
  refine AWp.ret ?_
  try dsimp only [Qq,Q8]
  apply Zk.ret
  ·rfl
  ·conv=>lhs;simp [Q9,Tryd.results8]
  first | rfl | simp [Z6,AV.J3,]
 obtain ⟨u,hux⟩ : ∃ u,l[k.toNat]? = some u:=⟨_,List.getElem?_eq_getElem (by omega)⟩
 obtain ⟨ug,ups,⟨uk,un,ua,ub,uvs,uxs,ucs⟩⟩:=u
 obtain ⟨pn,hpn⟩ : ∃ n : Int,(ups.length : Int) = n:=⟨_,rfl⟩
 by_cases q7 : cl = 0
 ·have q7t:=eq_true q7
  by_cases q8 : v < 0
  ·refine AWp.rg [] [.p (fun _=>.d (.int cl)) none] ?_ (hr:=by conv=>lhs;simp [Fn.row,Tm.row,Tm.Q3,Cs.Q3,hux,hpn,k0,k1,q7t,q8])
   refine AWp.cy ?_
   refine AWp.rg [] [] ?_ (hr:=by conv=>lhs;simp [Fn.row,Tm.row,Tm.Q3,Cs.Q3,hux,hpn,k0,k1,q7t,q8])
   refine AWp.ret ?_
   try dsimp only [Qq,Q8]
   apply Zk.ret
   ·rfl
   ·conv=>lhs;simp [Q9,Tryd.results8]
   first | rfl | simp [Z6,AV.J3,]
  by_cases q9 : 2 < v
  ·refine AWp.rg [] [.p (fun _=>.d (.int cl)) none] ?_ (hr:=by conv=>lhs;simp [Fn.row,Tm.row,Tm.Q3,Cs.Q3,hux,hpn,k0,k1,q7t,q8,q9])
   refine AWp.cy ?_
   refine AWp.rg [] [] ?_ (hr:=by conv=>lhs;simp [Fn.row,Tm.row,Tm.Q3,Cs.Q3,hux,hpn,k0,k1,q7t,q8,q9])
   refine AWp.ret ?_
   try dsimp only [Qq,Q8]
   apply Zk.ret
   ·rfl
   ·conv=>lhs;simp [Q9,Tryd.results8]
   first | rfl | simp [Z6,AV.J3,]
  by_cases q10 : pn = 0
  ·refine AWp.rg [] [.p (fun _=>.d (.int cl)) none] ?_ (hr:=by conv=>lhs;simp [Fn.row,Tm.row,Tm.Q3,Cs.Q3,hux,hpn,k0,k1,q7t,q8,q9,q10])
   refine AWp.cy ?_
   refine AWp.rg [] [] ?_ (hr:=by conv=>lhs;simp [Fn.row,Tm.row,Tm.Q3,Cs.Q3,hux,hpn,k0,k1,q7t,q8,q9,q10])
   refine AWp.ret ?_
   try dsimp only [Qq,Q8]
   apply Zk.ret
   ·rfl
   ·conv=>lhs;simp [Q9,Tryd.results8]
   first | rfl | simp [Z6,AV.J3,]
  refine AWp.rg [] [.p (fun _=>.d (.int cl)) none] ?_ (hr:=by conv=>lhs;simp [Fn.row,Tm.row,Tm.Q3,Cs.Q3,hux,hpn,k0,k1,q7t,q8,q9,q10])
  refine AWp.cn ?_
  refine AWp.skip ?_
  obtain ⟨M,hM,hMl,hMa,hMf,hMp⟩:=made_at l hl (by omega) v (by omega) (by omega)
  have hll:=hl.len
  obtain ⟨f,hkx⟩ : ∃ f,M[k.toNat]? = some f:=⟨_,List.getElem?_eq_getElem (by omega)⟩
  have hmf:=List.mem_of_getElem? hkx
  have ha:=hMa f hmf
  have hf:=hMf f hmf
  have hwg:=ha.wg
  have hsz:=f.body.sz_wg
  have hO:=ha.ok
  have hpr:=ha.par
  have hul : ups.length≠0:=by omega
  obtain ⟨x,hfx,hxs⟩ : ∃ x,f.params[0]? = some x∧x.size≤140737488355328:=by
   have h:=hMp k.toNat _ f hux hkx
   have hl:=U4 ups 0
   dsimp only at h
   rw [← h] at hl
   exact ⟨_,List.getElem?_eq_getElem (by omega),Bw ups 0 _ (by rw [← h];exact List.getElem_mem _)⟩
  have hmr:=fun K h=>hf.more K x h
  clear ha hf hMa hMf hMp
  obtain ⟨fg,fps,b⟩:=f
  obtain ⟨fk,fn,fa,fb,fvs,fxs,fcs⟩:=b
  dsimp only at hmr hfx hO hwg hsz hpr
  refine AWp.rg [] [.p (fun _=>.d (.sl (M.map Fn.row))) none] ?_ (hr:=by conv=>lhs;simp [Fn.row,Tm.row,Tm.Q3,Cs.Q3,hux,hpn,hkx,hfx,k0,k1,q7t,q8,q9,q10])
  refine AWp.rg [] [] ?_ (hr:=by conv=>lhs;simp [Fn.row,Tm.row,Tm.Q3,Cs.Q3,hux,hpn,hkx,hfx,k0,k1,q7t,q8,q9,q10])
  cases n with
  | true =>
   refine AWp.rg [] [] ?_ (hr:=by conv=>lhs;simp [Fn.row,Tm.row,Tm.Q3,Cs.Q3,hux,hpn,hkx,hfx,k0,k1,q7t,q8,q9,q10])
   refine AWp.cy ?_
   refine AWp.rg [] [] ?_ (hr:=by conv=>lhs;simp [Fn.row,Tm.row,Tm.Q3,Cs.Q3,hux,hpn,hkx,hfx,k0,k1,q7t,q8,q9,q10])
   have hE0:=hmr 9 (by omega)
   have hch:=Tq ⟨fg,fps,.mk 9 0 x .empty [] [.mk fk fn fa fb fvs fxs fcs] []⟩ ⟨⟨by omega,by decide,by simp⟩,⟨by simp,by simp,by simp⟩,⟨hO,trivial⟩,trivial⟩ (by dsimp only;omega) (by simp [Tm.sz,Tm.szs,Cs.szs] at hsz ⊢;omega) (by simp [Tm.wg,Tm.wgs,Cs.wgs] at hwg ⊢;omega)
   obtain ⟨E,hE⟩ : ∃ E,Fn.lin ⟨fg,fps,.mk 9 0 x .empty [] [.mk fk fn fa fb fvs fxs fcs] []⟩ = E:=⟨_,rfl⟩
   rw [hE] at hE0 hch
   dsimp only [W9] at hch
   simp only [List.map_cons,List.map_nil,Tm.row,Tm.Q3,Cs.Q3] at hch
   replace hch:=Qw.Qx1 (args:=[.agg [.d (.str fg),.d (Q7 fps),.d (.int 9),.d (.int 0),.d (.str x),.d (.str .empty),.lit (.slice none 0 0),.d (.sl [[.int fk,.int fn,.str fa,.str fb,Q7 fvs,.sl (fxs.map Tm.row),.sl (fcs.map Cs.row)]]),.lit (.slice none 0 0)]]) hch
   refine AWp.dw [11] [.p (fun _=>.d (.int E)) none] mixed ?_ (hr:=by conv=>lhs;simp [Fn.row,Tm.row,Tm.Q3,Cs.Q3,hux,hpn,hkx,hfx,k0,k1,q7t,q8,q9,q10,hE0])
   refine AWp.ret ?_
   try dsimp only [Qq,Q8]
   apply Zk.ret
   ·rfl
   ·conv=>lhs;simp [Q9,Tryd.results8]
   first | rfl | simp [Z6,AV.J3,hE0]
  | false =>
   refine AWp.rg [] [] ?_ (hr:=by conv=>lhs;simp [Fn.row,Tm.row,Tm.Q3,Cs.Q3,hux,hpn,hkx,hfx,k0,k1,q7t,q8,q9,q10])
   refine AWp.cn ?_
   refine AWp.skip ?_
   have hE0:=hmr 8 (by omega)
   have hch:=Tq ⟨fg,fps,.mk 8 0 x .empty [] [.mk fk fn fa fb fvs fxs fcs] []⟩ ⟨⟨by omega,by decide,by simp⟩,⟨by simp,by simp,by simp⟩,⟨hO,trivial⟩,trivial⟩ (by dsimp only;omega) (by simp [Tm.sz,Tm.szs,Cs.szs] at hsz ⊢;omega) (by simp [Tm.wg,Tm.wgs,Cs.wgs] at hwg ⊢;omega)
   obtain ⟨E,hE⟩ : ∃ E,Fn.lin ⟨fg,fps,.mk 8 0 x .empty [] [.mk fk fn fa fb fvs fxs fcs] []⟩ = E:=⟨_,rfl⟩
   rw [hE] at hE0 hch
   dsimp only [W9] at hch
   simp only [List.map_cons,List.map_nil,Tm.row,Tm.Q3,Cs.Q3] at hch
   replace hch:=Qw.Qx1 (args:=[.agg [.d (.str fg),.d (Q7 fps),.d (.int 8),.d (.int 0),.d (.str x),.d (.str .empty),.lit (.slice none 0 0),.d (.sl [[.int fk,.int fn,.str fa,.str fb,Q7 fvs,.sl (fxs.map Tm.row),.sl (fcs.map Cs.row)]]),.lit (.slice none 0 0)]]) hch
   refine AWp.dw [11] [.p (fun _=>.d (.int E)) none] mixed ?_ (hr:=by conv=>lhs;simp [Fn.row,Tm.row,Tm.Q3,Cs.Q3,hux,hpn,hkx,hfx,k0,k1,q7t,q8,q9,q10,hE0])
   refine AWp.ret ?_
   try dsimp only [Qq,Q8]
   apply Zk.ret
   ·rfl
   ·conv=>lhs;simp [Q9,Tryd.results8]
   first | rfl | simp [Z6,AV.J3,hE0]
 refine AWp.rg [] [.p (fun _=>.d (.int cl)) none] ?_ (hr:=by conv=>lhs;simp [Fn.row,Tm.row,Tm.Q3,Cs.Q3,hux,hpn,k0,k1,q7])
 refine AWp.cy ?_
 refine AWp.rg [] [] ?_ (hr:=by conv=>lhs;simp [Fn.row,Tm.row,Tm.Q3,Cs.Q3,hux,hpn,k0,k1,q7])
 refine AWp.ret ?_
 try dsimp only [Qq,Q8]
 apply Zk.ret
 ·rfl
 ·conv=>lhs;simp [Q9,Tryd.results8]
 first | rfl | simp [Z6,AV.J3,]
end Go.Proofs.YtjpldhjgehoffaaDoor
