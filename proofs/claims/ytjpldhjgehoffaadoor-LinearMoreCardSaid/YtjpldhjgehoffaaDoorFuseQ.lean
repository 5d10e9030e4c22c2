import Derived.Test.YtjpldhjgehoffaaDoorShowP
import Derived.Test.YtjpldhjgehoffaaDoorParseE
import Derived.Test.YtjpldhjgehoffaaDoorCheckA
import Derived.Test.YtjpldhjgehoffaaDoorCheckD
namespace Go.Proofs.YtjpldhjgehoffaaDoor
open Go.RowKit
attribute [local simp] Cq mkRc ldOf stOf Qz4 Fq M4 Rq K7 V3 Yv K4 J7 Y9 L9 evA Kv G8 Value.oneCell' Zj Q4 Z7 Iz Vz Z0 AS.after Z8 K8 Jv AV.ids Mq Qz.ids Qj3 F9 Wv U9 G6 Y0 Y5 Kk V9 V7 Yz Ov T9 setAt Vj Cj Gq Pj R9 Pk binI AV.cells J9 Jz R8 U1 AV.kill Qz.kill AV.has AV.K9 Op.operands Call.operands Gj Hw Zv Oz Zz Xz Tk moQ M6 Uz Yw AV.ren Tj Qz.ren Qz.like kept X8 M5 AV.frz Pz Cw Ex H9 F3 AS.frz Mv Uw Qz.frz Rx Rj bleF Nat.ble_eq R4 Ww K3 D.Yx F5 Uv Vx Vq phO Px Gz Wx U0 K6 Low Sq
set_option linter.unusedVariables false
set_option linter.unusedSimpArgs false
abbrev wkO (c : Int) : Qz:=.blk 114 [.d (.int c)]
def bsR (b : ByteArray×Tm) : List D:=.str b.1 :: b.2.row
def WtN (N : Nat) : Prop:=∀ (t : Tm) (c : Int),t.Rt N→t.Ok →
 X3 Tryd.prog 59 [.ptr 1000 0,Xw t] [(1000,wkO c)] (Xw (t.pl c).1) [(1000,wkO (t.pl c).2)]
set_option maxRecDepth 20000 in
set_option maxHeartbeats 16000000 in
theorem cs_atoms (N : Nat) (ih : WtN N) (l : List Tm) (c : Int) (hn : l.length≤6) (hl : ∀ x∈l,x.Rt N∧x.Ok) : X3 Tryd.prog 96 [.ptr 1000 0,.d (.sl (l.map Tm.row))] [(1000,wkO c)] (.tuple [.d (.sl ((Tm.ats l c).1.map Tm.row)),.d (.sl ((Tm.ats l c).2.1.map bsR))]) [(1000,wkO (Tm.ats l c).2.2)]:=by
 obtain ⟨R,hR⟩ : ∃ R,R = Tm.ats l c:=⟨_,rfl⟩
 rw [← hR]
 refine X3.of Tryd.func96 rfl rfl (Nat.le_of_ble_eq_true rfl) ?_
 show AWp _ _ (Qv _ Tryd.f96 _ _) (X8 53 _ _)
 refine AWp.rg [] [] ?_ (hr:=by conv=>lhs;simp [Tm.row,Tm.Q3,Cs.Q3,F6,bsR])
 refine AWp.rg [] [] ?_ (hr:=by conv=>lhs;simp [Tm.row,Tm.Q3,Cs.Q3,F6,bsR])
 refine AWp.rg [] [] ?_ (hr:=by conv=>lhs;simp [Tm.row,Tm.Q3,Cs.Q3,F6,bsR])
 refine AWp.rg [] [] ?_ (hr:=by conv=>lhs;simp [Tm.row,Tm.Q3,Cs.Q3,F6,bsR])
 repeat (first | refine AWp.seq ?_ | refine AWp.block ?_)
 refine AWp.le (Le.low [400,401] [] (fr:=[(0,.ptr 1000 0),(6,.arr 400 0 ([] : List Tm).length),(7,.arr 401 0 ([] : Bs).length),(11,.d (.sl (l.map Tm.row))),(12,.d (.int (l.length : Int))),(13,.d (.int (0 : Int)))]) (mem:=[(400,some (.arr 32 7 (([] : List Tm).map Tm.row))),(401,some (.arr 180 8 (([] : Bs).map bsR))),(1000,some (.blk 114 [.d (.int (c : Int))]))]) rfl (by simp) (by simp)) ?_
 refine AWp.loop (σ:=fun u : {u : Nat×List Tm×Bs×Int // u.1≤l.length∧(Tm.ats l c = (u.2.1 ++ (Tm.ats (l.drop u.1) u.2.2.2).1,u.2.2.1 ++ (Tm.ats (l.drop u.1) u.2.2.2).2.1,(Tm.ats (l.drop u.1) u.2.2.2).2.2)∧u.2.1.length = u.1∧u.2.2.1.length≤u.1)}=>⟨53,[(0,.ptr 1000 0),(6,.arr 400 0 u.1.2.1.length),(7,.arr 401 0 u.1.2.2.1.length),(11,.d (.sl (l.map Tm.row))),(12,.d (.int (l.length : Int))),(13,.d (.int (u.1.1 : Int)))],[(400,some (.arr 32 7 (u.1.2.1.map Tm.row))),(401,some (.arr 180 8 (u.1.2.2.1.map bsR))),(1000,some (.blk 114 [.d (.int u.1.2.2.2)]))]⟩)
  (μ:=fun u=>l.length - u.1.1) ⟨(0,[],[],c),⟨Nat.zero_le _,⟨by simp,rfl,Nat.le_refl _⟩⟩⟩ (Le.sub (by simp) (by simp)) (fun ⟨(i,vs,bs,k),⟨hi4,hw⟩⟩=>?_)
 dsimp only at hi4 hw ⊢
 refine AWp.rg [] [] ?_ (hr:=by conv=>lhs;simp [Tm.row,Tm.Q3,Cs.Q3,F6,bsR])
 repeat (first | refine AWp.seq ?_ | refine AWp.block ?_)
 refine AWp.cond rfl (fun hc=>?_) (fun hc=>?_)
 ·have hi1 : i < l.length:=by have:=of_decide_eq_true hc;omega
  clear hc
  have h1y : l[i]? = some l[i]:=List.getElem?_eq_getElem hi1
  have hmy : l[i]∈l:=List.getElem_mem hi1
  have hdy : l.drop i = l[i] :: l.drop (i + 1):=List.drop_eq_getElem_cons hi1
  generalize l[i] = y at h1y hmy hdy
  obtain ⟨hap,hvl,hbl⟩:=hw
  rw [hdy,Tm.ats] at hap
  obtain ⟨hyR,hyO⟩:=hl y hmy
  obtain ⟨yk,yn,ya,yb,yvs,yxs,ycs⟩:=y
  rw [Tm.tk] at hap
  refine AWp.skip ?_
  refine AWp.rg [] [] ?_ (hr:=by conv=>lhs;simp [Tm.row,Tm.Q3,Cs.Q3,F6,bsR,h1y])
  by_cases q1 : yk = 1
  ·refine AWp.rg [] [] ?_ (hr:=by conv=>lhs;simp [Tm.row,Tm.Q3,Cs.Q3,F6,bsR,h1y,q1])
   refine AWp.cy ?_
   subst q1
   rw [if_pos rfl] at hap
   refine AWp.rg [] [] ?_ (hr:=by conv=>lhs;simp [Tm.row,Tm.Q3,Cs.Q3,F6,bsR,h1y])
   refine AWp.exit ?_
   refine AWp.rg [] [] ?_ (hr:=by conv=>lhs;simp [Tm.row,Tm.Q3,Cs.Q3,F6,bsR,h1y])
   refine ⟨⟨(i + 1,vs ++ [.mk 1 yn ya yb yvs yxs ycs],bs,k),hi1,⟨by rw [hap];simp,by simp [hvl],by dsimp only;omega⟩⟩,by simp;omega,?_⟩
   dsimp only
   exact Le.sub (by simp [bsR,Tm.row,Tm.Q3,Cs.Q3,hvl]) (by simp [bsR,Tm.row,Tm.Q3,Cs.Q3,hvl])
  refine AWp.rg [] [] ?_ (hr:=by conv=>lhs;simp [Tm.row,Tm.Q3,Cs.Q3,F6,bsR,h1y,q1])
  refine AWp.cn ?_
  refine AWp.skip ?_
  rw [if_neg q1] at hap
  obtain ⟨e,he⟩ : ∃ e : Int,wr (k + 1) = e:=⟨_,rfl⟩
  rw [he] at hap
  have heI : inI e:=by rw [← he];exact wr_in _
  have hit:=sp_Itoa e heI
  have hsz:=Nz heI
  have h1s : (⟨#[119]⟩ : ByteArray).size = 1:=rfl
  have hx:=ih (.mk yk yn ya yb yvs yxs ycs) e hyR hyO
  generalize (Tm.mk yk yn ya yb yvs yxs ycs).pl e = o at hx hap
  obtain ⟨z,c2⟩:=o
  dsimp only at hx hap
  obtain ⟨zk,zn,za,zb,zvs,zxs,zcs⟩:=z
  refine AWp.rg [4] [] ?_ (hr:=by conv=>lhs;simp [Tm.row,Tm.Q3,Cs.Q3,F6,bsR,h1y,he,q1])
  refine AWp.rg [] [.p (fun _=>.d (.str (D5 e))) none] ?_ (hr:=by conv=>lhs;simp [Tm.row,Tm.Q3,Cs.Q3,F6,bsR,h1y,he,q1])
  obtain ⟨s,hs⟩ : ∃ s,s = ⟨#[119]⟩ ++ D5 e:=⟨_,rfl⟩
  rw [← hs]
  rw [wNm,← hs] at hap
  refine AWp.rg [] [.c [] [.ptr 1000 0,.agg [.d (.int yk),.d (.int yn),.d (.str ya),.d (.str yb),.d (Q7 yvs),.d (.sl (yxs.map Tm.row)),.d (.sl (ycs.map Cs.row))]] [(1000,.blk 114 [.d (.int e)])] (.agg [.d (.int zk),.d (.int zn),.d (.str za),.d (.str zb),.d (Q7 zvs),.d (.sl (zxs.map Tm.row)),.d (.sl (zcs.map Cs.row))]) [(1000,.blk 114 [.d (.int c2)])]] ?_ (hr:=by conv=>lhs;simp [Tm.row,Tm.Q3,Cs.Q3,F6,bsR,h1y,q1])
  refine AWp.rg [] [] ?_ (hr:=by conv=>lhs;simp [Tm.row,Tm.Q3,Cs.Q3,F6,bsR,h1y,q1])
  refine AWp.rg [] [] ?_ (hr:=by conv=>lhs;simp [Tm.row,Tm.Q3,Cs.Q3,F6,bsR,h1y,q1])
  refine ⟨⟨(i + 1,vs ++ [.mk 1 0 s .empty [] [] []],bs ++ [(s,.mk zk zn za zb zvs zxs zcs)],c2),hi1,⟨by rw [hap];simp [varT],by simp [hvl],by dsimp only;simp;omega⟩⟩,by simp;omega,?_⟩
  dsimp only
  exact Le.sub (by simp [bsR,Tm.row,Tm.Q3,Cs.Q3,hvl]) (by simp [bsR,Tm.row,Tm.Q3,Cs.Q3,hvl])
 have hi1 : i = l.length:=by have:=of_decide_eq_false hc;omega
 subst hi1
 clear hc
 obtain ⟨hap,hvl,hbl⟩:=hw
 rw [List.drop_length,Tm.ats] at hap
 simp only [List.append_nil] at hap
 rw [hap] at hR
 try dsimp only at hR
 subst hR
 refine AWp.exit ?_
 refine AWp.rg [] [] ?_ (hr:=by conv=>lhs;simp [Tm.row,Tm.Q3,Cs.Q3,F6,bsR])
 refine AWp.ret ?_
 try dsimp only [Qq,Q8]
 apply Qv.Qq1 [400,401]
 ·rfl
 ·conv=>lhs;simp
 ·conv=>lhs;simp [Q9,Tryd.results96]
 ·rfl
 ·simp [Qj,Q4]
set_option maxRecDepth 20000 in
set_option maxHeartbeats 16000000 in
theorem sp_around (bs : Bs) (tk tn : Int) (ta tb : ByteArray) (tvs : List ByteArray) (txs : List Tm) (tcs : List Cs) (hn : bs.length≤6) : Qw Tryd.prog 97 [.d (.sl (bs.map bsR)),Xw (.mk tk tn ta tb tvs txs tcs)] (fun _=>Xw (around bs (.mk tk tn ta tb tvs txs tcs))) none:=by
 obtain ⟨R,hR⟩ : ∃ R,R = around bs (.mk tk tn ta tb tvs txs tcs):=⟨_,rfl⟩
 rw [← hR]
 obtain ⟨rk,rn,ra,rb,rvs,rxs,rcs⟩:=R
 refine Qw.of Tryd.func97 rfl rfl rfl (Nat.le_of_ble_eq_true rfl) ?_
 show AWp _ _ (Zk _ Tryd.f97 _ _ _) (Z7 27 _)
 refine AWp.rg [] [] ?_ (hr:=by conv=>lhs;simp [Tm.row,Tm.Q3,Cs.Q3,bsR])
 refine AWp.rg [] [] ?_ (hr:=by conv=>lhs;simp [Tm.row,Tm.Q3,Cs.Q3,bsR])
 repeat (first | refine AWp.seq ?_ | refine AWp.block ?_)
 refine AWp.loop (σ:=fun u : {u : Nat×Int×Int×ByteArray×ByteArray×List ByteArray×List Tm×List Cs // (around bs (.mk tk tn ta tb tvs txs tcs) = around (bs.take u.1) (.mk u.2.1 u.2.2.1 u.2.2.2.1 u.2.2.2.2.1 u.2.2.2.2.2.1 u.2.2.2.2.2.2.1 u.2.2.2.2.2.2.2)∧u.1≤bs.length)}=>⟨27,[(0,.d (.sl (bs.map bsR))),(3,.ptr 3 0),(4,.ptr 4 0),(5,.d (.int ((u.1.1 : Int) - 1)))],[(3,some (.blk 32 [.d (.int u.1.2.1),.d (.int u.1.2.2.1),.d (.str u.1.2.2.2.1),.d (.str u.1.2.2.2.2.1),.d (Q7 u.1.2.2.2.2.2.1),.d (.sl (u.1.2.2.2.2.2.2.1.map Tm.row)),.d (.sl (u.1.2.2.2.2.2.2.2.map Cs.row))])),(4,some (.blk 32 [.d (.int 0),.d (.int 0),.d (.str ByteArray.empty),.d (.str ByteArray.empty),.lit (.slice none 0 0),.lit (.slice none 0 0),.lit (.slice none 0 0)]))]⟩)
  (μ:=fun u=>u.1.1) ⟨(bs.length,tk,tn,ta,tb,tvs,txs,tcs),⟨by rw [List.take_length],Nat.le_refl _⟩⟩ (Le.sub (by simp) (by simp)) (fun ⟨(j0,zk,zn,za,zb,zvs,zxs,zcs),hw⟩=>?_)
 dsimp only at hw ⊢
 obtain ⟨hw,hj⟩:=hw
 rcases j0 with _ | j
 ·rw [show ((0 : Nat) : Int) - 1 = -1 from rfl]
  refine AWp.rg [] [] ?_ (hr:=by conv=>lhs;simp [Tm.row,Tm.Q3,Cs.Q3,bsR])
  refine AWp.cn ?_
  refine AWp.exit ?_
  rw [List.take_zero] at hw
  obtain ⟨rfl,rfl,rfl,rfl,rfl,rfl,rfl⟩ : zk = rk∧zn = rn∧za = ra∧zb = rb∧zvs = rvs∧zxs = rxs∧zcs = rcs:=by simpa [around] using (hR.trans hw).symm
  refine AWp.rg [] [] ?_ (hr:=by conv=>lhs;simp [Tm.row,Tm.Q3,Cs.Q3,bsR])
  refine AWp.ret ?_
  try dsimp only [Qq,Q8]
  apply Zk.ret
  ·rfl
  ·conv=>lhs;simp [Q9,Tryd.results97]
  first | rfl | simp [Z6,Xw]
 rw [show ((j + 1 : Nat) : Int) - 1 = (j : Int) by omega]
 have hk0:=eq_true (Int.natCast_nonneg j)
 have hk1 : j < bs.length:=by omega
 have h1p : bs[j]? = some bs[j]:=List.getElem?_eq_getElem hk1
 have htk : bs.take (j + 1) = bs.take j ++ [bs[j]]:=by rw [List.take_add_one,h1p];rfl
 generalize bs[j] = p at h1p htk
 obtain ⟨bn,xk,xn,xa,xb,xvs,xxs,xcs⟩:=p
 rw [htk,around_append] at hw
 dsimp only [around] at hw
 refine AWp.rg [] [] ?_ (hr:=by conv=>lhs;simp [Tm.row,Tm.Q3,Cs.Q3,bsR,h1p,hk0])
 refine AWp.cy ?_
 refine AWp.skip ?_
 refine AWp.dw [11] [] mixed ?_ (hr:=by conv=>lhs;simp [Tm.row,Tm.Q3,Cs.Q3,bsR,h1p,hk0])
 repeat (first | refine AWp.seq ?_ | refine AWp.block ?_)
 refine AWp.le (Le.low [] [] (fr:=[(0,.d (.sl (bs.map bsR))),(3,.ptr 3 0),(4,.ptr 4 0),(5,.d (.int (j : Int)))]) (mem:=[(3,some (.blk 32 [.d (.int 6),.d (.int 0),.d (.str bn),.d (.str ByteArray.empty),.d (.sl []),.d (.sl [[.int xk,.int xn,.str xa,.str xb,Q7 xvs,.sl (xxs.map Tm.row),.sl (xcs.map Cs.row)],[.int zk,.int zn,.str za,.str zb,Q7 zvs,.sl (zxs.map Tm.row),.sl (zcs.map Cs.row)]]),.d (.sl [])])),(4,some (.blk 32 [.d (.int 0),.d (.int 0),.d (.str ByteArray.empty),.d (.str ByteArray.empty),.lit (.slice none 0 0),.lit (.slice none 0 0),.lit (.slice none 0 0)]))]) rfl (by simp) (by simp)) ?_
 refine AWp.rg [] [] ?_ (hr:=by conv=>lhs;simp [Tm.row,Tm.Q3,Cs.Q3,bsR,h1p,hk0])
 refine ⟨⟨(j,6,0,bn,.empty,[],[.mk xk xn xa xb xvs xxs xcs,.mk zk zn za zb zvs zxs zcs],[]),⟨hw,by omega⟩⟩,by simp only [];omega,?_⟩
 dsimp only
 exact Le.sub (by simp [Tm.row,Tm.Q3,Cs.Q3,Q7]) (by simp [Tm.row,Tm.Q3,Cs.Q3,Q7])
theorem I8 : ∀ (l : List Tm) (c : Int),(Tm.ats l c).2.1.length≤l.length
 | [],_=>Nat.le_refl _
 | x :: r,c=>by
  rw [Tm.ats]
  split
  ·have:=I8 r c
   simp;omega
  ·have:=I8 r (x.pl (wr (c + 1))).2
   simp;omega
set_option maxRecDepth 20000 in
set_option maxHeartbeats 16000000 in
theorem wt_step (N : Nat) (ih : WtN N) : WtN (N + 1):=by
 intro t c hRt hO
 obtain ⟨R,hR⟩ : ∃ R,R = t.pl c:=⟨_,rfl⟩
 rw [← hR]
 obtain ⟨tk,tn,ta,tb,tvs,txs,tcs⟩:=t
 obtain ⟨hkk,hmany,h6,hxR,hcR0⟩:=hRt
 have hxO : ∀ x∈txs,x.Ok:=fun x hx=>Tm.Zq.1 hO.2.2.1 x hx
 have hcR : ∀ d∈tcs,d.3.Rt N∧d.3.Ok:=fun d hd=>⟨(hcR0 d hd).2,by
  obtain ⟨dt,dws,y⟩:=d
  exact (Cs.Zq.1 hO.2.2.2 _ hd).2.2⟩
 refine X3.of Tryd.func59 rfl rfl (Nat.le_of_ble_eq_true rfl) ?_
 show AWp _ _ (Qv _ Tryd.f59 _ _) (X8 92 _ _)
 refine AWp.rg [] [] ?_ (hr:=by conv=>lhs;simp [Tm.row,Tm.Q3,Cs.Q3])
 refine AWp.rg [] [] ?_ (hr:=by conv=>lhs;simp [Tm.row,Tm.Q3,Cs.Q3])
 by_cases q1 : tk = 3
 ·refine AWp.rg [] [] ?_ (hr:=by conv=>lhs;simp [Tm.row,Tm.Q3,Cs.Q3,q1])
  refine AWp.cy ?_
  refine AWp.skip ?_
  refine AWp.cy ?_
  subst q1
  rw [Tm.pl,if_pos (by omega)] at hR
  have hat:=cs_atoms N ih txs c (by omega) (fun x hx=>⟨hxR x hx,hxO x hx⟩)
  have hbl:=I8 txs c
  generalize Tm.ats txs c = o at hat hR hbl
  obtain ⟨vs,bs,c2⟩:=o
  dsimp only at hat hR hbl
  have har:=sp_around bs 3 tn ta .empty [] vs [] (by omega)
  generalize around bs (.mk 3 tn ta .empty [] vs []) = z at har hR
  subst hR
  obtain ⟨zk,zn,za,zb,zvs,zxs,zcs⟩:=z
  replace har:=Qw.Qx1 (args:=[.d (.sl (bs.map bsR)),.agg [.d (.int 3),.d (.int tn),.d (.str ta),.d (.str .empty),.lit (.slice none 0 0),.d (.sl (vs.map Tm.row)),.lit (.slice none 0 0)]]) har
  refine AWp.rg [] [.c [] [.ptr 1000 0,.d (.sl (txs.map Tm.row))] [(1000,.blk 114 [.d (.int c)])] (.tuple [.d (.sl (vs.map Tm.row)),.d (.sl (bs.map bsR))]) [(1000,.blk 114 [.d (.int c2)])]] ?_ (hr:=by conv=>lhs;simp [Tm.row,Tm.Q3,Cs.Q3])
  refine AWp.rg [] [.p (fun _=>.agg [.d (.int zk),.d (.int zn),.d (.str za),.d (.str zb),.d (Q7 zvs),.d (.sl (zxs.map Tm.row)),.d (.sl (zcs.map Cs.row))]) none] ?_ (hr:=by conv=>lhs;simp [Tm.row,Tm.Q3,Cs.Q3])
  refine AWp.ret ?_
  try dsimp only [Qq,Q8]
  apply Qv.ret
  ·rfl
  ·conv=>lhs;simp [Q9,Tryd.results59]
  ·first | rfl | simp [Z6,Xw,Tm.row,Tm.Q3,Cs.Q3,AV.J3,U3,Q7]
  ·simp [Qj,Q4]
 refine AWp.rg [] [] ?_ (hr:=by conv=>lhs;simp [Tm.row,Tm.Q3,Cs.Q3,q1])
 refine AWp.cn ?_
 by_cases q2 : tk = 4
 ·refine AWp.rg [] [] ?_ (hr:=by conv=>lhs;simp [Tm.row,Tm.Q3,Cs.Q3,q1,q2])
  refine AWp.cy ?_
  refine AWp.skip ?_
  refine AWp.cy ?_
  subst q2
  rw [Tm.pl,if_pos (by omega)] at hR
  have hat:=cs_atoms N ih txs c (by omega) (fun x hx=>⟨hxR x hx,hxO x hx⟩)
  have hbl:=I8 txs c
  generalize Tm.ats txs c = o at hat hR hbl
  obtain ⟨vs,bs,c2⟩:=o
  dsimp only at hat hR hbl
  have har:=sp_around bs 4 tn ta .empty [] vs [] (by omega)
  generalize around bs (.mk 4 tn ta .empty [] vs []) = z at har hR
  subst hR
  obtain ⟨zk,zn,za,zb,zvs,zxs,zcs⟩:=z
  replace har:=Qw.Qx1 (args:=[.d (.sl (bs.map bsR)),.agg [.d (.int 4),.d (.int tn),.d (.str ta),.d (.str .empty),.lit (.slice none 0 0),.d (.sl (vs.map Tm.row)),.lit (.slice none 0 0)]]) har
  refine AWp.rg [] [.c [] [.ptr 1000 0,.d (.sl (txs.map Tm.row))] [(1000,.blk 114 [.d (.int c)])] (.tuple [.d (.sl (vs.map Tm.row)),.d (.sl (bs.map bsR))]) [(1000,.blk 114 [.d (.int c2)])]] ?_ (hr:=by conv=>lhs;simp [Tm.row,Tm.Q3,Cs.Q3,q1])
  refine AWp.rg [] [.p (fun _=>.agg [.d (.int zk),.d (.int zn),.d (.str za),.d (.str zb),.d (Q7 zvs),.d (.sl (zxs.map Tm.row)),.d (.sl (zcs.map Cs.row))]) none] ?_ (hr:=by conv=>lhs;simp [Tm.row,Tm.Q3,Cs.Q3,q1])
  refine AWp.ret ?_
  try dsimp only [Qq,Q8]
  apply Qv.ret
  ·rfl
  ·conv=>lhs;simp [Q9,Tryd.results59]
  ·first | rfl | simp [Z6,Xw,Tm.row,Tm.Q3,Cs.Q3,AV.J3,U3,Q7]
  ·simp [Qj,Q4]
 refine AWp.rg [] [] ?_ (hr:=by conv=>lhs;simp [Tm.row,Tm.Q3,Cs.Q3,q1,q2])
 refine AWp.cn ?_
 by_cases q3 : tk = 5
 ·refine AWp.rg [] [] ?_ (hr:=by conv=>lhs;simp [Tm.row,Tm.Q3,Cs.Q3,q1,q2,q3])
  refine AWp.cy ?_
  subst q3
  rw [Tm.pl,if_pos (by omega)] at hR
  have hat:=cs_atoms N ih txs c (by omega) (fun x hx=>⟨hxR x hx,hxO x hx⟩)
  have hbl:=I8 txs c
  generalize Tm.ats txs c = o at hat hR hbl
  obtain ⟨vs,bs,c2⟩:=o
  dsimp only at hat hR hbl
  have har:=sp_around bs 5 tn ta .empty [] vs [] (by omega)
  generalize around bs (.mk 5 tn ta .empty [] vs []) = z at har hR
  subst hR
  obtain ⟨zk,zn,za,zb,zvs,zxs,zcs⟩:=z
  replace har:=Qw.Qx1 (args:=[.d (.sl (bs.map bsR)),.agg [.d (.int 5),.d (.int tn),.d (.str ta),.d (.str .empty),.lit (.slice none 0 0),.d (.sl (vs.map Tm.row)),.lit (.slice none 0 0)]]) har
  refine AWp.rg [] [.c [] [.ptr 1000 0,.d (.sl (txs.map Tm.row))] [(1000,.blk 114 [.d (.int c)])] (.tuple [.d (.sl (vs.map Tm.row)),.d (.sl (bs.map bsR))]) [(1000,.blk 114 [.d (.int c2)])]] ?_ (hr:=by conv=>lhs;simp [Tm.row,Tm.Q3,Cs.Q3,q1,q2])
  refine AWp.rg [] [.p (fun _=>.agg [.d (.int zk),.d (.int zn),.d (.str za),.d (.str zb),.d (Q7 zvs),.d (.sl (zxs.map Tm.row)),.d (.sl (zcs.map Cs.row))]) none] ?_ (hr:=by conv=>lhs;simp [Tm.row,Tm.Q3,Cs.Q3,q1,q2])
  refine AWp.ret ?_
  try dsimp only [Qq,Q8]
  apply Qv.ret
  ·rfl
  ·conv=>lhs;simp [Q9,Tryd.results59]
  ·first | rfl | simp [Z6,Xw,Tm.row,Tm.Q3,Cs.Q3,AV.J3,U3,Q7]
  ·simp [Qj,Q4]
 refine AWp.rg [] [] ?_ (hr:=by conv=>lhs;simp [Tm.row,Tm.Q3,Cs.Q3,q1,q2,q3])
 refine AWp.cn ?_
 by_cases q4 : tk = 6
 ·refine AWp.rg [] [] ?_ (hr:=by conv=>lhs;simp [Tm.row,Tm.Q3,Cs.Q3,q1,q2,q3,q4])
  refine AWp.cy ?_
  subst q4
  have hx2 : txs.length = 2∧tcs = []:=by
   unfold Xq at hmany
   simp at hmany
   exact hmany
  obtain ⟨hx2,rfl⟩:=hx2
  obtain ⟨x,y,rfl⟩ : ∃ x y,txs = [x,y]:=by
   rcases txs with _ | ⟨x,_ | ⟨y,_ | ⟨z,l⟩⟩⟩
   ·cases hx2
   ·cases hx2
   ·exact ⟨x,y,rfl⟩
   ·simp at hx2
  have hxx:=ih x c (hxR x (by simp)) (hxO x (by simp))
  rw [Tm.pl,if_neg (by omega),if_pos rfl,Tm.plL,Tm.plL,Tm.plL] at hR
  dsimp only at hR
  generalize x.pl c = o at hxx hR
  obtain ⟨z,c1⟩:=o
  dsimp only at hxx hR
  have hyy:=ih y c1 (hxR y (by simp)) (hxO y (by simp))
  generalize y.pl c1 = o at hyy hR
  obtain ⟨u,c2⟩:=o
  dsimp only at hyy hR
  subst hR
  obtain ⟨xk,xn,xa,xb,xvs,xxs,xcs⟩:=x
  obtain ⟨yk,yn,ya,yb,yvs,yxs,ycs⟩:=y
  obtain ⟨zk,zn,za,zb,zvs,zxs,zcs⟩:=z
  obtain ⟨uk,un,ua,ub,uvs,uxs,ucs⟩:=u
  refine AWp.rg [] [.c [] [.ptr 1000 0,.agg [.d (.int xk),.d (.int xn),.d (.str xa),.d (.str xb),.d (Q7 xvs),.d (.sl (xxs.map Tm.row)),.d (.sl (xcs.map Cs.row))]] [(1000,.blk 114 [.d (.int c)])] (.agg [.d (.int zk),.d (.int zn),.d (.str za),.d (.str zb),.d (Q7 zvs),.d (.sl (zxs.map Tm.row)),.d (.sl (zcs.map Cs.row))]) [(1000,.blk 114 [.d (.int c1)])]] ?_ (hr:=by conv=>lhs;simp [Tm.row,Tm.Q3,Cs.Q3,q1,q2,q3])
  refine AWp.dw [9] [.c [] [.ptr 1000 0,.agg [.d (.int yk),.d (.int yn),.d (.str ya),.d (.str yb),.d (Q7 yvs),.d (.sl (yxs.map Tm.row)),.d (.sl (ycs.map Cs.row))]] [(1000,.blk 114 [.d (.int c1)])] (.agg [.d (.int uk),.d (.int un),.d (.str ua),.d (.str ub),.d (Q7 uvs),.d (.sl (uxs.map Tm.row)),.d (.sl (ucs.map Cs.row))]) [(1000,.blk 114 [.d (.int c2)])]] mixed ?_ (hr:=by conv=>lhs;simp [Tm.row,Tm.Q3,Cs.Q3,q1,q2,q3])
  refine AWp.ret ?_
  try dsimp only [Qq,Q8]
  apply Qv.ret
  ·rfl
  ·conv=>lhs;simp [Q9,Tryd.results59]
  ·first | rfl | simp [Z6,Xw,Tm.row,Tm.Q3,Cs.Q3,AV.J3,U3,Q7]
  ·simp [Qj,Q4]
 refine AWp.rg [] [] ?_ (hr:=by conv=>lhs;simp [Tm.row,Tm.Q3,Cs.Q3,q1,q2,q3,q4])
 refine AWp.cn ?_
 by_cases q5 : tk = 7
 ·refine AWp.rg [] [] ?_ (hr:=by conv=>lhs;simp [Tm.row,Tm.Q3,Cs.Q3,q1,q2,q3,q4,q5])
  refine AWp.cy ?_
  subst q5
  rw [Tm.pl,if_neg (by omega),if_neg (by omega),if_pos rfl] at hR
  have hat:=cs_atoms N ih txs c (by omega) (fun x hx=>⟨hxR x hx,hxO x hx⟩)
  have hbl:=I8 txs c
  generalize Tm.ats txs c = o at hat hR hbl
  obtain ⟨vs,bs,c2⟩:=o
  dsimp only at hat hR hbl
  refine AWp.rg [] [.c [] [.ptr 1000 0,.d (.sl (txs.map Tm.row))] [(1000,.blk 114 [.d (.int c)])] (.tuple [.d (.sl (vs.map Tm.row)),.d (.sl (bs.map bsR))]) [(1000,.blk 114 [.d (.int c2)])]] ?_ (hr:=by conv=>lhs;simp [Tm.row,Tm.Q3,Cs.Q3,q1,q2,q3,q4])
  refine AWp.rg [] [] ?_ (hr:=by conv=>lhs;simp [Tm.row,Tm.Q3,Cs.Q3,q1,q2,q3,q4])
  refine AWp.rg [] [] ?_ (hr:=by conv=>lhs;simp [Tm.row,Tm.Q3,Cs.Q3,q1,q2,q3,q4])
  repeat (first | refine AWp.seq ?_ | refine AWp.block ?_)
  refine AWp.le (Le.low [400] [] (fr:=[(0,.ptr 1000 0),(4,.ptr 4 0),(9,.d (.sl (bs.map bsR))),(10,.ptr 10 0),(67,.d (.sl (tcs.map Cs.row))),(68,.d (.int (tcs.length : Int))),(69,.d (.int (0 : Int)))]) (mem:=[(4,some (.blk 32 [.d (.int 0),.d (.int 0),.d (.str ByteArray.empty),.d (.str ByteArray.empty),.lit (.slice none 0 0),.lit (.slice none 0 0),.lit (.slice none 0 0)])),(10,some (.blk 32 [.d (.int 7),.d (.int 0),.d (.str ByteArray.empty),.d (.str ByteArray.empty),.lit (.slice none 0 0),.d (.sl (vs.map Tm.row)),.arr 400 0 ([] : List Cs).length])),(400,some (.arr 42 9 (([] : List Cs).map Cs.row))),(1000,some (.blk 114 [.d (.int (c2 : Int))]))]) rfl (by simp) (by simp)) ?_
  refine AWp.loop (σ:=fun u : {u : Nat×List Cs×Int // u.1≤tcs.length∧(Cs.plL tcs c2 = (u.2.1 ++ (Cs.plL (tcs.drop u.1) u.2.2).1,(Cs.plL (tcs.drop u.1) u.2.2).2)∧u.2.1.length = u.1)}=>⟨92,[(0,.ptr 1000 0),(4,.ptr 4 0),(9,.d (.sl (bs.map bsR))),(10,.ptr 10 0),(67,.d (.sl (tcs.map Cs.row))),(68,.d (.int (tcs.length : Int))),(69,.d (.int (u.1.1 : Int)))],[(4,some (.blk 32 [.d (.int 0),.d (.int 0),.d (.str ByteArray.empty),.d (.str ByteArray.empty),.lit (.slice none 0 0),.lit (.slice none 0 0),.lit (.slice none 0 0)])),(10,some (.blk 32 [.d (.int 7),.d (.int 0),.d (.str ByteArray.empty),.d (.str ByteArray.empty),.lit (.slice none 0 0),.d (.sl (vs.map Tm.row)),.arr 400 0 u.1.2.1.length])),(400,some (.arr 42 9 (u.1.2.1.map Cs.row))),(1000,some (.blk 114 [.d (.int u.1.2.2)]))]⟩)
   (μ:=fun u=>tcs.length - u.1.1) ⟨(0,[],c2),⟨Nat.zero_le _,⟨by simp,rfl⟩⟩⟩ (Le.sub (by simp) (by simp)) (fun ⟨(i,ds,c3),⟨hi14,hw⟩⟩=>?_)
  dsimp only at hi14 hw ⊢
  refine AWp.rg [] [] ?_ (hr:=by conv=>lhs;simp [Tm.row,Tm.Q3,Cs.Q3,q1,q2,q3,q4])
  repeat (first | refine AWp.seq ?_ | refine AWp.block ?_)
  refine AWp.cond rfl (fun hc=>?_) (fun hc=>?_)
  ·have hi1 : i < tcs.length:=by have:=of_decide_eq_true hc;omega
   clear hc
   have h1d : tcs[i]? = some tcs[i]:=List.getElem?_eq_getElem hi1
   have hmd : tcs[i]∈tcs:=List.getElem_mem hi1
   have hdd : tcs.drop i = tcs[i] :: tcs.drop (i + 1):=List.drop_eq_getElem_cons hi1
   generalize tcs[i] = d at h1d hmd hdd
   obtain ⟨hap,hdl⟩:=hw
   rw [hdd,Cs.plL] at hap
   obtain ⟨hyR,hyO⟩:=hcR d hmd
   obtain ⟨dt,dws,y⟩:=d
   try dsimp only at hyR hyO
   rw [Cs.pl] at hap
   have hx:=ih y c3 hyR hyO
   generalize y.pl c3 = o at hx hap
   obtain ⟨z,c4⟩:=o
   dsimp only at hx hap
   obtain ⟨dk,dn,da,db,dvs,dxs,dcs⟩:=y
   obtain ⟨zk,zn,za,zb,zvs,zxs,zcs⟩:=z
   refine AWp.skip ?_
   refine AWp.rg [] [] ?_ (hr:=by conv=>lhs;simp [Tm.row,Tm.Q3,Cs.Q3,h1d,Cs.row,q1,q2,q3,q4])
   refine AWp.dw [] [.c [] [.ptr 1000 0,.agg [.d (.int dk),.d (.int dn),.d (.str da),.d (.str db),.d (Q7 dvs),.d (.sl (dxs.map Tm.row)),.d (.sl (dcs.map Cs.row))]] [(1000,.blk 114 [.d (.int c3)])] (.agg [.d (.int zk),.d (.int zn),.d (.str za),.d (.str zb),.d (Q7 zvs),.d (.sl (zxs.map Tm.row)),.d (.sl (zcs.map Cs.row))]) [(1000,.blk 114 [.d (.int c4)])]] mixed ?_ (hr:=by conv=>lhs;simp [Tm.row,Tm.Q3,Cs.Q3,h1d,Cs.row,q1,q2,q3,q4])
   refine AWp.rg [] [] ?_ (hr:=by conv=>lhs;simp [Tm.row,Tm.Q3,Cs.Q3,h1d,Cs.row,q1,q2,q3,q4])
   refine ⟨⟨(i + 1,ds ++ [.mk dt dws (.mk zk zn za zb zvs zxs zcs)],c4),hi1,⟨by rw [hap];simp,by simp [hdl]⟩⟩,by simp;omega,?_⟩
   dsimp only
   exact Le.sub (by simp [Cs.row,Tm.row,Tm.Q3,Cs.Q3,hdl]) (by simp [Cs.row,Tm.row,Tm.Q3,Cs.Q3,hdl])
  have hi1 : i = tcs.length:=by have:=of_decide_eq_false hc;omega
  subst hi1
  clear hc
  obtain ⟨hap,hdl⟩:=hw
  rw [List.drop_length,Cs.plL] at hap
  simp only [List.append_nil] at hap
  rw [hap] at hR
  try dsimp only at hR
  have har:=sp_around bs 7 0 .empty .empty [] vs ds (by omega)
  generalize around bs (.mk 7 0 .empty .empty [] vs ds) = z at har hR
  subst hR
  obtain ⟨zk,zn,za,zb,zvs,zxs,zcs⟩:=z
  replace har:=Qw.Qx1 (args:=[.d (.sl (bs.map bsR)),.agg [.d (.int 7),.d (.int 0),.d (.str .empty),.d (.str .empty),.lit (.slice none 0 0),.d (.sl (vs.map Tm.row)),.d (.sl (ds.map Cs.row))]]) har
  have htk : List.take tcs.length (List.map Cs.row ds) = List.map Cs.row ds:=List.take_of_length_le (by simp;omega)
  refine AWp.exit ?_
  apply AWp.F3 [400]
  ·conv=>lhs;simp
  refine AWp.rg [] [.p (fun _=>.agg [.d (.int zk),.d (.int zn),.d (.str za),.d (.str zb),.d (Q7 zvs),.d (.sl (zxs.map Tm.row)),.d (.sl (zcs.map Cs.row))]) none] ?_ (hr:=by conv=>lhs;simp [Tm.row,Tm.Q3,Cs.Q3,htk,q1,q2,q3,q4])
  refine AWp.ret ?_
  try dsimp only [Qq,Q8]
  apply Qv.ret
  ·rfl
  ·conv=>lhs;simp [Q9,Tryd.results59]
  ·first | rfl | simp [Z6,Xw,Tm.row,Tm.Q3,Cs.Q3,AV.J3,U3,Q7]
  ·simp [Qj,Q4]
 refine AWp.rg [] [] ?_ (hr:=by conv=>lhs;simp [Tm.row,Tm.Q3,Cs.Q3,q1,q2,q3,q4,q5])
 refine AWp.cn ?_
 refine AWp.skip ?_
 obtain rfl : R = (.mk tk tn ta tb tvs txs tcs,c):=by rw [hR,Tm.pl,if_neg (by omega),if_neg (by omega),if_neg (by omega)]
 refine AWp.rg [] [] ?_ (hr:=by conv=>lhs;simp [Tm.row,Tm.Q3,Cs.Q3,q1,q2,q3,q4,q5])
 refine AWp.ret ?_
 try dsimp only [Qq,Q8]
 apply Qv.ret
 ·rfl
 ·conv=>lhs;simp [Q9,Tryd.results59]
 ·first | rfl | simp [Z6,Xw,Tm.row,Tm.Q3,Cs.Q3,AV.J3,U3,Q7]
 ·simp [Qj,Q4]
theorem wt_all : ∀ N,WtN N
 | 0=>fun _ _ h=>h.elim
 | N + 1=>wt_step N (wt_all N)
theorem Fn.rn_rt (f : Fn) (hr : f.body.Rt 25) : f.rn.body.Rt 25:=Go.Proofs.YtjpldhjgehoffaaDoor.rn_rt 25 f.body _ _ hr
set_option maxRecDepth 20000 in
set_option maxHeartbeats 16000000 in
theorem sp_Plain (f : Fn) (hb : f.body.Ok) (hr : f.body.Rt 25) (hp : f.params.length≤6) : Qw Tryd.prog 33 [W9 f] (fun _=>W9 f.pl) none:=by
 have hn:=sp_Named f hb hr hp
 have hx:=wt_all 25 f.rn.body 0 (f.rn_rt hr) (f.rn_ok hb hr)
 unfold Fn.pl
 generalize f.rn = g at hn hx ⊢
 obtain ⟨gg,gps,gy⟩:=g
 dsimp only at hx ⊢
 generalize gy.pl 0 = o at hx ⊢
 obtain ⟨z,c2⟩:=o
 dsimp only at hx ⊢
 obtain ⟨fg,fps,⟨fk,fn,fa,fb,fvs,fxs,fcs⟩⟩:=f
 obtain ⟨gk,gn,ga,gb,gvs,gxs,gcs⟩:=gy
 obtain ⟨zk,zn,za,zb,zvs,zxs,zcs⟩:=z
 dsimp only [W9] at hn
 refine Qw.of Tryd.func33 rfl rfl rfl (Nat.le_of_ble_eq_true rfl) ?_
 show AWp _ _ (Zk _ Tryd.f33 _ _ _) (Z7 13 _)
 refine AWp.rg [] [] ?_ (hr:=by conv=>lhs;simp [W9,Fn.row,Tm.row,Tm.Q3,Cs.Q3])
 refine AWp.rg [] [.p (fun _=>.agg [.d (.str gg),.d (Q7 gps),.d (.int gk),.d (.int gn),.d (.str ga),.d (.str gb),.d (Q7 gvs),.d (.sl (gxs.map Tm.row)),.d (.sl (gcs.map Cs.row))]) none] ?_ (hr:=by conv=>lhs;simp [W9,Fn.row,Tm.row,Tm.Q3,Cs.Q3])
 refine AWp.rg [] [.c [(1000,7)] [.ptr 1000 0,.agg [.d (.int gk),.d (.int gn),.d (.str ga),.d (.str gb),.d (Q7 gvs),.d (.sl (gxs.map Tm.row)),.d (.sl (gcs.map Cs.row))]] [(1000,.blk 114 [.d (.int 0)])] (.agg [.d (.int zk),.d (.int zn),.d (.str za),.d (.str zb),.d (Q7 zvs),.d (.sl (zxs.map Tm.row)),.d (.sl (zcs.map Cs.row))]) [(1000,.blk 114 [.d (.int c2)])]] ?_ (hr:=by conv=>lhs;simp [W9,Fn.row,Tm.row,Tm.Q3,Cs.Q3])
 refine AWp.rg [] [] ?_ (hr:=by conv=>lhs;simp [W9,Fn.row,Tm.row,Tm.Q3,Cs.Q3])
 refine AWp.ret ?_
 try dsimp only [Qq,Q8]
 apply Zk.ret
 ·rfl
 ·conv=>lhs;simp [Q9,Tryd.results33]
 rfl
set_option maxRecDepth 20000 in
set_option maxHeartbeats 16000000 in
theorem Qz7 (l : List Fn) (hl : l.length≤879609302220) (hall : ∀ f∈l,f.body.Ok∧f.body.Rt 25∧f.params.length≤6) : Qw Tryd.prog 32 [D7 l,.d (.fn 33)] (fun _=>D7 (l.map Fn.pl)) none:=by
 obtain ⟨G,hG⟩ : ∃ G,G = l.map Fn.pl:=⟨_,rfl⟩
 rw [← hG]
 refine Qw.of Tryd.func32 rfl rfl rfl (Nat.le_of_ble_eq_true rfl) ?_
 show AWp _ _ (Zk _ Tryd.f32 _ _ _) (Z7 22 _)
 refine AWp.rg [] [] ?_ (hr:=by conv=>lhs;simp [Fn.row,Tm.row,Tm.Q3,Cs.Q3])
 refine AWp.rg [] [] ?_ (hr:=by conv=>lhs;simp [Fn.row,Tm.row,Tm.Q3,Cs.Q3])
 refine AWp.rg [] [] ?_ (hr:=by conv=>lhs;simp [Fn.row,Tm.row,Tm.Q3,Cs.Q3])
 repeat (first | refine AWp.seq ?_ | refine AWp.block ?_)
 refine AWp.le (Le.low [400] [] (fr:=[(1,.d (.fn 33)),(5,.arr 400 0 ([] : List Fn).length),(8,.d (.sl (l.map Fn.row))),(9,.d (.int (l.length : Int))),(10,.d (.int (0 : Int)))]) (mem:=[(400,some (.arr 34 9 (([] : List Fn).map Fn.row)))]) rfl (by simp) (by simp)) ?_
 refine AWp.loop (σ:=fun u : {u : Nat×List Fn // u.1≤l.length∧u.2 = (l.take u.1).map Fn.pl}=>⟨22,[(1,.d (.fn 33)),(5,.arr 400 0 u.1.2.length),(8,.d (.sl (l.map Fn.row))),(9,.d (.int (l.length : Int))),(10,.d (.int (u.1.1 : Int)))],[(400,some (.arr 34 9 (u.1.2.map Fn.row)))]⟩)
  (μ:=fun u=>l.length - u.1.1) ⟨(0,[]),⟨Nat.zero_le _,by simp⟩⟩ (Le.sub (by simp) (by simp)) (fun ⟨(i,gs),⟨hi3,hw⟩⟩=>?_)
 dsimp only at hi3 hw ⊢
 refine AWp.rg [] [] ?_ (hr:=by conv=>lhs;simp [Fn.row,Tm.row,Tm.Q3,Cs.Q3])
 repeat (first | refine AWp.seq ?_ | refine AWp.block ?_)
 refine AWp.cond rfl (fun hc=>?_) (fun hc=>?_)
 ·have hi1 : i < l.length:=by have:=of_decide_eq_true hc;omega
  clear hc
  have h1f : l[i]? = some l[i]:=List.getElem?_eq_getElem hi1
  have hmf : l[i]∈l:=List.getElem_mem hi1
  have hdf : l.drop i = l[i] :: l.drop (i + 1):=List.drop_eq_getElem_cons hi1
  generalize l[i] = f at h1f hmf hdf
  have hgl : gs.length = i:=by rw [hw,List.length_map,List.length_take];omega
  obtain ⟨k1,k2,k3⟩:=hall f hmf
  have hx:=sp_Plain f k1 k2 k3
  generalize hz : f.pl = z at hx
  obtain ⟨fg,fps,⟨fk,fn,fa,fb,fvs,fxs,fcs⟩⟩:=f
  obtain ⟨zg,zps,⟨zk,zn,za,zb,zvs,zxs,zcs⟩⟩:=z
  dsimp only [W9] at hx
  refine AWp.skip ?_
  refine AWp.rg [] [] ?_ (hr:=by conv=>lhs;simp [Fn.row,Tm.row,Tm.Q3,Cs.Q3,h1f])
  refine AWp.rg [] [.p (fun _=>.agg [.d (.str zg),.d (Q7 zps),.d (.int zk),.d (.int zn),.d (.str za),.d (.str zb),.d (Q7 zvs),.d (.sl (zxs.map Tm.row)),.d (.sl (zcs.map Cs.row))]) none] ?_ (hr:=by conv=>lhs;simp [Fn.row,Tm.row,Tm.Q3,Cs.Q3,h1f])
  refine AWp.rg [] [] ?_ (hr:=by conv=>lhs;simp [Fn.row,Tm.row,Tm.Q3,Cs.Q3,h1f])
  refine ⟨⟨(i + 1,gs ++ [⟨zg,zps,.mk zk zn za zb zvs zxs zcs⟩]),hi1,by rw [hw,List.take_add_one,h1f,List.map_append,← hz];rfl⟩,by simp;omega,?_⟩
  dsimp only
  exact Le.sub (by simp [Fn.row,Tm.row,Tm.Q3,Cs.Q3,hgl]) (by simp [Fn.row,Tm.row,Tm.Q3,Cs.Q3,hgl])
 have hi1 : i = l.length:=by have:=of_decide_eq_false hc;omega
 subst hi1
 clear hc
 rw [List.take_length] at hw
 obtain rfl : gs = G:=by rw [hw,hG]
 refine AWp.exit ?_
 refine AWp.rg [] [] ?_ (hr:=by conv=>lhs;simp [Fn.row,Tm.row,Tm.Q3,Cs.Q3])
 refine AWp.ret ?_
 try dsimp only [Qq,Q8]
 apply Zk.Qq1 [400]
 ·rfl
 ·conv=>lhs;simp
 ·conv=>lhs;simp [Q9,Tryd.results32]
 rfl
@[simp] theorem le_maxLen18 : 18≤maxLen:=by decide
end Go.Proofs.YtjpldhjgehoffaaDoor
namespace Go.Proofs.YtjpldhjgehoffaaDoor
open Go.RowKit
set_option linter.unusedVariables false
set_option linter.unusedSimpArgs false
theorem around_ok : ∀ (bs : Bs) (t : Tm),(∀ b∈bs,b.1.size≤140737488355328∧b.2.Ok)→t.Ok→(around bs t).Ok
 | [],_,_,h=>h
 | b :: r,t,hb,h=>by
  have h1:=around_ok r t (fun x hx=>hb x (List.mem_cons_of_mem _ hx)) h
  obtain ⟨h2,h3⟩:=hb b (List.mem_cons_self ..)
  exact ⟨⟨h2,by simp,by simp⟩,⟨by simp,by simp,by simp⟩,⟨h3,h1,trivial⟩,trivial⟩
theorem varT_ok {s : ByteArray} (h : s.size≤140737488355328) : (varT s).Ok :=
 ⟨⟨h,by simp,by simp⟩,⟨by simp,by simp,by simp⟩,trivial,trivial⟩
theorem pl_ok : ∀ (d : Nat) (t : Tm) (c : Int),t.Rt d→t.Ok→(t.pl c).1.Ok:=by
 intro d
 induction d with
 | zero=>intro t _ h;exact h.elim
 | succ d ih =>
 intro t c hR hO
 obtain ⟨k,n,a,b,vs,xs,cs⟩:=t
 obtain ⟨_,_,_,hx,hc⟩:=hR
 obtain ⟨⟨o1,o2,o3⟩,⟨o4,o5,o6⟩,o7,o8⟩:=hO
 have o7':=Tm.Zq.1 o7
 have o8':=Cs.Zq.1 o8
 have hA : ∀ (ys : List Tm) (c : Int),(∀ y∈ys,y∈xs)→Tm.Oks (Tm.ats ys c).1∧∀ b∈(Tm.ats ys c).2.1,b.1.size≤140737488355328∧b.2.Ok:=by
  intro ys
  induction ys with
  | nil=>intro c _;exact ⟨trivial,fun b h=>by simp [Tm.ats] at h⟩
  | cons y r ih2 =>
   intro c hm
   have hy:=hm y (List.mem_cons_self ..)
   rw [Tm.ats]
   split
   ·obtain ⟨h1,h2⟩:=ih2 c fun z hz=>hm z (List.mem_cons_of_mem _ hz)
    exact ⟨⟨o7' y hy,h1⟩,h2⟩
   ·obtain ⟨h1,h2⟩:=ih2 (y.pl (wr (c + 1))).2 fun z hz=>hm z (List.mem_cons_of_mem _ hz)
    refine ⟨⟨varT_ok (wNm_le _),h1⟩,fun b hb=>?_⟩
    rcases List.mem_cons.1 hb with rfl | hb
    ·exact ⟨wNm_le _,ih y _ (hx y hy) (o7' y hy)⟩
    ·exact h2 b hb
 have hL : ∀ (ys : List Tm) (c : Int),(∀ y∈ys,y∈xs)→Tm.Oks (Tm.plL ys c).1∧(Tm.plL ys c).1.length = ys.length:=by
  intro ys
  induction ys with
  | nil=>intro c _;exact ⟨trivial,rfl⟩
  | cons y r ih2 =>
   intro c hm
   have hy:=hm y (List.mem_cons_self ..)
   obtain ⟨h1,h2⟩:=ih2 (y.pl c).2 fun z hz=>hm z (List.mem_cons_of_mem _ hz)
   rw [Tm.plL]
   exact ⟨⟨ih y c (hx y hy) (o7' y hy),h1⟩,by simp [h2]⟩
 have hC : ∀ (ys : List Cs) (c : Int),(∀ y∈ys,y∈cs)→Cs.Oks (Cs.plL ys c).1∧(Cs.plL ys c).1.length = ys.length:=by
  intro ys
  induction ys with
  | nil=>intro c _;exact ⟨trivial,rfl⟩
  | cons y r ih2 =>
   intro c hm
   have hy:=hm y (List.mem_cons_self ..)
   obtain ⟨h1,h2⟩:=ih2 (y.pl c).2 fun z hz=>hm z (List.mem_cons_of_mem _ hz)
   obtain ⟨t,ws,y⟩:=y
   obtain ⟨_,hyR⟩:=hc _ hy
   obtain ⟨p1,p2,p3⟩:=o8' _ hy
   rw [Cs.plL]
   rw [Cs.pl] at h1 h2 ⊢
   exact ⟨⟨⟨p1,p2,ih y c hyR p3⟩,h1⟩,by simp [h2]⟩
 rw [Tm.pl]
 split
 ·obtain ⟨h1,h2⟩:=hA xs c fun y hy=>hy
  refine around_ok _ _ h2 ⟨⟨o1,by simp,by simp⟩,⟨by simp,by rw [ats_len];exact o5,by simp⟩,h1,trivial⟩
 split
 ·obtain ⟨h1,h2⟩:=hL xs c fun y hy=>hy
  exact ⟨⟨o1,by simp,by simp⟩,⟨by simp,by rw [h2];exact o5,by simp⟩,h1,trivial⟩
 split
 ·obtain ⟨h1,h2⟩:=hA xs c fun y hy=>hy
  obtain ⟨h3,h4⟩:=hC cs (Tm.ats xs c).2.2 fun y hy=>hy
  exact around_ok _ _ h2 ⟨⟨by simp,by simp,by simp⟩,⟨by simp,by rw [ats_len];exact o5,by rw [h4];exact o6⟩,h1,h3⟩
 ·exact ⟨⟨o1,o2,o3⟩,⟨o4,o5,o6⟩,o7,o8⟩
theorem Fn.pl_ok (f : Fn) (hb : f.body.Ok) (hr : f.body.Rt 25) (hp : f.params.length≤6) : f.pl.body.Ok∧f.pl.params.length≤6 :=
 ⟨Go.Proofs.YtjpldhjgehoffaaDoor.pl_ok 25 _ 0 (f.rn_rt hr) (f.rn_ok hb hr),by unfold Fn.pl Fn.rn;dsimp only;rw [U4];exact hp⟩
mutual
def Tm.isP : Tm→Bool
 | .mk k _ _ _ _ xs cs=>Tm.isL k xs && Cs.isL cs
def Tm.isL (k : Int) : List Tm→Bool
 | []=>true
 | x :: r=>(if k = 6 then x.isP else decide (x.tk = 1)) && Tm.isL k r
def Cs.isL : List Cs→Bool
 | []=>true
 | c :: r=>c.isP && Cs.isL r
def Cs.isP : Cs→Bool
 | .mk _ _ y=>y.isP
end
def Tm.xs : Tm→List Tm
 | .mk _ _ _ _ _ xs _=>xs
def Tm.a0 (t : Tm) : Tm:=t.xs.headD t
mutual
def Tm.sr : Tm→List ByteArray→List ByteArray×Tm
 | .mk k n a b vs xs cs,rest=>if k = 8∧hasB rest a = true then Tm.srL xs (woN rest [a]) (.mk k n a b vs xs cs) else (rest,.mk k n a b vs xs cs)
def Tm.srL : List Tm→List ByteArray→Tm→List ByteArray×Tm
 | [],rest,t=>(rest,t)
 | x :: _,rest,_=>x.sr rest
end
def G7 (k : Int) (na : Nat) (nm : ByteArray) (ws : List ByteArray) (body : Tm) : Tm :=
 if ws.length≠0∧na = 1∧k = 7∧(body.sr ws).2.tk = 9∧(body.sr ws).2.nm = nm then .mk 10 0 nm .empty ws [cnt 9 (body.sr ws).1 (body.sr ws).2.a0] [] else body
mutual
def Tm.fu : Tm→Tm
 | .mk k n a b vs xs cs=>.mk k n a b vs (Tm.fuL xs) (Cs.fuL k xs.length (nmH xs) cs)
def Tm.fuL : List Tm→List Tm
 | []=>[]
 | x :: r=>x.fu :: Tm.fuL r
def Cs.fuL (k : Int) (na : Nat) (nm : ByteArray) : List Cs→List Cs
 | []=>[]
 | c :: r=>c.fu k na nm :: Cs.fuL k na nm r
def Cs.fu (k : Int) (na : Nat) (nm : ByteArray) : Cs→Cs
 | .mk t ws y=>.mk t ws (G7 k na nm ws y.fu)
end
theorem Tm.Qj1 : ∀ l : List Tm,Tm.fuL l = l.map Tm.fu
 | []=>rfl
 | x :: r=>by rw [Tm.fuL,Tm.Qj1 r];rfl
theorem Cs.Qj1 (k : Int) (na : Nat) (nm : ByteArray) : ∀ l : List Cs,Cs.fuL k na nm l = l.map (Cs.fu k na nm)
 | []=>rfl
 | x :: r=>by rw [Cs.fuL,Cs.Qj1 k na nm r];rfl
theorem Tm.fu_nm (t : Tm) : t.fu.nm = t.nm:=by
 obtain ⟨k,n,a,b,vs,xs,cs⟩:=t
 rw [Tm.fu];rfl
def Fn.fu (f : Fn) : Fn:=⟨f.name,f.params,f.body.fu⟩
mutual
def Tm.Du : Tm→Prop
 | .mk k _ _ _ _ xs cs=>(k = 8∨k = 9→xs≠[])∧Tm.DuL xs∧Cs.DuL cs
def Tm.DuL : List Tm→Prop
 | []=>True
 | x :: r=>x.Du∧Tm.DuL r
def Cs.DuL : List Cs→Prop
 | []=>True
 | c :: r=>c.Du∧Cs.DuL r
def Cs.Du : Cs→Prop
 | .mk _ ws y=>ws.length≤6∧y.Du
end
theorem Tm.Bz : ∀ {l : List Tm},Tm.DuL l↔∀ x∈l,x.Du
 | []=>by simp [Tm.DuL]
 | x :: r=>by simp [Tm.DuL,Tm.Bz (l:=r)]
theorem Cs.Bz : ∀ {l : List Cs},Cs.DuL l↔∀ x∈l,x.Du
 | []=>by simp [Cs.DuL]
 | x :: r=>by simp [Cs.DuL,Cs.Bz (l:=r)]
theorem Tm.Du.a0 {t : Tm} (h : t.Du) : t.a0.Du:=by
 obtain ⟨k,n,a,b,vs,xs,cs⟩:=t
 unfold Tm.a0 Tm.xs
 rcases xs with _ | ⟨x,r⟩
 ·exact h
 ·exact h.2.1.1
theorem cnt_du {k : Int} : ∀ (l : List ByteArray) {t : Tm},t.Du→(cnt k l t).Du
 | [],_,h=>h
 | s :: r,t,h=>⟨fun _=>by simp,⟨cnt_du r h,trivial⟩,trivial⟩
theorem cnt_ok {k : Int} : ∀ (l : List ByteArray) {t : Tm},(∀ s∈l,s.size≤140737488355328)→t.Ok→(cnt k l t).Ok
 | [],_,_,h=>h
 | s :: r,t,hl,h=>⟨⟨hl s (List.mem_cons_self ..),by simp,by simp⟩,⟨by simp,by simp,by simp⟩,⟨cnt_ok r (fun x hx=>hl x (List.mem_cons_of_mem _ hx)) h,trivial⟩,trivial⟩
theorem Tm.Ok.a0 {t : Tm} (h : t.Ok) : t.a0.Ok:=by
 obtain ⟨k,n,a,b,vs,xs,cs⟩:=t
 unfold Tm.a0 Tm.xs
 rcases xs with _ | ⟨x,r⟩
 ·exact h
 ·exact h.2.2.1.1
mutual
theorem Tm.sr_ok : ∀ (t : Tm) (rest : List ByteArray),t.Ok→t.Du→(t.sr rest).2.Ok∧(t.sr rest).2.Du∧∀ s∈(t.sr rest).1,s∈rest
 | .mk k n a b vs xs cs,rest,h,hd=>by
  rw [Tm.sr]
  split
  ·obtain ⟨h1,h2,h3⟩:=Tm.srL_ok xs (woN rest [a]) (.mk k n a b vs xs cs) h hd h.2.2.1 hd.2.1
   exact ⟨h1,h2,fun s hs=>(List.mem_filter.1 (h3 s hs)).1⟩
  ·exact ⟨h,hd,fun s hs=>hs⟩
theorem Tm.srL_ok : ∀ (l : List Tm) (rest : List ByteArray) (t : Tm),t.Ok→t.Du→Tm.Oks l→Tm.DuL l→(Tm.srL l rest t).2.Ok∧(Tm.srL l rest t).2.Du∧∀ s∈(Tm.srL l rest t).1,s∈rest
 | [],rest,t,h,hd,_,_=>by rw [Tm.srL];exact ⟨h,hd,fun s hs=>hs⟩
 | x :: r,rest,t,_,_,h,hd=>by rw [Tm.srL];exact Tm.sr_ok x rest h.1 hd.1
end
theorem fuOne_ok {k : Int} {na : Nat} {nm : ByteArray} {ws : List ByteArray} {y : Tm} (h : y.Ok) (hd : y.Du) (hn : nm.size≤140737488355328) (hw : ∀ s∈ws,s.size≤140737488355328) (hwl : ws.length≤8796093022207) : (G7 k na nm ws y).Ok∧(G7 k na nm ws y).Du:=by
 obtain ⟨h1,h2,h3⟩:=Tm.sr_ok y ws h hd
 unfold G7
 split
 ·exact ⟨⟨⟨hn,by simp,hw⟩,⟨hwl,by simp,by simp⟩,⟨cnt_ok _ (fun s hs=>hw s (h3 s hs)) h1.a0,trivial⟩,trivial⟩,⟨fun _=>by simp,⟨cnt_du _ h2.a0,trivial⟩,trivial⟩⟩
 ·exact ⟨h,hd⟩
theorem nmH_le {l : List Tm} (h : Tm.Oks l) : (nmH l).size≤140737488355328:=by
 rcases l with _ | ⟨x,r⟩
 ·simp [nmH]
 ·exact h.1.nm
mutual
theorem Tm.fu_ok : ∀ (t : Tm),t.Ok→t.Du→t.fu.Ok∧t.fu.Du
 | .mk k n a b vs xs cs,h,hd=>by
  rw [Tm.fu]
  obtain ⟨h1,h2,h3⟩:=Tm.fuL_ok xs h.2.2.1 hd.2.1
  obtain ⟨h4,h5,h6⟩:=Cs.fuL_ok k xs.length (nmH xs) (nmH_le h.2.2.1) cs h.2.2.2 hd.2.2
  refine ⟨⟨h.1,⟨h.2.1.1,by rw [h3];exact h.2.1.2.1,by rw [h6];exact h.2.1.2.2⟩,h1,h4⟩,fun hk e=>?_,h2,h5⟩
  have:=hd.1 hk
  rcases xs with _ | ⟨x,r⟩
  ·exact this rfl
  ·rw [Tm.fuL] at e;cases e
theorem Tm.fuL_ok : ∀ (l : List Tm),Tm.Oks l→Tm.DuL l→Tm.Oks (Tm.fuL l)∧Tm.DuL (Tm.fuL l)∧(Tm.fuL l).length = l.length
 | [],_,_=>by rw [Tm.fuL];exact ⟨trivial,trivial,rfl⟩
 | x :: r,h,hd=>by
  obtain ⟨h1,h2⟩:=Tm.fu_ok x h.1 hd.1
  obtain ⟨h3,h4,h5⟩:=Tm.fuL_ok r h.2 hd.2
  rw [Tm.fuL]
  exact ⟨⟨h1,h3⟩,⟨h2,h4⟩,by simp [h5]⟩
theorem Cs.fuL_ok (k : Int) (na : Nat) (nm : ByteArray) (hn : nm.size≤140737488355328) : ∀ (l : List Cs),Cs.Oks l→Cs.DuL l→Cs.Oks (Cs.fuL k na nm l)∧Cs.DuL (Cs.fuL k na nm l)∧(Cs.fuL k na nm l).length = l.length
 | [],_,_=>by rw [Cs.fuL];exact ⟨trivial,trivial,rfl⟩
 | x :: r,h,hd=>by
  obtain ⟨h1,h2⟩:=Cs.fu_ok k na nm hn x h.1 hd.1
  obtain ⟨h3,h4,h5⟩:=Cs.fuL_ok k na nm hn r h.2 hd.2
  rw [Cs.fuL]
  exact ⟨⟨h1,h3⟩,⟨h2,h4⟩,by simp [h5]⟩
theorem Cs.fu_ok (k : Int) (na : Nat) (nm : ByteArray) (hn : nm.size≤140737488355328) : ∀ (c : Cs),c.Ok→c.Du→(c.fu k na nm).Ok∧(c.fu k na nm).Du
 | .mk t ws y,h,hd=>by
  obtain ⟨h1,h2⟩:=Tm.fu_ok y h.2.2 hd.2
  obtain ⟨h3,h4⟩:=fuOne_ok (k:=k) (na:=na) (nm:=nm) h1 h2 hn h.1 h.2.1
  rw [Cs.fu]
  exact ⟨⟨h.1,h.2.1,h3⟩,hd.1,h4⟩
end
theorem ow_ok : ∀ (d : Nat) (t : Tm) (has : List ByteArray),t.Rt d→t.Ok→(∀ s∈has,s.size≤140737488355328)→(t.ow has).Ok∧(t.ow has).Du:=by
 intro d
 induction d with
 | zero=>intro t _ h;exact h.elim
 | succ d ih =>
 intro t has hR hO hh
 have hdu : ∀ t : Tm,∀ d,t.Rt d→t.Du:=by
  intro t d
  induction d generalizing t with
  | zero=>intro h;exact h.elim
  | succ d ih =>
   intro h
   obtain ⟨k,n,a,b,vs,xs,cs⟩:=t
   obtain ⟨h1,_,_,h2,h3⟩:=h
   refine ⟨fun hk=>by omega,Tm.Bz.2 fun x hx=>ih x (h2 x hx),Cs.Bz.2 fun c hc=>?_⟩
   obtain ⟨h4,h5⟩:=h3 c hc
   obtain ⟨t,ws,y⟩:=c
   exact ⟨h4,ih y h5⟩
 have hD:=hdu t _ hR
 obtain ⟨k,n,a,b,vs,xs,cs⟩:=t
 obtain ⟨hk,hmany,h6,hx,hc⟩:=hR
 have hO':=hO
 obtain ⟨⟨o1,o2,o3⟩,⟨o4,o5,o6⟩,o7,o8⟩:=hO'
 have o7':=Tm.Zq.1 o7
 have o8':=Cs.Zq.1 o8
 rw [Tm.ow]
 generalize (Tm.mk k n a b vs xs cs).free = fr
 have hG : ∀ s∈woN has fr,s.size≤140737488355328:=fun s hs=>hh s (List.mem_filter.1 hs).1
 have hI : ∀ s∈inN has fr,s.size≤140737488355328:=fun s hs=>hh s (List.mem_filter.1 hs).1
 generalize inN has fr = own at hI ⊢
 suffices H : ∀ e : Tm,e.Ok→e.Du→(cnt 9 (woN has fr) e).Ok∧(cnt 9 (woN has fr) e).Du by
  split
  ·exact H _ (cnt_ok _ (fun s hs=>by
    obtain ⟨x,hx,e⟩:=moreN_mem hs
    rw [e]
    exact (o7' x hx).nm) hO) (cnt_du _ hD)
  split
  ·rename_i hk6
   subst hk6
   have hx2 : xs.length = 2∧cs = []:=by
    unfold Xq at hmany
    simp at hmany
    exact hmany
   obtain ⟨hx2,rfl⟩:=hx2
   obtain ⟨x,y,rfl⟩ : ∃ x y,xs = [x,y]:=by
    rcases xs with _ | ⟨x,_ | ⟨y,_ | ⟨z,l⟩⟩⟩
    ·cases hx2
    ·cases hx2
    ·exact ⟨x,y,rfl⟩
    ·simp at hx2
   rw [letD,letH,Tm.owZ,List.headD_cons,List.tail_cons,Tm.owZ,List.headD_cons,List.tail_cons,Tm.owZ]
   obtain ⟨h1,h2⟩:=ih x (inN own x.free) (hx x (by simp)) (o7' x (by simp)) (fun s hs=>hI s (List.mem_filter.1 hs).1)
   obtain ⟨h3,h4⟩:=ih y (inN own (woN y.free [a]) ++ [a]) (hx y (by simp)) (o7' y (by simp)) (fun s hs=>(List.mem_append.1 hs).elim (fun h=>hI s (List.mem_filter.1 h).1) fun h=>by rw [List.mem_singleton.1 h];exact o1)
   exact H _ (cnt_ok _ (fun s hs=>hI s (List.mem_filter.1 (List.mem_filter.1 hs).1).1) ⟨⟨o1,by simp,by simp⟩,⟨by simp,by simp,by simp⟩,⟨h1,h3,trivial⟩,trivial⟩) (cnt_du _ ⟨fun h=>by omega,⟨h2,h4,trivial⟩,trivial⟩)
  split
  ·have hnm:=nmH_le o7
   have hC : ∀ (l : List Cs),(∀ c∈l,c∈cs)→Cs.Oks (Cs.owL l own (nmH xs))∧Cs.DuL (Cs.owL l own (nmH xs)):=by
    intro l
    induction l with
    | nil=>intro _;exact ⟨trivial,trivial⟩
    | cons c r ih2 =>
     intro hm
     have hcm:=hm c (List.mem_cons_self ..)
     obtain ⟨g1,g2⟩:=ih2 fun z hz=>hm z (List.mem_cons_of_mem _ hz)
     obtain ⟨t,ws,y⟩:=c
     obtain ⟨e1,e2⟩:=hc _ hcm
     obtain ⟨p1,p2,p3⟩:=o8' _ hcm
     have hU : ∀ s∈inN ws y.free,s.size≤140737488355328:=fun s hs=>p1 s (List.mem_filter.1 hs).1
     have hH : ∀ s∈own ++ inN ws y.free,s.size≤140737488355328:=fun s hs=>(List.mem_append.1 hs).elim (hI s) (hU s)
     obtain ⟨q1,q2⟩:=ih y (if hasB y.free (nmH xs) then own ++ inN ws y.free else woN (own ++ inN ws y.free) [nmH xs]) e2 p3 (fun s hs=>by
      split at hs
      ·exact hH s hs
      ·exact hH s (List.mem_filter.1 hs).1)
     rw [Cs.owL,Cs.ow]
     exact ⟨⟨⟨p1,p2,cnt_ok _ hU (cnt_ok _ (fun s hs=>by split at hs <;> simp at hs;rw [hs];exact hnm) q1)⟩,g1⟩,⟨⟨e1,cnt_du _ (cnt_du _ q2)⟩,g2⟩⟩
   obtain ⟨g1,g2⟩:=hC cs fun _ h=>h
   exact H _ ⟨⟨by simp,by simp,by simp⟩,⟨by simp,o5,by rw [Cs.owL_len];exact o6⟩,o7,g1⟩ ⟨fun h=>by omega,hD.2.1,g2⟩
  ·exact H _ hO hD
 exact fun e h1 h2=>⟨cnt_ok _ hG h1,cnt_du _ h2⟩
structure LS where
 ct : List (ByteArray×Int)
 inn : List (ByteArray×ByteArray)
 tk : List (ByteArray×Int)
def lkA {α : Type} : List (ByteArray×α)→ByteArray→Option α
 | [],_=>none
 | (k,v) :: r,s=>if k = s then some v else lkA r s
def X5 {α : Type} (l : List (ByteArray×α)) (s : ByteArray) (v : α) : List (ByteArray×α):=(s,v) :: l.filter fun p=>decide (p.1≠s)
def Wz {α : Type} (l : List (ByteArray×α)) (s : ByteArray) : List (ByteArray×α):=l.filter fun p=>decide (p.1≠s)
def LS.c (s : LS) (n : ByteArray) : Int:=(lkA s.ct n).getD 0
def LS.Yj (s : LS) (n : ByteArray) : Int×LS:=match lkA s.ct n with
 | none=>(6,s)
 | some k=>if k < 1 then (16,s) else (0,{ s with ct:=X5 s.ct n (k - 1) })
def LS.left (s : LS) : Bool:=s.ct.any (fun p=>decide (0 < p.2)) || !s.tk.isEmpty
def LS.Nj (s : LS) (e : Int) : Int:=if e = 0∧s.left = true then 15 else e
def LS.Vv (s : LS) : List Tm→Int×LS
 | []=>(0,s)
 | x :: r=>if x.tk≠1 then (2,s) else if (s.Yj x.nm).1≠0 then s.Yj x.nm else (s.Yj x.nm).2.Vv r
def LS.there (s : LS) (n : ByteArray) : Bool:=decide (0 < s.c n) || (match lkA s.inn n with | some up=>decide (0 < s.c up) | none=>false)
def LS.inc (s : LS) (n : ByteArray) : LS:={ s with ct:=X5 s.ct n (s.c n + 1) }
def LS.Kj (s : LS) (nm : ByteArray) : List ByteArray→Int×LS
 | []=>(0,s)
 | v :: r=>if (lkA s.inn v).getD .empty≠nm then (2,s) else (s.inc v).Kj nm r
def LS.Xv (s : LS) (nm : ByteArray) (vs : List ByteArray) : Int×LS:=if (s.Kj nm vs).1≠0 then s.Kj nm vs else (s.Kj nm vs).2.Yj nm
def LS.Wq (s : LS) (nm : ByteArray) : List ByteArray→Int×LS
 | []=>(0,s)
 | v :: r=>if (lkA s.ct v).isSome then (7,s) else ({ s with ct:=X5 s.ct v 0,inn:=X5 s.inn v nm } : LS).Wq nm r
def excl (b : ByteArray) : ByteArray:=⟨#[33]⟩ ++ b
mutual
def Tm.stN : Tm→List ByteArray
 | .mk k n a b vs xs cs=>(if k = 1∨k = 8∨k = 9∨k = 10∨k = 11 then [a] else []) ++ (Tm.J6 xs ++ Cs.J6 cs)
def Tm.J6 : List Tm→List ByteArray
 | []=>[]
 | x :: r=>x.stN ++ Tm.J6 r
def Cs.J6 : List Cs→List ByteArray
 | []=>[]
 | c :: r=>c.stN ++ Cs.J6 r
def Cs.stN : Cs→List ByteArray
 | .mk t ws y=>y.stN
end
mutual
def Tm.stT : Tm→List ByteArray
 | .mk k n a b vs xs cs=>(if k = 12∨k = 13 then [b] else []) ++ (Tm.J2 xs ++ Cs.J2 cs)
def Tm.J2 : List Tm→List ByteArray
 | []=>[]
 | x :: r=>x.stT ++ Tm.J2 r
def Cs.J2 : List Cs→List ByteArray
 | []=>[]
 | c :: r=>c.stT ++ Cs.J2 r
def Cs.stT : Cs→List ByteArray
 | .mk t ws y=>y.stT
end
mutual
def Tm.Xx : Tm→List ByteArray
 | .mk k n a b vs xs cs=>(if k = 6 then [a] else []) ++ ((if k = 11 then [excl b] else []) ++ (Tm.Jq xs ++ Cs.Jq cs))
def Tm.Jq : List Tm→List ByteArray
 | []=>[]
 | x :: r=>x.Xx ++ Tm.Jq r
def Cs.Jq : List Cs→List ByteArray
 | []=>[]
 | c :: r=>c.Xx ++ Cs.Jq r
def Cs.Xx : Cs→List ByteArray
 | .mk t ws y=>ws ++ y.Xx
end
def Tm.Fx (t : Tm) (n : ByteArray) : Bool:=hasB t.stN n && !hasB t.Xx n
def Tm.U7 (t : Tm) (b : ByteArray) : Bool:=hasB t.stT b && !hasB t.Xx (excl b)
def Dk (k : Int) : Int:=if 1 < k then 1 else k
def LS.fst (s : LS) (t : Tm) : LS:=⟨(s.ct.filter fun p=>t.Fx p.1).map fun p=>(p.1,Dk p.2),s.inn,s.tk.filter fun p=>t.U7 p.1⟩
def LS.rst (s : LS) (t : Tm) : LS:=⟨s.ct.map fun p=>(p.1,if t.Fx p.1 then p.2 - Dk p.2 else p.2),s.inn,s.tk.filter fun p=>!t.U7 p.1⟩
def hdT0 : List Tm→Tm
 | x :: _=>x
 | []=>.mk 0 0 .empty .empty [] [] []
mutual
def Tm.lin : Tm→LS→Int
 | .mk k n a b vs xs cs,s =>
  if k = 1 then (s.Yj a).2.Nj (s.Yj a).1
  else if k = 2 then s.Nj 0
  else if k = 3∨k = 4∨k = 5 then (s.Vv xs).2.Nj (s.Vv xs).1
  else if k = 12 then
   if (lkA s.tk b)≠some (xs.length : Int) then 6
   else (({ s with tk:=Wz s.tk b } : LS).Vv xs).2.Nj (({ s with tk:=Wz s.tk b } : LS).Vv xs).1
  else if k = 6 then
   if xs.length≠2 then 2 else if (lkA s.ct a).isSome then 7
   else Tm.Dv xs [s.fst (hdT0 xs),{ s.rst (hdT0 xs) with ct:=X5 (s.rst (hdT0 xs)).ct a 1 }]
  else if k = 7 then
   if xs.length≠1∨(hdT0 xs).tk≠1 then 2 else if s.c (hdT0 xs).nm < 1 then 6 else Cs.Dv cs s (hdT0 xs).nm
  else if k = 8∨k = 9∨k = 10∨k = 11∨k = 13 then
   if xs.length≠1 then 2
   else if k = 8 then (if s.there a then Tm.Dv xs [s.inc a] else 6)
   else if k = 9 then (if (s.Yj a).1≠0 then (s.Yj a).1 else Tm.Dv xs [(s.Yj a).2])
   else if k = 13 then (if (lkA s.tk b).isSome then Tm.Dv xs [{ s with tk:=Wz s.tk b }] else 6)
   else if (s.Xv a vs).1≠0 then (s.Xv a vs).1
   else if k = 11 then (if (lkA s.tk b).isSome∨b = .empty then 7 else Tm.Dv xs [{ (s.Xv a vs).2 with tk:=X5 (s.Xv a vs).2.tk b (vs.length : Int) }])
   else Tm.Dv xs [(s.Xv a vs).2]
  else 1
def Tm.Dv : List Tm→List LS→Int
 | [],_=>0
 | x :: r,ss=>if x.lin (ss.headD ⟨[],[],[]⟩)≠0 then x.lin (ss.headD ⟨[],[],[]⟩) else Tm.Dv r ss.tail
def Cs.Dv : List Cs→LS→ByteArray→Int
 | [],_,_=>0
 | c :: r,s,nm=>if c.lin s nm≠0 then c.lin s nm else Cs.Dv r s nm
def Cs.lin : Cs→LS→ByteArray→Int
 | .mk t ws y,s,nm=>if (s.Wq nm ws).1≠0 then (s.Wq nm ws).1 else y.lin (s.Wq nm ws).2
end
def Fn.lin (f : Fn) : Int:=if f.params.Nodup then f.body.lin ⟨f.params.map fun p=>(p,1),[],[]⟩ else 7
section
variable {α : Type}
def KN (l : List (ByteArray×α)) : Prop:=(l.map (·.1)).Nodup
theorem KN.nil : KN ([] : List (ByteArray×α)):=List.nodup_nil
theorem KN.filter {l : List (ByteArray×α)} (h : KN l) (p : ByteArray×α→Bool) : KN (l.filter p):=by
 unfold KN at h ⊢
 exact (List.filter_sublist.map _).nodup h
theorem KN.put {l : List (ByteArray×α)} (h : KN l) (s : ByteArray) (v : α) : KN (X5 l s v):=by
 unfold X5 KN
 rw [List.map_cons,List.nodup_cons]
 refine ⟨fun hm=>?_,h.filter _⟩
 obtain ⟨p,hp,e⟩:=List.mem_map.1 hm
 have:=(List.mem_filter.1 hp).2
 simp at this
 exact this e
theorem Z9 (q : ByteArray→Bool) : ∀ (l : List (ByteArray×α)) (s : ByteArray),lkA (l.filter fun p=>q p.1) s = if q s then lkA l s else none
 | [],s=>by simp [lkA]
 | (k,v) :: r,s=>by
  have ih:=Z9 q r s
  by_cases hk : q k = true
  ·rw [List.filter_cons_of_pos (by simpa using hk),lkA,lkA,ih]
   by_cases e : k = s
   ·subst e;rw [if_pos rfl,if_pos rfl,if_pos hk]
   ·rw [if_neg e,if_neg e]
  ·rw [List.filter_cons_of_neg (by simpa using hk),ih,lkA]
   by_cases e : k = s
   ·subst e;rw [if_neg hk,if_neg hk]
   ·rw [if_neg e]
theorem X7 (l : List (ByteArray×α)) (s : ByteArray) (v : α) (n : ByteArray) : lkA (X5 l s v) n = if s = n then some v else lkA l n:=by
 unfold X5
 rw [lkA,Z9 (fun k=>decide (k≠s))]
 by_cases e : s = n
 ·rw [if_pos e,if_pos e]
 ·rw [if_neg e,if_neg e,if_pos (by simp;exact fun h=>e h.symm)]
theorem Hz (l : List (ByteArray×α)) (s n : ByteArray) : lkA (Wz l s) n = if s = n then none else lkA l n:=by
 unfold Wz
 rw [Z9 (fun k=>decide (k≠s))]
 by_cases e : s = n
 ·rw [if_pos e,if_neg (by simp;exact e.symm)]
 ·rw [if_neg e,if_pos (by simp;exact fun h=>e h.symm)]
theorem Hq {β : Type} (f : ByteArray→α→β) : ∀ (l : List (ByteArray×α)) (s : ByteArray),lkA (l.map fun p=>(p.1,f p.1 p.2)) s = (lkA l s).map (f s)
 | [],s=>rfl
 | (k,v) :: r,s=>by
  rw [List.map_cons,lkA,lkA,Hq f r s]
  by_cases e : k = s
  ·subst e;rw [if_pos rfl,if_pos rfl];rfl
  ·rw [if_neg e,if_neg e]
theorem lk_mem {l : List (ByteArray×α)} {s : ByteArray} {v : α} (h : lkA l s = some v) : (s,v)∈l:=by
 induction l with
 | nil=>simp [lkA] at h
 | cons p r ih =>
  obtain ⟨k,u⟩:=p
  rw [lkA] at h
  by_cases e : k = s
  ·subst e;rw [if_pos rfl] at h;injection h with h;subst h;simp
  ·rw [if_neg e] at h;exact List.mem_cons_of_mem _ (ih h)
theorem mem_lk {l : List (ByteArray×α)} (hn : KN l) {s : ByteArray} {v : α} (h : (s,v)∈l) : lkA l s = some v:=by
 induction l with
 | nil=>cases h
 | cons p r ih =>
  obtain ⟨k,u⟩:=p
  unfold KN at hn
  rw [List.map_cons,List.nodup_cons] at hn
  rw [lkA]
  rcases List.mem_cons.1 h with e | h
  ·injection e with e1 e2;subst e1 e2;rw [if_pos rfl]
  ·rw [if_neg (fun e=>hn.1 (by subst e;exact List.mem_map.2 ⟨_,h,rfl⟩)),ih hn.2 h]
end
structure LS.Ok (s : LS) : Prop where
 kc : KN s.ct
 kt : KN s.tk
 nn : ∀ n,0≤s.c n
theorem LS.left_no {s : LS} (h : s.Ok) (hl : s.left = false) : (∀ n,s.c n = 0)∧s.tk = []:=by
 unfold LS.left at hl
 rw [Bool.or_eq_false_iff] at hl
 refine ⟨fun n=>?_,by simpa using hl.2⟩
 have h1:=h.nn n
 have h2 : s.c n≤0:=by
  unfold LS.c
  cases hk : lkA s.ct n with
  | none=>simp
  | some v =>
   have:=List.any_eq_false.1 hl.1 _ (lk_mem hk)
   simp at this ⊢
   omega
 omega
theorem LS.F4 {s : LS} {e : Int} (h : s.Nj e = 0) : e = 0∧s.left = false:=by
 unfold LS.Nj at h
 by_cases he : e = 0
 ·refine ⟨he,?_⟩
  cases hl : s.left with
  | false=>rfl
  | true=>rw [if_pos ⟨he,hl⟩] at h;omega
 ·rw [if_neg (fun hh=>he hh.1)] at h;exact absurd h he
theorem LS.O4 (s : LS) (n : ByteArray) (v : Int) (m : ByteArray) : ({ s with ct:=X5 s.ct n v } : LS).c m = if n = m then v else s.c m:=by
 unfold LS.c
 rw [X7]
 by_cases e : n = m
 ·rw [if_pos e,if_pos e];rfl
 ·rw [if_neg e,if_neg e]
theorem LS.Vw {s : LS} (h : s.Ok) {n : ByteArray} (h0 : (s.Yj n).1 = 0) : (s.Yj n).2.Ok∧(∀ m,(s.Yj n).2.c m = if n = m then s.c m - 1 else s.c m)∧(s.Yj n).2.tk = s.tk∧(s.Yj n).2.inn = s.inn∧(∀ m,(lkA (s.Yj n).2.ct m).isSome = (lkA s.ct m).isSome)∧1≤s.c n:=by
 unfold LS.Yj at h0 ⊢
 cases hk : lkA s.ct n with
 | none=>rw [hk] at h0;simp at h0
 | some k =>
  rw [hk] at h0
  dsimp only at h0 ⊢
  by_cases hk1 : k < 1
  ·rw [if_pos hk1] at h0;simp at h0
  ·rw [if_neg hk1]
   have hc : s.c n = k:=by unfold LS.c;rw [hk];rfl
   have hm : ∀ m,({ s with ct:=X5 s.ct n (k - 1) } : LS).c m = if n = m then s.c m - 1 else s.c m:=fun m=>by
    rw [LS.O4]
    by_cases e : n = m
    ·subst e;rw [if_pos rfl,if_pos rfl,hc]
    ·rw [if_neg e,if_neg e]
   refine ⟨⟨h.kc.put _ _,h.kt,fun m=>?_⟩,hm,rfl,rfl,fun m=>?_,by omega⟩
   ·have:=h.nn m
    rw [hm]
    by_cases e : n = m
    ·subst e;rw [if_pos rfl];omega
    ·rw [if_neg e];exact this
   ·dsimp only
    rw [X7]
    by_cases e : n = m
    ·subst e;rw [if_pos rfl,hk];rfl
    ·rw [if_neg e]
def occ (l : List Tm) (n : ByteArray) : Int:=((l.filter fun x=>decide (x.nm = n)).length : Int)
theorem occ_cons (x : Tm) (r : List Tm) (n : ByteArray) : occ (x :: r) n = (if x.nm = n then 1 else 0) + occ r n:=by
 unfold occ
 by_cases h : x.nm = n
 ·rw [if_pos h,List.filter_cons_of_pos (by simpa using h),List.length_cons];omega
 ·rw [if_neg h,List.filter_cons_of_neg (by simpa using h)];omega
theorem LS.useL_ok : ∀ (xs : List Tm) {s : LS} (h : s.Ok) (h0 : (s.Vv xs).1 = 0),(s.Vv xs).2.Ok∧(∀ m,(s.Vv xs).2.c m = s.c m - occ xs m)∧(s.Vv xs).2.tk = s.tk
 | [],s,h,_=>⟨h,fun m=>by simp [LS.Vv,occ],rfl⟩
 | x :: r,s,h,h0=>by
  rw [LS.Vv] at h0 ⊢
  by_cases h1 : x.tk≠1
  ·rw [if_pos h1] at h0;simp at h0
  ·rw [if_neg h1] at h0 ⊢
   by_cases h2 : (s.Yj x.nm).1≠0
   ·rw [if_pos h2] at h0;exact absurd h0 h2
   ·rw [if_neg h2] at h0 ⊢
    obtain ⟨g1,g2,g3,-,-,-⟩:=LS.Vw h (Decidable.not_not.1 h2)
    obtain ⟨k1,k2,k3⟩:=LS.useL_ok r g1 h0
    refine ⟨k1,fun m=>?_,k3.trans g3⟩
    rw [k2,g2,occ_cons]
    split <;> omega
theorem LS.F7 {s : LS} (h : s.Ok) (n : ByteArray) : (s.inc n).Ok∧∀ m,(s.inc n).c m = if n = m then s.c m + 1 else s.c m:=by
 have hm : ∀ m,(s.inc n).c m = if n = m then s.c m + 1 else s.c m:=fun m=>by
  unfold LS.inc
  rw [LS.O4]
  by_cases e : n = m
  ·subst e;simp
  ·rw [if_neg e,if_neg e]
 refine ⟨⟨h.kc.put _ _,h.kt,fun m=>?_⟩,hm⟩
 have:=h.nn m
 rw [hm]
 split <;> omega
def occB (l : List ByteArray) (n : ByteArray) : Int:=((l.filter fun x=>decide (x = n)).length : Int)
theorem Qq4 (x : ByteArray) (r : List ByteArray) (n : ByteArray) : occB (x :: r) n = (if x = n then 1 else 0) + occB r n:=by
 unfold occB
 by_cases h : x = n
 ·rw [if_pos h,List.filter_cons_of_pos (by simpa using h),List.length_cons];omega
 ·rw [if_neg h,List.filter_cons_of_neg (by simpa using h)];omega
theorem LS.openL_ok (nm : ByteArray) : ∀ (vs : List ByteArray) {s : LS} (h : s.Ok) (h0 : (s.Kj nm vs).1 = 0),(s.Kj nm vs).2.Ok∧(∀ m,(s.Kj nm vs).2.c m = s.c m + occB vs m)∧(s.Kj nm vs).2.tk = s.tk∧(s.Kj nm vs).2.inn = s.inn
 | [],s,h,_=>⟨h,fun m=>by simp [LS.Kj,occB],rfl,rfl⟩
 | v :: r,s,h,h0=>by
  rw [LS.Kj] at h0 ⊢
  by_cases h1 : (lkA s.inn v).getD .empty≠nm
  ·rw [if_pos h1] at h0;simp at h0
  ·rw [if_neg h1] at h0 ⊢
   obtain ⟨g1,g2⟩:=LS.F7 h v
   obtain ⟨k1,k2,k3,k4⟩:=LS.openL_ok nm r g1 h0
   refine ⟨k1,fun m=>?_,k3,k4⟩
   rw [k2,g2,Qq4]
   split <;> omega
theorem LS.H8 {s : LS} (h : s.Ok) {nm : ByteArray} {vs : List ByteArray} (h0 : (s.Xv nm vs).1 = 0) : (s.Xv nm vs).2.Ok∧(∀ m,(s.Xv nm vs).2.c m = s.c m + occB vs m - if nm = m then 1 else 0)∧(s.Xv nm vs).2.tk = s.tk:=by
 unfold LS.Xv at h0 ⊢
 by_cases h1 : (s.Kj nm vs).1≠0
 ·rw [if_pos h1] at h0;exact absurd h0 h1
 ·rw [if_neg h1] at h0 ⊢
  obtain ⟨g1,g2,g3,-⟩:=LS.openL_ok nm vs h (Decidable.not_not.1 h1)
  obtain ⟨k1,k2,k3,-,-,-⟩:=LS.Vw g1 h0
  refine ⟨k1,fun m=>?_,k3.trans g3⟩
  rw [k2,g2]
  split <;> omega
theorem LS.M9 (nm : ByteArray) : ∀ (vs : List ByteArray) {s : LS} (h : s.Ok) (h0 : (s.Wq nm vs).1 = 0),(s.Wq nm vs).2.Ok∧(∀ m,(s.Wq nm vs).2.c m = s.c m)∧(s.Wq nm vs).2.tk = s.tk
 | [],s,h,_=>⟨h,fun m=>rfl,rfl⟩
 | v :: r,s,h,h0=>by
  rw [LS.Wq] at h0 ⊢
  by_cases h1 : (lkA s.ct v).isSome = true
  ·rw [if_pos h1] at h0;simp at h0
  ·rw [if_neg h1] at h0 ⊢
   have hm : ∀ m,({ s with ct:=X5 s.ct v 0,inn:=X5 s.inn v nm } : LS).c m = s.c m:=fun m=>by
    show (lkA (X5 s.ct v 0) m).getD 0 = s.c m
    rw [X7]
    by_cases e : v = m
    ·subst e
     rw [if_pos rfl]
     unfold LS.c
     cases hk : lkA s.ct v with
     | none=>rfl
     | some k=>rw [hk] at h1;simp at h1
    ·rw [if_neg e];rfl
   obtain ⟨k1,k2,k3⟩:=LS.M9 nm r (s:={ s with ct:=X5 s.ct v 0,inn:=X5 s.inn v nm }) ⟨h.kc.put _ _,h.kt,fun m=>by rw [hm];exact h.nn m⟩ h0
   exact ⟨k1,fun m=>by rw [k2,hm],k3⟩
theorem LS.fst_c (s : LS) (t : Tm) (n : ByteArray) : (s.fst t).c n = if t.Fx n then Dk (s.c n) else 0:=by
 unfold LS.fst LS.c
 dsimp only
 rw [Hq (fun _ k=>Dk k),Z9 t.Fx]
 by_cases h : t.Fx n = true
 ·rw [if_pos h,if_pos h]
  cases lkA s.ct n <;> rfl
 ·rw [if_neg h,if_neg h];rfl
theorem LS.rst_c (s : LS) (t : Tm) (n : ByteArray) : (s.rst t).c n = if t.Fx n then s.c n - Dk (s.c n) else s.c n:=by
 unfold LS.rst LS.c
 dsimp only
 rw [Hq (fun k v=>if t.Fx k then v - Dk v else v)]
 cases lkA s.ct n with
 | none =>
  show (0 : Int) = _
  split <;> rfl
 | some v =>
  show (if t.Fx n then v - Dk v else v) = _
  rfl
theorem LS.Mk {s : LS} (h : s.Ok) (t : Tm) : (s.fst t).Ok:=by
 refine ⟨?_,h.kt.filter _,fun n=>?_⟩
 ·unfold LS.fst KN
  dsimp only
  rw [List.map_map]
  exact h.kc.filter fun p=>t.Fx p.1
 ·have:=h.nn n
  rw [LS.fst_c]
  unfold Dk
  split
  ·split <;> omega
  ·exact Int.le_refl _
theorem LS.N7 {s : LS} (h : s.Ok) (t : Tm) : (s.rst t).Ok:=by
 refine ⟨?_,h.kt.filter _,fun n=>?_⟩
 ·unfold LS.rst KN
  dsimp only
  rw [List.map_map]
  exact h.kc
 ·have:=h.nn n
  rw [LS.rst_c]
  unfold Dk
  split
  ·split <;> omega
  ·exact this
theorem LS.G9 {s : LS} (h : s.Ok) (n : ByteArray) {v : Int} (hv : 0≤v) : ({ s with ct:=X5 s.ct n v } : LS).Ok:=⟨h.kc.put _ _,h.kt,fun m=>by
 have:=h.nn m
 rw [LS.O4]
 split
 ·exact hv
 ·exact this⟩
theorem LS.Rz {s : LS} (h : s.Ok) {l : List (ByteArray×Int)} (hl : KN l) : ({ s with tk:=l } : LS).Ok:=⟨h.kc,hl,h.nn⟩
end Go.Proofs.YtjpldhjgehoffaaDoor
namespace Go.Proofs.YtjpldhjgehoffaaDoor
open Go.RowKit
set_option linter.unusedVariables false
set_option linter.unusedSimpArgs false
theorem Iw : ∀ (d : Nat) (t : Tm) (e : Nat),d≤e→t.Rt d→t.Rt e:=by
 intro d
 induction d with
 | zero=>intro t e _ h;exact h.elim
 | succ d ih =>
  intro t e he h
  obtain ⟨e,rfl⟩ : ∃ e',e = e' + 1:=⟨e - 1,by omega⟩
  obtain ⟨k,n,a,b,vs,xs,cs⟩:=t
  obtain ⟨h1,h2,h3,h4,h5⟩:=h
  exact ⟨h1,h2,h3,fun x hx=>ih x e (by omega) (h4 x hx),fun c hc=>⟨(h5 c hc).1,ih _ e (by omega) (h5 c hc).2⟩⟩
theorem around_rt (d : Nat) : ∀ (bs : Bs) (t : Tm),(∀ b∈bs,b.2.Rt d)→t.Rt d→(around bs t).Rt (bs.length + d)
 | [],t,_,h=>by simpa [around] using h
 | b :: r,t,hb,h=>by
  have h1:=around_rt d r t (fun x hx=>hb x (List.mem_cons_of_mem _ hx)) h
  rw [around,List.length_cons,show r.length + 1 + d = (r.length + d) + 1 from by omega]
  refine ⟨by omega,rfl,by simp,fun x hx=>?_,by simp⟩
  rcases List.mem_cons.1 hx with rfl | hx
  ·exact Iw d _ _ (by omega) (hb b (List.mem_cons_self ..))
  ·rw [List.mem_singleton.1 hx];exact h1
theorem varT_rt (s : ByteArray) (d : Nat) : (varT s).Rt (d + 1):=⟨by omega,rfl,by simp,by simp,by simp⟩
theorem pl_rt : ∀ (d : Nat) (t : Tm) (c : Int),t.Rt d→(t.pl c).1.Rt (7 * d):=by
 intro d
 induction d with
 | zero=>intro t _ h;exact h.elim
 | succ d ih =>
 intro t c hR
 obtain ⟨k,n,a,b,vs,xs,cs⟩:=t
 have hR':=hR
 obtain ⟨hk,hmany,h6,hx,hc⟩:=hR'
 have hA : ∀ (ys : List Tm) (c : Int),(∀ y∈ys,y∈xs)→(∀ x∈(Tm.ats ys c).1,x.Rt (7 * d))∧∀ b∈(Tm.ats ys c).2.1,b.2.Rt (7 * d):=by
  intro ys
  induction ys with
  | nil=>intro c _;exact ⟨fun x h=>by simp [Tm.ats] at h,fun b h=>by simp [Tm.ats] at h⟩
  | cons y r ih2 =>
   intro c hm
   have hy:=hx y (hm y (List.mem_cons_self ..))
   have hd0 : 0 < d:=by
    rcases d with _ | d
    ·exact hy.elim
    ·omega
   rw [Tm.ats]
   split
   ·obtain ⟨h1,h2⟩:=ih2 c fun z hz=>hm z (List.mem_cons_of_mem _ hz)
    refine ⟨fun x hx=>?_,h2⟩
    rcases List.mem_cons.1 hx with rfl | hx
    ·exact Iw d _ _ (by omega) hy
    ·exact h1 x hx
   ·obtain ⟨h1,h2⟩:=ih2 (y.pl (wr (c + 1))).2 fun z hz=>hm z (List.mem_cons_of_mem _ hz)
    refine ⟨fun x hx=>?_,fun b hb=>?_⟩
    ·rcases List.mem_cons.1 hx with rfl | hx
     ·rw [show 7 * d = (7 * d - 1) + 1 from by omega]
      exact varT_rt _ _
     ·exact h1 x hx
    ·rcases List.mem_cons.1 hb with rfl | hb
     ·exact ih y _ hy
     ·exact h2 b hb
 have hL : ∀ (ys : List Tm) (c : Int),(∀ y∈ys,y∈xs)→(∀ x∈(Tm.plL ys c).1,x.Rt (7 * d))∧(Tm.plL ys c).1.length = ys.length:=by
  intro ys
  induction ys with
  | nil=>intro c _;exact ⟨fun x h=>by simp [Tm.plL] at h,rfl⟩
  | cons y r ih2 =>
   intro c hm
   obtain ⟨h1,h2⟩:=ih2 (y.pl c).2 fun z hz=>hm z (List.mem_cons_of_mem _ hz)
   rw [Tm.plL]
   refine ⟨fun x hx'=>?_,by simp [h2]⟩
   rcases List.mem_cons.1 hx' with rfl | hx'
   ·exact ih y c (hx y (hm y (List.mem_cons_self ..)))
   ·exact h1 x hx'
 have hC : ∀ (ys : List Cs) (c : Int),(∀ y∈ys,y∈cs)→(∀ x∈(Cs.plL ys c).1,x.2.length≤6∧x.3.Rt (7 * d))∧(Cs.plL ys c).1.length = ys.length:=by
  intro ys
  induction ys with
  | nil=>intro c _;exact ⟨fun x h=>by simp [Cs.plL] at h,rfl⟩
  | cons y r ih2 =>
   intro c hm
   obtain ⟨h1,h2⟩:=ih2 (y.pl c).2 fun z hz=>hm z (List.mem_cons_of_mem _ hz)
   obtain ⟨g1,g2⟩:=hc y (hm y (List.mem_cons_self ..))
   obtain ⟨t,ws,y⟩:=y
   rw [Cs.plL]
   refine ⟨fun x hx'=>?_,by simp [h2]⟩
   rcases List.mem_cons.1 hx' with rfl | hx'
   ·rw [Cs.pl];exact ⟨g1,ih y c g2⟩
   ·exact h1 x hx'
 have hbl:=I8 xs c
 have hvl:=ats_len xs c
 obtain ⟨hv,hb⟩:=hA xs c fun _ h=>h
 have hxs : xs.length + cs.length≤6:=h6
 rw [Tm.pl]
 split
 ·rename_i hk3
  have hcs : cs = []:=by
   unfold Xq at hmany
   rcases hk3 with rfl | rfl | rfl <;> simp at hmany <;> exact hmany.2
  subst hcs
  have hN : (Tm.mk k n a .empty [] (Tm.ats xs c).1 []).Rt (7 * d + 1):=⟨hk,by rw [hvl];exact hmany,by rw [hvl];exact h6,hv,by simp⟩
  exact Iw _ _ _ (by omega) (around_rt (7 * d + 1) _ _ (fun b hb'=>Iw _ _ _ (by omega) (hb b hb')) hN)
 split
 ·rename_i hk6
  subst hk6
  have hx2 : xs.length = 2∧cs = []:=by
   unfold Xq at hmany
   simp at hmany
   exact hmany
  obtain ⟨g1,g2⟩:=hL xs c fun _ h=>h
  refine Iw (7 * d + 1) _ _ (by omega) ⟨hk,?_,by rw [g2];simp;omega,g1,by simp⟩
  rw [g2,hx2.1];rfl
 split
 ·rename_i hk7
  subst hk7
  obtain ⟨g1,g2⟩:=hC cs (Tm.ats xs c).2.2 fun _ h=>h
  have hN : (Tm.mk 7 0 .empty .empty [] (Tm.ats xs c).1 (Cs.plL cs (Tm.ats xs c).2.2).1).Rt (7 * d + 1):=⟨hk,by rw [hvl,g2];exact hmany,by rw [hvl,g2];exact h6,hv,g1⟩
  have hx1 : xs.length = 1:=by
   unfold Xq at hmany
   simp at hmany
   exact hmany
  exact Iw _ _ _ (by omega) (around_rt (7 * d + 1) _ _ (fun b hb'=>Iw _ _ _ (by omega) (hb b hb')) hN)
 ·exact Iw (d + 1) _ _ (by omega) hR
def bsz : Bs→Nat
 | []=>0
 | b :: r=>1 + b.2.sz + bsz r
theorem around_sz : ∀ (bs : Bs) (t : Tm),(around bs t).sz = bsz bs + t.sz
 | [],t=>by simp [around,bsz]
 | b :: r,t=>by
  have:=around_sz r t
  simp only [around,Tm.sz,Tm.szs,Cs.szs,bsz,this]
  omega
theorem sz_pos (t : Tm) : 1≤t.sz:=by obtain ⟨k,n,a,b,vs,xs,cs⟩:=t;simp only [Tm.sz];omega
mutual
theorem Tm.pl_sz : ∀ (t : Tm) (c : Int),(t.pl c).1.sz + 2≤3 * t.sz
 | .mk k n a b vs xs cs,c=>by
  have hA:=Tm.ats_sz xs c
  have hL:=Tm.plL_sz xs c
  have hC:=Cs.plL_sz cs (Tm.ats xs c).2.2
  rw [Tm.pl]
  split
  ·dsimp only;rw [around_sz];simp only [Tm.sz,Cs.szs];omega
  split
  ·simp only [Tm.sz,Cs.szs];omega
  split
  ·dsimp only;rw [around_sz];simp only [Tm.sz];omega
  ·simp only [Tm.sz];omega
theorem Tm.ats_sz : ∀ (l : List Tm) (c : Int),bsz (Tm.ats l c).2.1 + Tm.szs (Tm.ats l c).1≤3 * Tm.szs l
 | [],c=>by simp [Tm.ats,bsz,Tm.szs]
 | x :: r,c=>by
  have h1:=Tm.ats_sz r c
  have h2:=Tm.pl_sz x (wr (c + 1))
  have h3:=Tm.ats_sz r (x.pl (wr (c + 1))).2
  have h4 : ∀ s,(varT s).sz = 1:=fun s=>by simp [varT,Tm.sz,Tm.szs,Cs.szs]
  rw [Tm.ats]
  split
  ·simp only [Tm.szs];omega
  ·simp only [Tm.szs,bsz,h4];omega
theorem Tm.plL_sz : ∀ (l : List Tm) (c : Int),Tm.szs (Tm.plL l c).1≤3 * Tm.szs l
 | [],c=>by simp [Tm.plL,Tm.szs]
 | x :: r,c=>by
  have h1:=Tm.plL_sz r (x.pl c).2
  have h2:=Tm.pl_sz x c
  rw [Tm.plL]
  simp only [Tm.szs];omega
theorem Cs.plL_sz : ∀ (l : List Cs) (c : Int),Cs.szs (Cs.plL l c).1≤3 * Cs.szs l
 | [],c=>by simp [Cs.plL,Cs.szs]
 | x :: r,c=>by
  have h1:=Cs.plL_sz r (x.pl c).2
  have h2:=Cs.pl_sz x c
  rw [Cs.plL]
  simp only [Cs.szs];omega
theorem Cs.pl_sz : ∀ (d : Cs) (c : Int),(d.pl c).1.sz≤3 * d.sz
 | .mk t ws y,c=>by
  have:=Tm.pl_sz y c
  rw [Cs.pl]
  simp only [Cs.sz];omega
end
mutual
theorem Tm.rn_sz : ∀ (t : Tm) (ps : Ps) (c : Int),(t.rn ps c).1.sz≤t.sz
 | .mk k n a b vs xs cs,ps,c=>by
  have h1:=Tm.rns_sz k a ps 0 xs a c
  have h2:=Cs.rnL_sz cs ps (Tm.rns k a ps 0 xs a c).2.2
  rw [Tm.rn]
  split
  ·simp only [Tm.sz,Tm.szs,Cs.szs];omega
  ·simp only [Tm.sz];omega
theorem Tm.rns_sz (k : Int) (a : ByteArray) (ps : Ps) : ∀ (i : Nat) (l : List Tm) (nm : ByteArray) (c : Int),Tm.szs (Tm.rns k a ps i l nm c).1≤Tm.szs l
 | _,[],_,_=>by simp [Tm.rns,Tm.szs]
 | i,x :: r,nm,c=>by
  rw [Tm.rns]
  split
  ·have h1:=Tm.rn_sz x (ps ++ [(a,vNm (wr (c + 1)))]) (wr (c + 1))
   have h2:=Tm.rns_sz k a ps (i + 1) r (vNm (wr (c + 1))) (x.rn (ps ++ [(a,vNm (wr (c + 1)))]) (wr (c + 1))).2
   simp only [Tm.szs];omega
  ·have h1:=Tm.rn_sz x ps c
   have h2:=Tm.rns_sz k a ps (i + 1) r nm (x.rn ps c).2
   simp only [Tm.szs];omega
theorem Cs.rnL_sz : ∀ (l : List Cs) (ps : Ps) (c : Int),Cs.szs (Cs.rnL l ps c).1≤Cs.szs l
 | [],_,_=>by simp [Cs.rnL,Cs.szs]
 | x :: r,ps,c=>by
  have h1:=Cs.rn_sz x ps c
  have h2:=Cs.rnL_sz r ps (x.rn ps c).2
  rw [Cs.rnL]
  simp only [Cs.szs];omega
theorem Cs.rn_sz : ∀ (d : Cs) (ps : Ps) (c : Int),(d.rn ps c).1.sz≤d.sz
 | .mk t ws y,ps,c=>by
  have:=Tm.rn_sz y (ps ++ ws.zip (J5 ws c)) (U5 ws c)
  rw [Cs.rn]
  simp only [Cs.sz];omega
end
theorem Fn.pl_pt (f : Fn) (hb : f.body.Ok) (hr : f.body.Rt 25) (hp : f.params.length≤6) (hz : f.body.sz≤349525) : f.pl.Pt:=by
 obtain ⟨h1,h2⟩:=Fn.pl_ok f hb hr hp
 have h3 : f.rn.body.sz≤f.body.sz:=Tm.rn_sz f.body _ _
 have h4 : f.pl.body.sz + 2≤3 * f.rn.body.sz:=Tm.pl_sz f.rn.body 0
 refine ⟨Go.Proofs.YtjpldhjgehoffaaDoor.pl_rt 25 f.rn.body 0 (f.rn_rt hr),⟨h1,by omega⟩,h2,fun s hs=>Bw f.params 0 s ?_⟩
 exact hs
end Go.Proofs.YtjpldhjgehoffaaDoor
