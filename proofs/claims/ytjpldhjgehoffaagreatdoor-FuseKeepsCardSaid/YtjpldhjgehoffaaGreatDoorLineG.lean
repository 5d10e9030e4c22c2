import Derived.Test.YtjpldhjgehoffaaGreatDoorLineB
import Derived.Test.YtjpldhjgehoffaaGreatDoorFreeA
import Derived.Test.YtjpldhjgehoffaaGreatDoorOwnC
import Derived.Test.YtjpldhjgehoffaaGreatDoorPlainX
import Derived.Test.YtjpldhjgehoffaaGreatDoorOwnE
import Derived.Test.YtjpldhjgehoffaaGreatDoorParseF
import Derived.Test.YtjpldhjgehoffaaGreatDoorNameO
import Derived.Test.YtjpldhjgehoffaaGreatDoorNameP
set_option maxRecDepth 20000
set_option maxHeartbeats 16000000
namespace Go.Proofs.YtjpldhjgehoffaaGreatDoor
open Go.RowKit
attribute [local simp] Iz mkRc ldOf stOf stOk Nw Mv Rw Kj V9 Yj Yw J3 Y8 Bz evA Vj Dz Value.oneCell' Zj Q4 Z7 Qx1 U6 Z5 AS.after Zq Kq J8 AV.ids Mj Qz.ids frNo Nv G6 Wj H6 Y1 Y3 Vx U1 U0 Yz toD1 Sw setAt U9 Ij Dj L8 Gz L9 binI AV.cells J4 Jq Gq Wq AV.kill Qz.kill AV.has AV.K6 Op.operands Call.operands Dq Dw Zw Qv2 Zx Xq E8 moQ Mk R4 Yk AV.ren E5 Qz.ren Qz.like kept Zz Mw AV.frz Pz Ik Ak F8 Uk AS.frz Tw Rq Qz.frz Hq Hz bleF Nat.ble_eq G9 G7 Yq D.Y5 N7 R8 Vv Vw phO Ew Dk Gx Uj Kv Low Ex
set_option linter.unusedVariables false
set_option linter.unusedSimpArgs false
theorem cs_lleft (s:LS) (hT:s.tk.length≤4611686018427387904):Qv Tryz.prog 104 [.ptr 500 0] [(500,.blk 86 [.mp 501,.mp 502,.mp 503]),(501,lcO s.ct),(502,liO s.inn),(503,lcO s.tk)] (.d (.bool s.left)) []:=by
 obtain⟨ct,inn,tk⟩:=s;obtain⟨R,hR⟩:∃R,R=LS.left ⟨ct,inn,tk⟩:=⟨_,rfl⟩
 rw[←hR];dsimp only at hT;have hmt:Tryz.prog.underlying 63=some (.map 9 3):=by kernel_rfl
 refine Qv.of Tryz.func104 rfl rfl (Nat.le_of_ble_eq_true rfl) ?_;show AWp _ _ (Qk _ Tryz.f104 _ _) (Zz 22 _ _);refine AWp.rg [] [] ?_;repeat (first|refine AWp.seq ?_|refine AWp.block ?_)
 refine AWp.U8 501 rfl fun b1 ck1 be1 hp1 hn1=>?_
 refine AWp.ops ?_;apply Uq.run (l1:=[_,_,_,_]) (l2:=[_]) (k:=0) [] []
 ·conv=>lhs;simp
 ·(repeat' apply And.intro)<;> first|omega|assumption|trivial|(intros;subst_vars;rfl)|(intro i r h;rcases i with _|i<;> simp at h;subst h;rfl)|(simp[inI,maxLen];done)|(simp[inI,maxLen];omega)
 refine Uq.range rfl rfl rfl (Nat.le_of_ble_eq_true rfl) rfl (i:=501) rfl rfl hmt ?_;refine Uq.nil ?_;repeat (first|refine AWp.seq ?_|refine AWp.block ?_)
 refine AWp.loop (σ:=fun u:{u:List Nat //∀p∈be1,p.1∈u→∀n k,p.2=(.str n,[.int k])→k≤0}=>⟨22,[(0,.ptr 500 0),(9,.ptr 9 0)],[(500,some (.blk 86 [.mp 501,.mp 502,.mp 503])),(501,some (.raw (.U8 b1 true false 1 ck1 be1))),(502,some (liO inn)),(503,some (lcO tk)),(9,some (.raw (.iter b1 ck1 u.1)))]⟩)
  (μ:=fun u=>unseen be1 u.1) ⟨[],by simp⟩ (Le.sub (by simp) (by simp)) (fun⟨seen,hs⟩=>?_)
 dsimp only;repeat (first|refine AWp.seq ?_|refine AWp.block ?_)
 refine AWp.ops ?_;refine Uq.next (i:=9) (j:=501) rfl rfl rfl (Nat.le_of_ble_eq_true rfl) rfl rfl rfl (fun hall=>?_) (fun p hp hns=>?_);rotate_left
 ·obtain⟨q,hq,hqe⟩:=List.mem_map.1 (hp1.mem_iff.1 (List.mem_map.2 ⟨p,hp,rfl⟩));have hmu:=unseen_lt hp hns;obtain⟨k,key,row⟩:=p;obtain⟨nm,v⟩:=q;dsimp only at hqe;obtain⟨rfl,rfl⟩:=Prod.mk.inj hqe;apply Uq.run (l1:=[_]) (l2:=[]) (k:=0) [] []
  ·conv=>lhs;simp
  ·(repeat' apply And.intro)<;> first|omega|assumption|trivial|(intros;subst_vars;rfl)|(intro i r h;rcases i with _|i<;> simp at h;subst h;rfl)|(simp[inI,maxLen];done)|(simp[inI,maxLen];omega)
  refine Uq.nil ?_;refine AWp.cy ?_;refine AWp.skip ?_;repeat (first|refine AWp.seq ?_|refine AWp.block ?_)
  refine AWp.ops ?_;refine Uq.entry (i:=9) (j:=501) rfl rfl rfl (Nat.le_of_ble_eq_true rfl) rfl rfl rfl hp ?_;apply Uq.run (l1:=[_,_]) (l2:=[]) (k:=0) [] []
  ·conv=>lhs;simp
  ·(repeat' apply And.intro)<;> first|omega|assumption|trivial|(intros;subst_vars;rfl)|(intro i r h;rcases i with _|i<;> simp at h;subst h;rfl)|(simp[inI,maxLen];done)|(simp[inI,maxLen];omega)
  refine Uq.nil ?_;by_cases h0:0<v
  ·have hR1:R=true:=by
    rw[hR];unfold LS.left;have:ct.any (fun p=>decide (0<p.2))=true:=List.any_eq_true.2 ⟨_,hq,by simpa using h0⟩;rw[this];rfl
   rw[hR1];refine AWp.rg [] [] ?_ (hr:=by conv=>lhs;simp[h0]);refine AWp.cy ?_;refine AWp.rg [] [] ?_;refine AWp.ret ?_;try dsimp only[Qq,Q6]
   apply Qk.ret
   ·rfl
   ·conv=>lhs;simp[Q9,Tryz.results104]
   ·rfl
   ·simp[Qx,Q4]
  refine AWp.rg [] [] ?_ (hr:=by conv=>lhs;simp[h0]);refine AWp.cn ?_;refine AWp.skip ?_;refine⟨⟨seen++[k],fun p hp' hps n z hpz=>?_⟩,hmu,?_⟩
  ·rcases List.mem_append.1 hps with hps|hps
   ·exact hs p hp' hps n z hpz
   ·rw[List.mem_singleton]at hps;obtain⟨i1,hi1⟩:=List.mem_iff_getElem?.1 hp';obtain⟨i2,hi2⟩:=List.mem_iff_getElem?.1 hp;have e1:(be1.map (·.1))[i1]? =some k:=by rw[List.getElem?_map,hi1];simp[hps]
    have e2:(be1.map (·.1))[i2]? =some k:=by rw[List.getElem?_map,hi2];rfl
    have e3:i1=i2:=(List.getElem?_inj (List.getElem?_eq_some_iff.1 e1).1 hn1).1 (e1.trans e2.symm);rw[e3,hi2]at hi1;have e4:=Option.some.inj hi1;rw[←e4]at hpz;simp only[Prod.mk.injEq,D.str.injEq,List.cons.injEq,D.int.injEq,and_true]at hpz;omega
  ·dsimp only;exact Le.sub (by simp) (by simp)
 apply Uq.run (l1:=[_]) (l2:=[]) (k:=0) [] []
 ·conv=>lhs;simp
 ·(repeat' apply And.intro)<;> first|omega|assumption|trivial|(intros;subst_vars;rfl)|(intro i r h;rcases i with _|i<;> simp at h;subst h;rfl)|(simp[inI,maxLen];done)|(simp[inI,maxLen];omega)
 refine Uq.nil ?_;refine AWp.cn ?_;refine AWp.exit ?_;have hR1:R=decide (0<(Qw tk).length):=by
  have h1:ct.any (fun p=>decide (0<p.2))=false:=by
   rw[List.any_eq_false];intro q hq;obtain⟨p,hp,hpe⟩:=List.mem_map.1 (hp1.mem_iff.2 (List.mem_map.2 ⟨q,hq,rfl⟩));have:=hs p hp (hall p hp) q.1 q.2 hpe;simp;omega
  rw[hR];unfold LS.left Qw;rw[h1];cases tk with
  |nil=>rfl
  |cons a r=>simp
 rw[hR1];repeat (first|refine AWp.seq ?_|refine AWp.block ?_)
 apply AWp.reg [] []
 ·conv=>lhs;simp
 ·first|trivial|(unfold Qw;simp[inI];omega)
 refine AWp.ret ?_;try dsimp only[Qq,Q6]
 apply Qk.ret
 ·rfl
 ·conv=>lhs;simp[Q9,Tryz.results104]
 ·rfl
 ·simp[Qx,Q4]
theorem cs_lend (s:LS) (e:Int) (hT:s.tk.length≤4611686018427387904):Qv Tryz.prog 68 [.ptr 500 0,.d (.int e)] [(500,.blk 86 [.mp 501,.mp 502,.mp 503]),(501,lcO s.ct),(502,liO s.inn),(503,lcO s.tk)] (.d (.int (s.Cq e))) []:=by
 have hle:=cs_lleft s hT;obtain⟨R,hR⟩:∃R,R=s.Cq e:=⟨_,rfl⟩
 rw[←hR];obtain⟨q,hq⟩:∃q,q=s.left:=⟨_,rfl⟩
 rw[←hq]at hle;replace hq:=hq.symm;obtain⟨ct,inn,tk⟩:=s;refine Qv.of Tryz.func68 rfl rfl (Nat.le_of_ble_eq_true rfl) ?_;show AWp _ _ (Qk _ Tryz.f68 _ _) (Zz 12 _ _);refine AWp.rg [] [] ?_;by_cases he:e=0
 ·subst he;cases q with
  |true=>
   refine AWp.rg [] [.c [] [.ptr 500 0] [(500,.blk 86 [.mp 501,.mp 502,.mp 503]),(501,.map true false 1 (Qw ct)),(502,.map true false 1 (Xx inn)),(503,.map true false 1 (Qw tk))] (.d (.bool true)) []] ?_;refine AWp.cy ?_;refine AWp.rg [] [] ?_;refine AWp.ret ?_;obtain rfl:R=15:=by rw[hR];simp[LS.Cq,hq]
   try dsimp only[Qq,Q6]
   apply Qk.ret
   ·rfl
   ·conv=>lhs;simp[Q9,Tryz.results68]
   ·first|rfl|simp
   ·simp[Qx,Q4]
  |false=>
   refine AWp.rg [] [.c [] [.ptr 500 0] [(500,.blk 86 [.mp 501,.mp 502,.mp 503]),(501,.map true false 1 (Qw ct)),(502,.map true false 1 (Xx inn)),(503,.map true false 1 (Qw tk))] (.d (.bool false)) []] ?_;refine AWp.cn ?_;refine AWp.skip ?_;refine AWp.rg [] [] ?_;refine AWp.ret ?_;obtain rfl:R=0:=by rw[hR];simp[LS.Cq,hq]
   try dsimp only[Qq,Q6]
   apply Qk.ret
   ·rfl
   ·conv=>lhs;simp[Q9,Tryz.results68]
   ·first|rfl|simp
   ·simp[Qx,Q4]
 refine AWp.rg [] [] ?_ (hr:=by conv=>lhs;simp[he]);refine AWp.cn ?_;refine AWp.skip ?_;refine AWp.rg [] [] ?_ (hr:=by conv=>lhs;simp[he]);refine AWp.ret ?_;obtain rfl:R=e:=by rw[hR];simp[LS.Cq,he]
 try dsimp only[Qq,Q6]
 apply Qk.ret
 ·rfl
 ·conv=>lhs;simp[Q9,Tryz.results68]
 ·first|rfl|simp
 ·simp[Qx,Q4]
theorem cs_lall (s:LS) (xs:List Tm) (hl:xs.length≤1172812402961) (hB:s.Bd 4611686018427387904):Qv Tryz.prog 70 [.ptr 1000 0,.d (.sl (xs.map Tm.row))] [(1000,lsO),(1001,lcO s.ct),(1002,liO s.inn),(1003,lcO s.tk)] (.d (.int (s.Uw xs).1)) [(1000,lsO),(1001,lcO (s.Uw xs).2.ct),(1002,liO (s.Uw xs).2.inn),(1003,lcO (s.Uw xs).2.tk)]:=by
 obtain⟨ct,inn,tk⟩:=s;obtain⟨R,hR⟩:∃R,R=LS.Uw ⟨ct,inn,tk⟩ xs:=⟨_,rfl⟩
 rw[←hR];refine Qv.of Tryz.func70 rfl rfl (Nat.le_of_ble_eq_true rfl) ?_;show AWp _ _ (Qk _ Tryz.f70 _ _) (Zz 25 _ _);refine AWp.rg [] [] ?_;refine AWp.rg [] [] ?_;repeat (first|refine AWp.seq ?_|refine AWp.block ?_)
 refine AWp.loop (σ:=fun u:{u:Nat×List (ByteArray×Int) // u.1≤xs.length∧(R=LS.Uw ⟨u.2,inn,tk⟩ (xs.drop u.1)∧LS.Bd ⟨u.2,inn,tk⟩ 4611686018427387904)}=>⟨25,[(0,.ptr 1000 0),(8,.d (.sl (xs.map Tm.row))),(9,.d (.int (xs.length:Int))),(10,.d (.int (u.1.1:Int)))],[(1000,some (.blk 86 [.mp 1001,.mp 1002,.mp 1003])),(1001,some (.map true false 1 (Qw u.1.2))),(1002,some (.map true false 1 (Xx inn))),(1003,some (.map true false 1 (Qw tk)))]⟩)
  (μ:=fun u=>xs.length-u.1.1) ⟨(0,ct),⟨Nat.zero_le _,⟨by rw[hR];rfl,hB⟩⟩⟩ (Le.sub (by simp) (by simp)) (fun⟨(i,c),⟨hi2,hw⟩⟩=>?_)
 dsimp only at hi2 hw⊢;refine AWp.rg [] [] ?_;repeat (first|refine AWp.seq ?_|refine AWp.block ?_)
 refine AWp.cond rfl (fun hc=>?_) (fun hc=>?_)
 ·have hi1:i<xs.length:=by have:=of_decide_eq_true hc;omega
  clear hc;have h1y:xs[i]? =some xs[i]:=List.getElem?_eq_getElem hi1;have hmy:xs[i]∈xs:=List.getElem_mem hi1;have hdy:xs.drop i=xs[i]::xs.drop (i+1):=List.drop_eq_getElem_cons hi1;generalize xs[i]=y at h1y hmy hdy;obtain⟨yk,yn,ya,yb,yvs,yxs,ycs⟩:=y;obtain⟨hw,hcb⟩:=hw;rw[hdy,LS.Uw]at hw;change R=if yk≠1 then (2,(⟨c,inn,tk⟩:LS))else if (LS.Y6 ⟨c,inn,tk⟩ ya).1≠0 then LS.Y6 ⟨c,inn,tk⟩ ya else (LS.Y6 ⟨c,inn,tk⟩ ya).2.Uw (xs.drop (i+1))at hw
  have hu:=cs_luse ⟨c,inn,tk⟩ ya hcb;have hcb2:=hcb.use ya;obtain⟨e,c2,hue⟩:∃e c2,LS.Y6 ⟨c,inn,tk⟩ ya=(e,⟨c2,inn,tk⟩):=by
   exact LS.P5 c inn tk ya
  rw[hue]at hu hw hcb2;dsimp only at hu hw hcb2;refine AWp.skip ?_;refine AWp.rg [] [] ?_ (hr:=by conv=>lhs;simp[h1y,Tm.row,Tm.Q3,Cs.Q3]);by_cases q1:yk=1
  ·refine AWp.rg [] [] ?_ (hr:=by conv=>lhs;simp[h1y,Tm.row,Tm.Q3,Cs.Q3,q1]);refine AWp.cn ?_;refine AWp.skip ?_;refine AWp.rg [] [.c [] [.ptr 1000 0,.d (.str ya)] [(1000,.blk 86 [.mp 1001,.mp 1002,.mp 1003]),(1001,.map true false 1 (Qw c)),(1002,.map true false 1 (Xx inn)),(1003,.map true false 1 (Qw tk))] (.d (.int e)) [(1000,.blk 86 [.mp 1001,.mp 1002,.mp 1003]),(1001,.map true false 1 (Qw c2)),(1002,.map true false 1 (Xx inn)),(1003,.map true false 1 (Qw tk))]] ?_ (hr:=by conv=>lhs;simp[h1y,Tm.row,Tm.Q3,Cs.Q3,q1]);by_cases q2:e=0
   ·refine AWp.rg [] [] ?_ (hr:=by conv=>lhs;simp[h1y,Tm.row,Tm.Q3,Cs.Q3,q1,q2]);refine AWp.cn ?_;refine AWp.skip ?_;refine AWp.rg [] [] ?_ (hr:=by conv=>lhs;simp[h1y,Tm.row,Tm.Q3,Cs.Q3,q1,q2]);rw[if_neg (fun h=>h q1),if_neg (fun h=>h q2)]at hw;refine⟨⟨(i+1,c2),hi1,⟨hw,hcb2⟩⟩,by simp;omega,?_⟩;dsimp only;exact Le.sub (by simp) (by simp)
   refine AWp.rg [] [] ?_ (hr:=by conv=>lhs;simp[h1y,Tm.row,Tm.Q3,Cs.Q3,q1,q2]);refine AWp.cy ?_;refine AWp.rg [] [] ?_ (hr:=by conv=>lhs;simp[h1y,Tm.row,Tm.Q3,Cs.Q3,q1,q2]);refine AWp.ret ?_;rw[if_neg (fun h=>h q1),if_pos q2]at hw;rw[hw];try dsimp only[Qq,Q6]
   apply Qk.ret
   ·rfl
   ·conv=>lhs;simp[Q9,Tryz.results70]
   ·first|rfl|simp
   ·simp[Qx,Q4]
  refine AWp.rg [] [] ?_ (hr:=by conv=>lhs;simp[h1y,Tm.row,Tm.Q3,Cs.Q3,q1]);refine AWp.cy ?_;refine AWp.rg [] [] ?_ (hr:=by conv=>lhs;simp[h1y,Tm.row,Tm.Q3,Cs.Q3,q1]);refine AWp.ret ?_;rw[if_pos q1]at hw;rw[hw];try dsimp only[Qq,Q6]
  apply Qk.ret
  ·rfl
  ·conv=>lhs;simp[Q9,Tryz.results70]
  ·first|rfl|simp
  ·simp[Qx,Q4]
 have hi1:i=xs.length:=by have:=of_decide_eq_false hc;omega
 subst hi1;clear hc;rw[List.drop_length]at hw;obtain⟨hw,-⟩:=hw;refine AWp.exit ?_;refine AWp.rg [] [] ?_;refine AWp.ret ?_;rw[LS.Uw]at hw;rw[hw];try dsimp only[Qq,Q6]
 apply Qk.ret
 ·rfl
 ·conv=>lhs;simp[Q9,Tryz.results70]
 ·first|rfl|simp
 ·simp[Qx,Q4]
theorem LS.openE_nil (s:LS) (nm:ByteArray):s.Y4 nm []=s.Y6 nm:=by
 unfold LS.Y4 LS.Uz;rw[if_neg (by simp)]
theorem LS.openE_cons (s:LS) (nm v:ByteArray) (r:List ByteArray):s.Y4 nm (v::r)=if (lkA s.inn v).getD .empty≠nm then (2,s)else (s.inc v).Y4 nm r:=by
 unfold LS.Y4;rw[LS.Uz];by_cases h:(lkA s.inn v).getD .empty≠nm
 ·rw[if_pos h,if_pos h];rfl
 ·rw[if_neg h,if_neg h]
theorem cs_lopen (s:LS) (tk tn:Int) (ta tb:ByteArray) (tvs:List ByteArray) (txs:List Tm) (tcs:List Cs) (N:Int) (hl:tvs.length≤8796093022208) (hB:s.Bd N) (hN:N+tvs.length≤4611686018427387904):Qv Tryz.prog 109 [.ptr 1000 0,.d (.ptr [.int tk,.int tn,.str ta,.str tb,Q8 tvs,.sl (txs.map Tm.row),.sl (tcs.map Cs.row)])] [(1000,lsO),(1001,lcO s.ct),(1002,liO s.inn),(1003,lcO s.tk)] (.d (.int (s.Y4 ta tvs).1)) [(1000,lsO),(1001,lcO (s.Y4 ta tvs).2.ct),(1002,liO (s.Y4 ta tvs).2.inn),(1003,lcO (s.Y4 ta tvs).2.tk)]:=by
 obtain⟨ct,inn,tok⟩:=s;obtain⟨R,hR⟩:∃R,R=LS.Y4 ⟨ct,inn,tok⟩ ta tvs:=⟨_,rfl⟩
 rw[←hR];refine Qv.of Tryz.func109 rfl rfl (Nat.le_of_ble_eq_true rfl) ?_;show AWp _ _ (Qk _ Tryz.f109 _ _) (Zz 41 _ _);refine AWp.rg [] [] ?_ (hr:=by conv=>lhs;simp[Q5,Tm.row,Tm.Q3,Cs.Q3]);refine AWp.rg [] [] ?_ (hr:=by conv=>lhs;simp[Q5,Tm.row,Tm.Q3,Cs.Q3]);repeat (first|refine AWp.seq ?_|refine AWp.block ?_)
 refine AWp.loop (σ:=fun u:{u:Nat×List (ByteArray×Int) // u.1≤tvs.length∧(R=LS.Y4 ⟨u.2,inn,tok⟩ ta (tvs.drop u.1)∧LS.Bd ⟨u.2,inn,tok⟩ (N+(u.1:Nat)))}=>⟨41,[(0,.ptr 1000 0),(1,.d (.ptr [.int tk,.int tn,.str ta,.str tb,Q8 tvs,.sl (txs.map Tm.row),.sl (tcs.map Cs.row)])),(10,.d (Q8 tvs)),(11,.d (.int (tvs.length:Int))),(12,.d (.int (u.1.1:Int)))],[(1000,some (.blk 86 [.mp 1001,.mp 1002,.mp 1003])),(1001,some (.map true false 1 (Qw u.1.2))),(1002,some (.map true false 1 (Xx inn))),(1003,some (.map true false 1 (Qw tok)))]⟩)
  (μ:=fun u=>tvs.length-u.1.1) ⟨(0,ct),⟨Nat.zero_le _,⟨by rw[hR];rfl,by simpa using hB⟩⟩⟩ (Le.sub (by simp) (by simp)) (fun⟨(i,c),⟨hi2,hw⟩⟩=>?_)
 dsimp only at hi2 hw⊢;refine AWp.rg [] [] ?_ (hr:=by conv=>lhs;simp[Q5,Tm.row,Tm.Q3,Cs.Q3]);repeat (first|refine AWp.seq ?_|refine AWp.block ?_)
 refine AWp.cond rfl (fun hc=>?_) (fun hc=>?_)
 ·have hi1:i<tvs.length:=by have:=of_decide_eq_true hc;omega
  clear hc;have h1v:tvs[i]? =some tvs[i]:=List.getElem?_eq_getElem hi1;have hmv:tvs[i]∈tvs:=List.getElem_mem hi1;have hdv:tvs.drop i=tvs[i]::tvs.drop (i+1):=List.drop_eq_getElem_cons hi1;generalize tvs[i]=v at h1v hmv hdv;obtain⟨hw,hcb⟩:=hw;rw[hdv,LS.openE_cons]at hw;dsimp only at hw;refine AWp.skip ?_;refine AWp.rg [] [] ?_ (hr:=by conv=>lhs;simp[Q5,Tm.row,Tm.Q3,Cs.Q3,h1v]);cases hi:lkA inn v with
  |none=>
   have hig:D.Xz (.str v) (Xx inn)=none:=by rw[Sz,hi];rfl
   rw[hi]at hw;change R=if ByteArray.empty≠ta then (2,(⟨c,inn,tok⟩:LS))else _ at hw
   by_cases q1:ByteArray.empty=ta
   ·have q1t:=eq_true q1;refine AWp.dw [] [] mixed ?_ (hr:=by conv=>lhs;simp[Q5,Tm.row,Tm.Q3,Cs.Q3,h1v,hig,q1t]);refine AWp.cn ?_;refine AWp.skip ?_;cases hk:lkA c v with
    |none=>
     have hkg:D.Xz (.str v) (Qw c)=none:=by rw[X4,hk];rfl
     have hin:LS.inc ⟨c,inn,tok⟩ v=⟨Xj c v 1,inn,tok⟩:=by unfold LS.inc LS.c;rw[hk];rfl
     refine AWp.rg [] [] ?_ (hr:=by conv=>lhs;simp[Q5,Tm.row,Tm.Q3,Cs.Q3,h1v,hig,hkg,q1t]);refine AWp.rg [] [] ?_ (hr:=by conv=>lhs;simp[Q5,Tm.row,Tm.Q3,Cs.Q3,h1v,hig,hkg,q1t]);rw[if_neg (fun h=>h q1),hin]at hw;have hcb2:=hcb.inc v;rw[hin,show N+(i:Int)+1=N+((i+1:Nat):Int)by omega]at hcb2;refine⟨⟨(i+1,Xj c v 1),hi1,⟨hw,hcb2⟩⟩,by simp;omega,?_⟩;dsimp only;exact Le.sub (by simp) (by simp)
    |some k=>
     have hkg:D.Xz (.str v) (Qw c)=some [.int k]:=by rw[X4,hk];rfl
     have hkb:=hcb.at hk;have hin:LS.inc ⟨c,inn,tok⟩ v=⟨Xj c v (k+1),inn,tok⟩:=by unfold LS.inc LS.c;rw[hk];rfl
     refine AWp.rg [] [] ?_ (hr:=by conv=>lhs;simp[Q5,Tm.row,Tm.Q3,Cs.Q3,h1v,hig,hkg,q1t]);refine AWp.rg [] [] ?_ (hr:=by conv=>lhs;simp[Q5,Tm.row,Tm.Q3,Cs.Q3,h1v,hig,hkg,q1t]);rw[if_neg (fun h=>h q1),hin]at hw;have hcb2:=hcb.inc v;rw[hin,show N+(i:Int)+1=N+((i+1:Nat):Int)by omega]at hcb2;refine⟨⟨(i+1,Xj c v (k+1)),hi1,⟨hw,hcb2⟩⟩,by simp;omega,?_⟩;dsimp only;exact Le.sub (by simp) (by simp)
   refine AWp.dw [] [] mixed ?_ (hr:=by conv=>lhs;simp[Q5,Tm.row,Tm.Q3,Cs.Q3,h1v,hig,q1]);refine AWp.cy ?_;refine AWp.rg [] [] ?_ (hr:=by conv=>lhs;simp[Q5,Tm.row,Tm.Q3,Cs.Q3,h1v,hig,q1]);refine AWp.ret ?_;rw[if_pos q1]at hw;rw[hw];try dsimp only[Qq,Q6]
   apply Qk.ret
   ·rfl
   ·conv=>lhs;simp[Q9,Tryz.results109]
   ·first|rfl|simp
   ·simp[Qx,Q4]
  |some wv=>
   have hig:D.Xz (.str v) (Xx inn)=some [.str wv]:=by rw[Sz,hi];rfl
   rw[hi]at hw;change R=if wv≠ta then (2,(⟨c,inn,tok⟩:LS))else _ at hw
   by_cases q2:wv=ta
   ·refine AWp.dw [] [] mixed ?_ (hr:=by conv=>lhs;simp[Q5,Tm.row,Tm.Q3,Cs.Q3,h1v,hig,q2]);refine AWp.cn ?_;refine AWp.skip ?_;cases hk:lkA c v with
    |none=>
     have hkg:D.Xz (.str v) (Qw c)=none:=by rw[X4,hk];rfl
     have hin:LS.inc ⟨c,inn,tok⟩ v=⟨Xj c v 1,inn,tok⟩:=by unfold LS.inc LS.c;rw[hk];rfl
     refine AWp.rg [] [] ?_ (hr:=by conv=>lhs;simp[Q5,Tm.row,Tm.Q3,Cs.Q3,h1v,hig,hkg,q2]);refine AWp.rg [] [] ?_ (hr:=by conv=>lhs;simp[Q5,Tm.row,Tm.Q3,Cs.Q3,h1v,hig,hkg,q2]);rw[if_neg (fun h=>h q2),hin]at hw;have hcb2:=hcb.inc v;rw[hin,show N+(i:Int)+1=N+((i+1:Nat):Int)by omega]at hcb2;refine⟨⟨(i+1,Xj c v 1),hi1,⟨hw,hcb2⟩⟩,by simp;omega,?_⟩;dsimp only;exact Le.sub (by simp) (by simp)
    |some k=>
     have hkg:D.Xz (.str v) (Qw c)=some [.int k]:=by rw[X4,hk];rfl
     have hkb:=hcb.at hk;have hin:LS.inc ⟨c,inn,tok⟩ v=⟨Xj c v (k+1),inn,tok⟩:=by unfold LS.inc LS.c;rw[hk];rfl
     refine AWp.rg [] [] ?_ (hr:=by conv=>lhs;simp[Q5,Tm.row,Tm.Q3,Cs.Q3,h1v,hig,hkg,q2]);refine AWp.rg [] [] ?_ (hr:=by conv=>lhs;simp[Q5,Tm.row,Tm.Q3,Cs.Q3,h1v,hig,hkg,q2]);rw[if_neg (fun h=>h q2),hin]at hw;have hcb2:=hcb.inc v;rw[hin,show N+(i:Int)+1=N+((i+1:Nat):Int)by omega]at hcb2;refine⟨⟨(i+1,Xj c v (k+1)),hi1,⟨hw,hcb2⟩⟩,by simp;omega,?_⟩;dsimp only;exact Le.sub (by simp) (by simp)
   refine AWp.dw [] [] mixed ?_ (hr:=by conv=>lhs;simp[Q5,Tm.row,Tm.Q3,Cs.Q3,h1v,hig,q2]);refine AWp.cy ?_;refine AWp.rg [] [] ?_ (hr:=by conv=>lhs;simp[Q5,Tm.row,Tm.Q3,Cs.Q3,h1v,hig,q2]);refine AWp.ret ?_;rw[if_pos q2]at hw;rw[hw];try dsimp only[Qq,Q6]
   apply Qk.ret
   ·rfl
   ·conv=>lhs;simp[Q9,Tryz.results109]
   ·first|rfl|simp
   ·simp[Qx,Q4]
 have hi1:i=tvs.length:=by have:=of_decide_eq_false hc;omega
 subst hi1;clear hc;rw[List.drop_length,LS.openE_nil]at hw;obtain⟨hw,hcb⟩:=hw;have hcb:=hcb.mono hN;have hu:=cs_luse ⟨c,inn,tok⟩ ta hcb;obtain⟨e,c2,hue⟩:=LS.P5 c inn tok ta;rw[hue]at hu hw;dsimp only at hu;refine AWp.exit ?_;refine AWp.rg [] [.c [] [.ptr 1000 0,.d (.str ta)] [(1000,.blk 86 [.mp 1001,.mp 1002,.mp 1003]),(1001,.map true false 1 (Qw c)),(1002,.map true false 1 (Xx inn)),(1003,.map true false 1 (Qw tok))] (.d (.int e)) [(1000,.blk 86 [.mp 1001,.mp 1002,.mp 1003]),(1001,.map true false 1 (Qw c2)),(1002,.map true false 1 (Xx inn)),(1003,.map true false 1 (Qw tok))]] ?_ (hr:=by conv=>lhs;simp[Q5,Tm.row,Tm.Q3,Cs.Q3]);refine AWp.ret ?_;rw[hw];try dsimp only[Qq,Q6]
 apply Qk.ret
 ·rfl
 ·conv=>lhs;simp[Q9,Tryz.results109]
 ·first|rfl|simp
 ·simp[Qx,Q4]
@[simp] theorem le_maxLen30y:30≤maxLen:=by decide
@[simp] theorem le_maxLen37y:37≤maxLen:=by decide
def Rk:List ByteArray→List (D×List D)
 |[]=>[]
 |x::r=>D.Fz (.str x) [.bool true] (Rk r)
@[simp] theorem sawD_nil:Rk []=[]:=rfl
theorem saw_has:∀(l:List ByteArray) (s:ByteArray),D.Xz (.str s) (Rk l)=if hasB l s then some [.bool true]else none
 |[],s=>rfl
 |x::r,s=>by
  rw[Rk];by_cases h:x=s
  ·subst h;rw[aput_same,if_pos (X3.2 (List.mem_cons_self ..))]
  ·rw[aput_other h,saw_has r s];have:hasB (x::r) s=hasB r s:=by
    rw[Bool.eq_iff_iff,X3,X3,List.mem_cons];exact⟨fun h'=>h'.resolve_left fun e=>h e.symm,.inr⟩
   rw[this]
mutual
theorem Tm.st_len:∀t:Tm,t.stN.length≤t.sz∧t.stT.length≤t.sz
 | .mk k n a b vs xs cs=>by
  have h1:=Tm.stL_len xs;have h2:=Cs.stL_len cs;rw[Tm.stN,Tm.stT,Tm.sz];simp only[List.length_append];constructor<;> split<;> simp<;> omega
theorem Tm.stL_len:∀l:List Tm,(Tm.Y9 l).length≤Tm.szs l∧(Tm.K9 l).length≤Tm.szs l
 |[]=>by simp[Tm.Y9,Tm.K9]
 |x::r=>by
  have h1:=Tm.st_len x;have h2:=Tm.stL_len r;rw[Tm.Y9,Tm.K9,Tm.szs];simp only[List.length_append];omega
theorem Cs.stL_len:∀l:List Cs,(Cs.Y9 l).length≤Cs.szs l∧(Cs.K9 l).length≤Cs.szs l
 |[]=>by simp[Cs.Y9,Cs.K9]
 |x::r=>by
  have h1:=Cs.st_len x;have h2:=Cs.stL_len r;rw[Cs.Y9,Cs.K9,Cs.szs];simp only[List.length_append];omega
theorem Cs.st_len:∀c:Cs,c.stN.length≤c.sz∧c.stT.length≤c.sz
 | .mk t ws y=>by
  have h1:=Tm.st_len y;rw[Cs.stN,Cs.stT,Cs.sz];exact h1
end
def Tm.ndN (t:Tm):List ByteArray:=(Qx3 (srtB t.stN)).filter fun s=>!hasB t.V4 s
def Tm.ndT (t:Tm):List ByteArray:=(Qx3 (srtB t.stT)).filter fun s=>!hasB t.V4 (excl s)
theorem Tm.ndN_mem (t:Tm) (s:ByteArray):s∈t.ndN↔t.I8 s=true:=by
 unfold Tm.ndN Tm.I8;rw[List.mem_filter,cmpB_mem,(Qz1 _).mem_iff,Bool.and_eq_true,X3]
theorem Tm.ndT_mem (t:Tm) (s:ByteArray):s∈t.ndT↔t.askT s=true:=by
 unfold Tm.ndT Tm.askT;rw[List.mem_filter,cmpB_mem,(Qz1 _).mem_iff,Bool.and_eq_true,X3]
theorem Tm.ndN_nodup (t:Tm):t.ndN.Nodup:=(List.filter_sublist).nodup (cmpB_nodup (srtB_sorted _))
theorem Tm.ndT_nodup (t:Tm):t.ndT.Nodup:=(List.filter_sublist).nodup (cmpB_nodup (srtB_sorted _))
theorem cs_need2 (o:List ByteArray) (s:ByteArray):Qv Tryz.prog 131 [.d (.str s),.ptr 1000 0] [(1000,.blk 185 [.mp 1002]),(1002,.map true false 1 (Rk o))] (.d (.bool (hasB o s))) [(1000,.blk 185 [.mp 1002]),(1002,.map true false 1 (Rk o))]:=by
 refine Qv.of Tryz.func131 rfl rfl (Nat.le_of_ble_eq_true rfl) ?_;show AWp _ _ (Qk _ Tryz.f131 _ _) (Zz 7 _ _);refine AWp.rg [] [] ?_;cases hq:hasB o s with
 |true=>
  have hg:=saw_has o s;rw[hq,if_pos rfl]at hg;refine AWp.rg [] [] ?_ (hr:=by conv=>lhs;simp[hg]);refine AWp.ret ?_;try dsimp only[Qq,Q6]
  apply Qk.ret
  ·rfl
  ·conv=>lhs;simp[Q9,Tryz.results131]
  ·first|rfl|simp
  ·simp[Qx,Q4]
 |false=>
  have hg:=saw_has o s;rw[hq,if_neg (by simp)]at hg;refine AWp.rg [] [] ?_ (hr:=by conv=>lhs;simp[hg]);refine AWp.ret ?_;try dsimp only[Qq,Q6]
  apply Qk.ret
  ·rfl
  ·conv=>lhs;simp[Q9,Tryz.results131]
  ·first|rfl|simp
  ·simp[Qx,Q4]
theorem cs_need3 (o:List ByteArray) (s:ByteArray) (hs:s.size≤140737488355328):Qv Tryz.prog 132 [.d (.str s),.ptr 1000 0] [(1000,.blk 185 [.mp 1002]),(1002,.map true false 1 (Rk o))] (.d (.bool (hasB o (excl s)))) [(1000,.blk 185 [.mp 1002]),(1002,.map true false 1 (Rk o))]:=by
 refine Qv.of Tryz.func132 rfl rfl (Nat.le_of_ble_eq_true rfl) ?_;show AWp _ _ (Qk _ Tryz.f132 _ _) (Zz 8 _ _);refine AWp.rg [] [] ?_;cases hq:hasB o (excl s)with
 |true=>
  have hg:=saw_has o (excl s);rw[hq,if_pos rfl]at hg;rw[show excl s=⟨#[33]⟩++s from rfl]at hg;refine AWp.rg [] [] ?_ (hr:=by conv=>lhs;simp[hg]);refine AWp.ret ?_;try dsimp only[Qq,Q6]
  apply Qk.ret
  ·rfl
  ·conv=>lhs;simp[Q9,Tryz.results132]
  ·first|rfl|simp
  ·simp[Qx,Q4]
 |false=>
  have hg:=saw_has o (excl s);rw[hq,if_neg (by simp)]at hg;rw[show excl s=⟨#[33]⟩++s from rfl]at hg;refine AWp.rg [] [] ?_ (hr:=by conv=>lhs;simp[hg]);refine AWp.ret ?_;try dsimp only[Qq,Q6]
  apply Qk.ret
  ·rfl
  ·conv=>lhs;simp[Q9,Tryz.results132]
  ·first|rfl|simp
  ·simp[Qx,Q4]
def NeedN (N:Nat):Prop:=∀t:Tm,t.sz≤N→t.Ok→∀hs ts os:List ByteArray,hs.length+t.sz≤8000000000→ts.length+t.sz≤8000000000→
 Qv Tryz.prog 128 [.d (.ptr t.row),.ptr 1000 0,.ptr 1001 0,.ptr 1003 0,.ptr 1004 0] [(1000,.blk 41 [.arr 500 0 hs.length]),(1001,.blk 185 [.mp 1002]),(1002,.map true false 1 (Rk os)),(1003,.blk 41 [.arr 501 0 ts.length]),(1004,.blk 186 [.clo 128 [.ptr 1000 0,.ptr 1001 0,.ptr 1003 0,.ptr 1004 0]]),(500,.arr 9 1 (hs.map Z0)),(501,.arr 9 1 (ts.map Z0))] (.tuple []) [(1000,.blk 41 [.arr 500 0 ((hs++t.stN).length)]),(1001,.blk 185 [.mp 1002]),(1002,.map true false 1 (Rk (t.V4.reverse++os))),(1003,.blk 41 [.arr 501 0 ((ts++t.stT).length)]),(1004,.blk 186 [.clo 128 [.ptr 1000 0,.ptr 1001 0,.ptr 1003 0,.ptr 1004 0]]),(500,.arr 9 1 ((hs++t.stN).map Z0)),(501,.arr 9 1 ((ts++t.stT).map Z0))]
theorem need_step (N:Nat) (ih:NeedN N):NeedN (N+1):=by
 intro t hsz hOk hs ts os hz1 hz2;obtain⟨H,hH⟩:∃H,H=hs++t.stN:=⟨_,rfl⟩
 obtain⟨T,hT⟩:∃T,T=ts++t.stT:=⟨_,rfl⟩
 obtain⟨O,hO⟩:∃O,O=t.V4.reverse++os:=⟨_,rfl⟩
 rw[←hH,←hT,←hO];obtain⟨tk,tn,ta,tb,tvs,txs,tcs⟩:=t;rw[Tm.stN]at hH;rw[Tm.stT]at hT;rw[Tm.V4]at hO;simp only[Tm.sz]at hsz hz1 hz2;have hxO:∀x∈txs,x.Ok:=fun x hx=>Tm.X8.1 hOk.2.2.1 x hx
 have hcO:∀x∈tcs,x.Ok:=fun x hx=>Cs.X8.1 hOk.2.2.2 x hx
 obtain⟨o1,o2,o3,o4,o5⟩:=hOk.vars;obtain⟨h0,hh0⟩:∃z,z=hs++(if tk=1∨tk=8∨tk=9∨tk=10∨tk=11 then[ta]else[]):=⟨_,rfl⟩
 obtain⟨u0,hu0⟩:∃z,z=ts++(if tk=12∨tk=13 then[tb]else[]):=⟨_,rfl⟩
 obtain⟨o0,ho0⟩:∃z,z=(if tk=11 then[excl tb]else[])++((if tk=6 then[ta]else[])++os):=⟨_,rfl⟩
 rw[←List.append_assoc,←hh0]at hH;rw[←List.append_assoc,←hu0]at hT;have hO:O=(Tm.V5 txs++Cs.V5 tcs).reverse++o0:=by
  rw[hO,ho0];simp only[List.reverse_append,List.append_assoc];congr 3
  ·split<;> rfl
  ·split<;> rfl
 have hb1:h0.length+(Tm.szs txs+Cs.szs tcs)≤8000000000:=by rw[hh0,List.length_append];split<;> simp<;> omega
 have hb2:u0.length+(Tm.szs txs+Cs.szs tcs)≤8000000000:=by rw[hu0,List.length_append];split<;> simp<;> omega
 refine Qv.of Tryz.func128 rfl rfl (Nat.le_of_ble_eq_true rfl) ?_;show AWp _ _ (Qk _ Tryz.f128 _ _) (Zz 106 _ _);refine AWp.seqJP2 (True) ⟨106,[(0,.d (.ptr [.int tk,.int tn,.str ta,.str tb,Q8 tvs,.sl (txs.map Tm.row),.sl (tcs.map Cs.row)])),(1,.ptr 1000 0),(2,.ptr 1001 0),(3,.ptr 1003 0),(4,.ptr 1004 0)],[(1000,some (.blk 41 [.arr 500 0 h0.length])),(1001,some (.blk 185 [.mp 1002])),(1002,some (.map true false 1 (Rk o0))),(1003,some (.blk 41 [.arr 501 0 u0.length])),(1004,some (.blk 186 [.clo 128 [.ptr 1000 0,.ptr 1001 0,.ptr 1003 0,.ptr 1004 0]])),(500,some (.arr 9 1 (h0.map Z0))),(501,some (.arr 9 1 (u0.map Z0)))]⟩ (fun hφ=>?_) (fun W hW=>?_);rotate_left
 ·refine AWp.rg [] [] ?_ (hr:=by conv=>lhs;simp[Tm.row,Tm.Q3,Cs.Q3]);by_cases q1:tk=1
  ·refine AWp.rg [] [] ?_ (hr:=by conv=>lhs;simp[Tm.row,Tm.Q3,Cs.Q3,q1]);refine AWp.cy ?_;refine AWp.skip ?_;refine AWp.cy ?_;refine AWp.dw [] [] mixed ?_ (hr:=by conv=>lhs;simp[Tm.row,Tm.Q3,Cs.Q3,q1]);refine AWp.rg [] [] ?_ (hr:=by conv=>lhs;simp[Tm.row,Tm.Q3,Cs.Q3,q1]);refine AWp.cn ?_;refine AWp.skip ?_;have e0:h0=hs++[ta]:=by rw[hh0];simp[q1]
   have e1:u0=ts:=by rw[hu0];simp[q1]
   have e2:o0=os:=by rw[ho0];simp[q1]
   exact hW trivial _ (Le.sub (by simp[Tm.row,Tm.Q3,Cs.Q3,q1]) (by simp[e0,e1,e2,Rk,Z0,excl]))
  refine AWp.rg [] [] ?_ (hr:=by conv=>lhs;simp[Tm.row,Tm.Q3,Cs.Q3,q1]);refine AWp.cn ?_;by_cases q2:tk=8
  ·refine AWp.rg [] [] ?_ (hr:=by conv=>lhs;simp[Tm.row,Tm.Q3,Cs.Q3,q1,q2]);refine AWp.cy ?_;refine AWp.skip ?_;refine AWp.cy ?_;refine AWp.dw [] [] mixed ?_ (hr:=by conv=>lhs;simp[Tm.row,Tm.Q3,Cs.Q3,q1,q2]);refine AWp.rg [] [] ?_ (hr:=by conv=>lhs;simp[Tm.row,Tm.Q3,Cs.Q3,q1,q2]);refine AWp.cn ?_;refine AWp.skip ?_;have e0:h0=hs++[ta]:=by rw[hh0];simp[q1,q2]
   have e1:u0=ts:=by rw[hu0];simp[q1,q2]
   have e2:o0=os:=by rw[ho0];simp[q1,q2]
   exact hW trivial _ (Le.sub (by simp[Tm.row,Tm.Q3,Cs.Q3,q2]) (by simp[e0,e1,e2,Rk,Z0,excl]))
  refine AWp.rg [] [] ?_ (hr:=by conv=>lhs;simp[Tm.row,Tm.Q3,Cs.Q3,q1,q2]);refine AWp.cn ?_;by_cases q3:tk=9
  ·refine AWp.rg [] [] ?_ (hr:=by conv=>lhs;simp[Tm.row,Tm.Q3,Cs.Q3,q1,q2,q3]);refine AWp.cy ?_;refine AWp.skip ?_;refine AWp.cy ?_;refine AWp.dw [] [] mixed ?_ (hr:=by conv=>lhs;simp[Tm.row,Tm.Q3,Cs.Q3,q1,q2,q3]);refine AWp.rg [] [] ?_ (hr:=by conv=>lhs;simp[Tm.row,Tm.Q3,Cs.Q3,q1,q2,q3]);refine AWp.cn ?_;refine AWp.skip ?_;have e0:h0=hs++[ta]:=by rw[hh0];simp[q1,q2,q3]
   have e1:u0=ts:=by rw[hu0];simp[q1,q2,q3]
   have e2:o0=os:=by rw[ho0];simp[q1,q2,q3]
   exact hW trivial _ (Le.sub (by simp[Tm.row,Tm.Q3,Cs.Q3,q3]) (by simp[e0,e1,e2,Rk,Z0,excl]))
  refine AWp.rg [] [] ?_ (hr:=by conv=>lhs;simp[Tm.row,Tm.Q3,Cs.Q3,q1,q2,q3]);refine AWp.cn ?_;by_cases q4:tk=10
  ·refine AWp.rg [] [] ?_ (hr:=by conv=>lhs;simp[Tm.row,Tm.Q3,Cs.Q3,q1,q2,q3,q4]);refine AWp.cy ?_;refine AWp.skip ?_;refine AWp.cy ?_;refine AWp.dw [] [] mixed ?_ (hr:=by conv=>lhs;simp[Tm.row,Tm.Q3,Cs.Q3,q1,q2,q3,q4]);refine AWp.rg [] [] ?_ (hr:=by conv=>lhs;simp[Tm.row,Tm.Q3,Cs.Q3,q1,q2,q3,q4]);refine AWp.cn ?_;refine AWp.skip ?_;have e0:h0=hs++[ta]:=by rw[hh0];simp[q1,q2,q3,q4]
   have e1:u0=ts:=by rw[hu0];simp[q1,q2,q3,q4]
   have e2:o0=os:=by rw[ho0];simp[q1,q2,q3,q4]
   exact hW trivial _ (Le.sub (by simp[Tm.row,Tm.Q3,Cs.Q3,q4]) (by simp[e0,e1,e2,Rk,Z0,excl]))
  refine AWp.rg [] [] ?_ (hr:=by conv=>lhs;simp[Tm.row,Tm.Q3,Cs.Q3,q1,q2,q3,q4]);refine AWp.cn ?_;by_cases q5:tk=11
  ·refine AWp.rg [] [] ?_ (hr:=by conv=>lhs;simp[Tm.row,Tm.Q3,Cs.Q3,q1,q2,q3,q4,q5]);refine AWp.cy ?_;refine AWp.dw [] [] mixed ?_ (hr:=by conv=>lhs;simp[Tm.row,Tm.Q3,Cs.Q3,q1,q2,q3,q4,q5]);refine AWp.rg [] [] ?_ (hr:=by conv=>lhs;simp[Tm.row,Tm.Q3,Cs.Q3,q1,q2,q3,q4,q5]);refine AWp.cy ?_;refine AWp.dw [] [] mixed ?_ (hr:=by conv=>lhs;simp[Tm.row,Tm.Q3,Cs.Q3,q1,q2,q3,q4,q5]);have e0:h0=hs++[ta]:=by rw[hh0];simp[q1,q2,q3,q4,q5]
   have e1:u0=ts:=by rw[hu0];simp[q1,q2,q3,q4,q5]
   have e2:o0=excl tb::os:=by rw[ho0];simp[q1,q2,q3,q4,q5]
   exact hW trivial _ (Le.sub (by simp[Tm.row,Tm.Q3,Cs.Q3,q5]) (by simp[e0,e1,e2,Rk,Z0,excl]))
  refine AWp.rg [] [] ?_ (hr:=by conv=>lhs;simp[Tm.row,Tm.Q3,Cs.Q3,q1,q2,q3,q4,q5]);refine AWp.cn ?_;by_cases q6:tk=6
  ·refine AWp.rg [] [] ?_ (hr:=by conv=>lhs;simp[Tm.row,Tm.Q3,Cs.Q3,q1,q2,q3,q4,q5,q6]);refine AWp.cy ?_;refine AWp.dw [] [] mixed ?_ (hr:=by conv=>lhs;simp[Tm.row,Tm.Q3,Cs.Q3,q1,q2,q3,q4,q5,q6]);refine AWp.rg [] [] ?_ (hr:=by conv=>lhs;simp[Tm.row,Tm.Q3,Cs.Q3,q1,q2,q3,q4,q5,q6]);refine AWp.cn ?_;refine AWp.skip ?_;have e0:h0=hs:=by rw[hh0];simp[q1,q2,q3,q4,q5,q6]
   have e1:u0=ts:=by rw[hu0];simp[q1,q2,q3,q4,q5,q6]
   have e2:o0=ta::os:=by rw[ho0];simp[q1,q2,q3,q4,q5,q6]
   exact hW trivial _ (Le.sub (by simp[Tm.row,Tm.Q3,Cs.Q3,q6]) (by simp[e0,e1,e2,Rk,Z0,excl]))
  refine AWp.rg [] [] ?_ (hr:=by conv=>lhs;simp[Tm.row,Tm.Q3,Cs.Q3,q1,q2,q3,q4,q5,q6]);refine AWp.cn ?_;by_cases q7:tk=12
  ·refine AWp.rg [] [] ?_ (hr:=by conv=>lhs;simp[Tm.row,Tm.Q3,Cs.Q3,q1,q2,q3,q4,q5,q6,q7]);refine AWp.cy ?_;refine AWp.skip ?_;refine AWp.cy ?_;refine AWp.dw [] [] mixed ?_ (hr:=by conv=>lhs;simp[Tm.row,Tm.Q3,Cs.Q3,q1,q2,q3,q4,q5,q6,q7]);refine AWp.rg [] [] ?_ (hr:=by conv=>lhs;simp[Tm.row,Tm.Q3,Cs.Q3,q1,q2,q3,q4,q5,q6,q7]);refine AWp.cn ?_;refine AWp.skip ?_;have e0:h0=hs:=by rw[hh0];simp[q1,q2,q3,q4,q5,q6,q7]
   have e1:u0=ts++[tb]:=by rw[hu0];simp[q1,q2,q3,q4,q5,q6,q7]
   have e2:o0=os:=by rw[ho0];simp[q1,q2,q3,q4,q5,q6,q7]
   exact hW trivial _ (Le.sub (by simp[Tm.row,Tm.Q3,Cs.Q3,q7]) (by simp[e0,e1,e2,Rk,Z0,excl]))
  refine AWp.rg [] [] ?_ (hr:=by conv=>lhs;simp[Tm.row,Tm.Q3,Cs.Q3,q1,q2,q3,q4,q5,q6,q7]);refine AWp.cn ?_;by_cases q8:tk=13
  ·refine AWp.rg [] [] ?_ (hr:=by conv=>lhs;simp[Tm.row,Tm.Q3,Cs.Q3,q1,q2,q3,q4,q5,q6,q7,q8]);refine AWp.cy ?_;refine AWp.dw [] [] mixed ?_ (hr:=by conv=>lhs;simp[Tm.row,Tm.Q3,Cs.Q3,q1,q2,q3,q4,q5,q6,q7,q8]);refine AWp.rg [] [] ?_ (hr:=by conv=>lhs;simp[Tm.row,Tm.Q3,Cs.Q3,q1,q2,q3,q4,q5,q6,q7,q8]);refine AWp.cn ?_;refine AWp.skip ?_;have e0:h0=hs:=by rw[hh0];simp[q1,q2,q3,q4,q5,q6,q7,q8]
   have e1:u0=ts++[tb]:=by rw[hu0];simp[q1,q2,q3,q4,q5,q6,q7,q8]
   have e2:o0=os:=by rw[ho0];simp[q1,q2,q3,q4,q5,q6,q7,q8]
   exact hW trivial _ (Le.sub (by simp[Tm.row,Tm.Q3,Cs.Q3,q8]) (by simp[e0,e1,e2,Rk,Z0,excl]))
  refine AWp.rg [] [] ?_ (hr:=by conv=>lhs;simp[Tm.row,Tm.Q3,Cs.Q3,q1,q2,q3,q4,q5,q6,q7,q8]);refine AWp.cn ?_;refine AWp.skip ?_;refine AWp.rg [] [] ?_ (hr:=by conv=>lhs;simp[Tm.row,Tm.Q3,Cs.Q3,q1,q2,q3,q4,q5,q6,q7,q8]);refine AWp.cn ?_;refine AWp.skip ?_;have e0:h0=hs:=by rw[hh0];simp[q1,q2,q3,q4,q5,q6,q7,q8]
  have e1:u0=ts:=by rw[hu0];simp[q1,q2,q3,q4,q5,q6,q7,q8]
  have e2:o0=os:=by rw[ho0];simp[q1,q2,q3,q4,q5,q6,q7,q8]
  exact hW trivial _ (Le.sub (by simp[Tm.row,Tm.Q3,Cs.Q3]) (by simp[e0,e1,e2,Rk,Z0,excl]))
 refine AWp.rg [] [] ?_ (hr:=by conv=>lhs;simp[Tm.row,Tm.Q3,Cs.Q3]);repeat (first|refine AWp.seq ?_|refine AWp.block ?_)
 refine AWp.loop (σ:=fun u:{u:Nat×List ByteArray×List ByteArray×List ByteArray // u.1≤txs.length∧(H=u.2.1++(Tm.Y9 (txs.drop u.1)++Cs.Y9 tcs)∧T=u.2.2.1++(Tm.K9 (txs.drop u.1)++Cs.K9 tcs)∧O=(Tm.V5 (txs.drop u.1)++Cs.V5 tcs).reverse++u.2.2.2∧u.2.1.length+(Tm.szs (txs.drop u.1)+Cs.szs tcs)≤8000000000∧u.2.2.1.length+(Tm.szs (txs.drop u.1)+Cs.szs tcs)≤8000000000)}=>⟨106,[(0,.d (.ptr [.int tk,.int tn,.str ta,.str tb,Q8 tvs,.sl (txs.map Tm.row),.sl (tcs.map Cs.row)])),(2,.ptr 1001 0),(4,.ptr 1004 0),(59,.d (.int (txs.length:Int))),(60,.d (.int (u.1.1:Int)))],[(500,some (.arr 9 1 (u.1.2.1.map Z0))),(501,some (.arr 9 1 (u.1.2.2.1.map Z0))),(1000,some (.blk 41 [.arr 500 0 u.1.2.1.length])),(1001,some (.blk 185 [.mp 1002])),(1002,some (.map true false 1 (Rk u.1.2.2.2))),(1003,some (.blk 41 [.arr 501 0 u.1.2.2.1.length])),(1004,some (.blk 186 [.clo 128 [.ptr 1000 0,.ptr 1001 0,.ptr 1003 0,.ptr 1004 0]]))]⟩)
  (μ:=fun u=>txs.length-u.1.1) ⟨(0,h0,u0,o0),⟨Nat.zero_le _,⟨by rw[List.drop_zero];exact hH,by rw[List.drop_zero];exact hT,by rw[List.drop_zero];exact hO,by rw[List.drop_zero];exact hb1,by rw[List.drop_zero];exact hb2⟩⟩⟩ (Le.sub (by simp) (by simp)) (fun⟨(i,h,u,o),⟨hi15,hw⟩⟩=>?_)
 dsimp only at hi15 hw⊢;refine AWp.rg [] [] ?_ (hr:=by conv=>lhs;simp[Tm.row,Tm.Q3,Cs.Q3]);repeat (first|refine AWp.seq ?_|refine AWp.block ?_)
 refine AWp.cond rfl (fun hc=>?_) (fun hc=>?_)
 ·have hi1:i<txs.length:=by have:=of_decide_eq_true hc;omega
  clear hc;have h1y:txs[i]? =some txs[i]:=List.getElem?_eq_getElem hi1;have hmy:txs[i]∈txs:=List.getElem_mem hi1;have hdy:txs.drop i=txs[i]::txs.drop (i+1):=List.drop_eq_getElem_cons hi1;generalize txs[i]=y at h1y hmy hdy;obtain⟨hH,hT,hO,hb1,hb2⟩:=hw;rw[hdy,Tm.Y9,List.append_assoc,←List.append_assoc]at hH;rw[hdy,Tm.K9,List.append_assoc,←List.append_assoc]at hT;rw[hdy,Tm.V5,List.append_assoc,List.reverse_append,List.append_assoc]at hO;rw[hdy,Tm.szs]at hb1 hb2;have hx:=ih y (by have:=Tm.X0 hmy;omega) (hxO y hmy) h u o (by omega) (by omega);have hst:=y.st_len;obtain⟨h2,hh2⟩:∃z,z=h++y.stN:=⟨_,rfl⟩
  obtain⟨u2,hu2⟩:∃z,z=u++y.stT:=⟨_,rfl⟩
  obtain⟨o2,ho2⟩:∃z,z=y.V4.reverse++o:=⟨_,rfl⟩
  have hl1:h2.length≤h.length+y.sz:=by rw[hh2,List.length_append];omega
  have hl2:u2.length≤u.length+y.sz:=by rw[hu2,List.length_append];omega
  rw[←hh2]at hx hH;rw[←hu2]at hx hT;rw[←ho2]at hx hO;obtain⟨yk,yn,ya,yb,yvs,yxs,ycs⟩:=y;simp only[Tm.row,Tm.Q3,Cs.Q3]at hx;refine AWp.skip ?_;refine AWp.rg [] [] ?_ (hr:=by conv=>lhs;simp[Tm.row,Tm.Q3,Cs.Q3,h1y]);refine AWp.dw [] [.c [] [.d (.ptr [.int yk,.int yn,.str ya,.str yb,Q8 yvs,.sl (yxs.map Tm.row),.sl (ycs.map Cs.row)]),.ptr 1000 0,.ptr 1001 0,.ptr 1003 0,.ptr 1004 0] [(1000,.blk 41 [.arr 500 0 h.length]),(1001,.blk 185 [.mp 1002]),(1002,.map true false 1 (Rk o)),(1003,.blk 41 [.arr 501 0 u.length]),(1004,.blk 186 [.clo 128 [.ptr 1000 0,.ptr 1001 0,.ptr 1003 0,.ptr 1004 0]]),(500,.arr 9 1 (h.map Z0)),(501,.arr 9 1 (u.map Z0))] (.tuple []) [(1000,.blk 41 [.arr 500 0 h2.length]),(1001,.blk 185 [.mp 1002]),(1002,.map true false 1 (Rk o2)),(1003,.blk 41 [.arr 501 0 u2.length]),(1004,.blk 186 [.clo 128 [.ptr 1000 0,.ptr 1001 0,.ptr 1003 0,.ptr 1004 0]]),(500,.arr 9 1 (h2.map Z0)),(501,.arr 9 1 (u2.map Z0))]] mixed ?_ (hr:=by conv=>lhs;simp[Tm.row,Tm.Q3,Cs.Q3,h1y]);refine AWp.rg [] [] ?_ (hr:=by conv=>lhs;simp[Tm.row,Tm.Q3,Cs.Q3,h1y]);refine⟨⟨(i+1,h2,u2,o2),hi1,⟨hH,hT,hO,by dsimp only;omega,by dsimp only;omega⟩⟩,by simp;omega,?_⟩;dsimp only;exact Le.sub (by simp) (by simp)
 have hi1:i=txs.length:=by have:=of_decide_eq_false hc;omega
 subst hi1;clear hc;rw[List.drop_length]at hw;simp only[Tm.Y9,Tm.K9,Tm.V5,Tm.szs,List.nil_append,Nat.zero_add]at hw;obtain⟨hH,hT,hO,hb1,hb2⟩:=hw;refine AWp.exit ?_;refine AWp.rg [] [] ?_ (hr:=by conv=>lhs;simp[Tm.row,Tm.Q3,Cs.Q3]);repeat (first|refine AWp.seq ?_|refine AWp.block ?_)
 refine AWp.loop (σ:=fun u:{u:Nat×List ByteArray×List ByteArray×List ByteArray // u.1≤tcs.length∧(H=u.2.1++Cs.Y9 (tcs.drop u.1)∧T=u.2.2.1++Cs.K9 (tcs.drop u.1)∧O=(Cs.V5 (tcs.drop u.1)).reverse++u.2.2.2∧u.2.1.length+Cs.szs (tcs.drop u.1)≤8000000000∧u.2.2.1.length+Cs.szs (tcs.drop u.1)≤8000000000)}=>⟨106,[(0,.d (.ptr [.int tk,.int tn,.str ta,.str tb,Q8 tvs,.sl (txs.map Tm.row),.sl (tcs.map Cs.row)])),(2,.ptr 1001 0),(4,.ptr 1004 0),(76,.d (.int (tcs.length:Int))),(77,.d (.int (u.1.1:Int)))],[(500,some (.arr 9 1 (u.1.2.1.map Z0))),(501,some (.arr 9 1 (u.1.2.2.1.map Z0))),(1000,some (.blk 41 [.arr 500 0 u.1.2.1.length])),(1001,some (.blk 185 [.mp 1002])),(1002,some (.map true false 1 (Rk u.1.2.2.2))),(1003,some (.blk 41 [.arr 501 0 u.1.2.2.1.length])),(1004,some (.blk 186 [.clo 128 [.ptr 1000 0,.ptr 1001 0,.ptr 1003 0,.ptr 1004 0]]))]⟩)
  (μ:=fun u=>tcs.length-u.1.1) ⟨(0,h,u,o),⟨Nat.zero_le _,⟨by rw[List.drop_zero];exact hH,by rw[List.drop_zero];exact hT,by rw[List.drop_zero];exact hO,by rw[List.drop_zero];exact hb1,by rw[List.drop_zero];exact hb2⟩⟩⟩ (Le.sub (by simp) (by simp)) (fun⟨(j,g,v,p),⟨hi20,hw2⟩⟩=>?_)
 dsimp only at hi20 hw2⊢;refine AWp.rg [] [] ?_ (hr:=by conv=>lhs;simp[Tm.row,Tm.Q3,Cs.Q3]);repeat (first|refine AWp.seq ?_|refine AWp.block ?_)
 refine AWp.cond rfl (fun hc=>?_) (fun hc=>?_)
 ·have hi1:j<tcs.length:=by have:=of_decide_eq_true hc;omega
  clear hc;have h1d:tcs[j]? =some tcs[j]:=List.getElem?_eq_getElem hi1;have hmd:tcs[j]∈tcs:=List.getElem_mem hi1;have hdd:tcs.drop j=tcs[j]::tcs.drop (j+1):=List.drop_eq_getElem_cons hi1;generalize tcs[j]=d at h1d hmd hdd;obtain⟨hH,hT,hO,hb1,hb2⟩:=hw2;have hdO:=hcO d hmd;have hdz:=Cs.X0 hmd;obtain⟨dt,dws,y⟩:=d;rw[hdd,Cs.Y9,Cs.stN,←List.append_assoc]at hH;rw[hdd,Cs.K9,Cs.stT,←List.append_assoc]at hT;rw[hdd,Cs.V5,Cs.V4,List.reverse_append,List.append_assoc,List.reverse_append,List.append_assoc]at hO;rw[hdd,Cs.szs,Cs.sz]at hb1 hb2;rw[Cs.sz]at hdz;have hst:=y.st_len;obtain⟨q,hq⟩:∃q,q=dws.reverse++p:=⟨_,rfl⟩
  rw[←hq]at hO;have hx:=ih y (by omega) hdO.2.2 g v q (by omega) (by omega);obtain⟨h2,hh2⟩:∃z,z=g++y.stN:=⟨_,rfl⟩
  obtain⟨u2,hu2⟩:∃z,z=v++y.stT:=⟨_,rfl⟩
  obtain⟨o2,ho2⟩:∃z,z=y.V4.reverse++q:=⟨_,rfl⟩
  have hl1:h2.length≤g.length+y.sz:=by rw[hh2,List.length_append];omega
  have hl2:u2.length≤v.length+y.sz:=by rw[hu2,List.length_append];omega
  rw[←hh2]at hx hH;rw[←hu2]at hx hT;rw[←ho2]at hx hO;obtain⟨hd1,hd2,-⟩:=hdO;obtain⟨yk,yn,ya,yb,yvs,yxs,ycs⟩:=y;simp only[Tm.row,Tm.Q3,Cs.Q3]at hx;refine AWp.skip ?_;refine AWp.rg [] [] ?_ (hr:=by conv=>lhs;simp[Tm.row,Tm.Q3,Cs.Q3,h1d,Cs.row]);refine AWp.rg [] [] ?_ (hr:=by conv=>lhs;simp[Tm.row,Tm.Q3,Cs.Q3,h1d,Cs.row]);repeat (first|refine AWp.seq ?_|refine AWp.block ?_)
  refine AWp.loop (σ:=fun u:{u:Nat×List ByteArray // u.1≤dws.length∧q=(dws.drop u.1).reverse++u.2}=>⟨106,[(0,.d (.ptr [.int tk,.int tn,.str ta,.str tb,Q8 tvs,.sl (txs.map Tm.row),.sl (tcs.map Cs.row)])),(2,.ptr 1001 0),(4,.ptr 1004 0),(7,.d (.int (j:Int))),(76,.d (.int (tcs.length:Int))),(77,.d (.int (j:Int))),(87,.d (Q8 dws)),(88,.d (.int (dws.length:Int))),(89,.d (.int (u.1.1:Int)))],[(500,some (.arr 9 1 (g.map Z0))),(501,some (.arr 9 1 (v.map Z0))),(1000,some (.blk 41 [.arr 500 0 g.length])),(1001,some (.blk 185 [.mp 1002])),(1002,some (.map true false 1 (Rk u.1.2))),(1003,some (.blk 41 [.arr 501 0 v.length])),(1004,some (.blk 186 [.clo 128 [.ptr 1000 0,.ptr 1001 0,.ptr 1003 0,.ptr 1004 0]]))]⟩)
   (μ:=fun u=>dws.length-u.1.1) ⟨(0,p),⟨Nat.zero_le _,by rw[List.drop_zero];exact hq⟩⟩ (Le.sub (by simp) (by simp)) (fun⟨(m,c),⟨hi23,hw3⟩⟩=>?_)
  dsimp only at hi23 hw3⊢;refine AWp.rg [] [] ?_ (hr:=by conv=>lhs;simp[Tm.row,Tm.Q3,Cs.Q3,h1d,Cs.row]);repeat (first|refine AWp.seq ?_|refine AWp.block ?_)
  refine AWp.cond rfl (fun hc=>?_) (fun hc=>?_)
  ·have hi1:m<dws.length:=by have:=of_decide_eq_true hc;omega
   clear hc;have h1s:dws[m]? =some dws[m]:=List.getElem?_eq_getElem hi1;have hms:dws[m]∈dws:=List.getElem_mem hi1;have hds:dws.drop m=dws[m]::dws.drop (m+1):=List.drop_eq_getElem_cons hi1;generalize dws[m]=s at h1s hms hds;rw[hds,List.reverse_cons,List.append_assoc]at hw3;refine AWp.skip ?_;refine AWp.rg [] [] ?_ (hr:=by conv=>lhs;simp[Tm.row,Tm.Q3,Cs.Q3,h1d,Cs.row,h1s]);have hput:D.Fz (.str s) [.bool true] (Rk c)=Rk (s::c):=rfl;refine AWp.rg [] [] ?_ (hr:=by conv=>lhs;simp[Tm.row,Tm.Q3,Cs.Q3,h1d,Cs.row,h1s,hput]);refine AWp.rg [] [] ?_ (hr:=by conv=>lhs;simp[Tm.row,Tm.Q3,Cs.Q3,h1d,Cs.row,h1s]);refine⟨⟨(m+1,s::c),hi1,hw3⟩,by simp;omega,?_⟩;dsimp only;exact Le.sub (by simp) (by simp)
  have hi1:m=dws.length:=by have:=of_decide_eq_false hc;omega
  subst hi1;clear hc;rw[List.drop_length,List.reverse_nil,List.nil_append]at hw3;subst hw3;refine AWp.exit ?_;refine AWp.dw [] [.c [] [.d (.ptr [.int yk,.int yn,.str ya,.str yb,Q8 yvs,.sl (yxs.map Tm.row),.sl (ycs.map Cs.row)]),.ptr 1000 0,.ptr 1001 0,.ptr 1003 0,.ptr 1004 0] [(1000,.blk 41 [.arr 500 0 g.length]),(1001,.blk 185 [.mp 1002]),(1002,.map true false 1 (Rk q)),(1003,.blk 41 [.arr 501 0 v.length]),(1004,.blk 186 [.clo 128 [.ptr 1000 0,.ptr 1001 0,.ptr 1003 0,.ptr 1004 0]]),(500,.arr 9 1 (g.map Z0)),(501,.arr 9 1 (v.map Z0))] (.tuple []) [(1000,.blk 41 [.arr 500 0 h2.length]),(1001,.blk 185 [.mp 1002]),(1002,.map true false 1 (Rk o2)),(1003,.blk 41 [.arr 501 0 u2.length]),(1004,.blk 186 [.clo 128 [.ptr 1000 0,.ptr 1001 0,.ptr 1003 0,.ptr 1004 0]]),(500,.arr 9 1 (h2.map Z0)),(501,.arr 9 1 (u2.map Z0))]] mixed ?_ (hr:=by conv=>lhs;simp[Tm.row,Tm.Q3,Cs.Q3,h1d,Cs.row]);refine AWp.rg [] [] ?_ (hr:=by conv=>lhs;simp[Tm.row,Tm.Q3,Cs.Q3,h1d,Cs.row]);refine⟨⟨(j+1,h2,u2,o2),hi1,⟨hH,hT,hO,by dsimp only;omega,by dsimp only;omega⟩⟩,by simp;omega,?_⟩;dsimp only;exact Le.sub (by simp) (by simp)
 have hi1:j=tcs.length:=by have:=of_decide_eq_false hc;omega
 subst hi1;clear hc;rw[List.drop_length]at hw2;simp only[Cs.Y9,Cs.K9,Cs.V5,List.reverse_nil,List.nil_append,List.append_nil]at hw2;obtain⟨hH,hT,hO,-,-⟩:=hw2;refine AWp.exit ?_;rw[hH,hT,hO];try dsimp only[Qq,Q6]
 apply Qk.normal
 ·rfl
 ·conv=>lhs;simp[Q9,Tryz.results128]
 ·rfl
 ·simp[Qx,Q4]
theorem need_all:∀N,NeedN N
 |0=>fun t h=>by obtain⟨tk,tn,ta,tb,tvs,txs,tcs⟩:=t;simp only[Tm.sz]at h;omega
 |N+1=>need_step N (need_all N)
theorem cs_IndexFuncM (l:List ByteArray) (hl:l.length≤8796093022208) (p:ByteArray→Bool) (K:Nat) (t:TypeId) (E:List (D×List D))
  (hk:∀s∈l,Qv Tryz.prog K [.d (.str s),.ptr 1000 0] [(1000,.blk t [.mp 1002]),(1002,.map true false 1 E)] (.d (.bool (p s))) [(1000,.blk t [.mp 1002]),(1002,.map true false 1 E)]):
  Qv Tryz.prog 135 [.arr 1001 0 l.length,.clo K [.ptr 1000 0]] [(1000,.blk t [.mp 1002]),(1002,.map true false 1 E),(1001,.arr 9 1 (l.map Z0))] (.d (.int (Ov l p))) [(1000,.blk t [.mp 1002]),(1002,.map true false 1 E),(1001,.arr 9 1 (l.map Z0))]:=by
 refine Qv.of Tryz.func135 rfl rfl (Nat.le_of_ble_eq_true rfl) ?_;show AWp _ _ (Qk _ Tryz.f135 _ _) (Zz 19 _ _);repeat (first|refine AWp.seq ?_|refine AWp.block ?_)
 apply AWp.reg [] []
 ·conv=>lhs;simp
 ·trivial
 repeat (first|refine AWp.seq ?_|refine AWp.block ?_)
 apply AWp.reg [] []
 ·conv=>lhs;simp
 ·trivial
 repeat (first|refine AWp.seq ?_|refine AWp.block ?_)
 refine AWp.loop (σ:=fun u:{i:Nat // i≤l.length∧∀y∈l.take i,p y=false}=>⟨19,[(0,.arr 1001 0 l.length),(1,.clo K [.ptr 1000 0]),(7,.d (.int l.length)),(8,.d (.int u.1))],[(1000,some (.blk t [.mp 1002])),(1002,some (.map true false 1 E)),(1001,some (.arr 9 1 (l.map Z0)))]⟩)
  (μ:=fun u=>l.length-u.1) ⟨0,Nat.zero_le _,by simp⟩ (Le.sub (by simp) (by simp)) (fun⟨i,hi,ht⟩=>?_)
 dsimp only;repeat (first|refine AWp.seq ?_|refine AWp.block ?_)
 apply AWp.reg [] []
 ·conv=>lhs;simp
 ·trivial
 repeat (first|refine AWp.seq ?_|refine AWp.block ?_)
 refine AWp.cond rfl (fun h=>?_) (fun h=>?_)
 ·have hi1:i<l.length:=by have:=of_decide_eq_true h;omega
  have h1:l[i]? =some l[i]:=List.getElem?_eq_getElem hi1;have hmem:l[i]∈l:=List.getElem_mem hi1;generalize l[i]=y at h1 hmem;have hc:=hk y hmem;obtain⟨B,hB⟩:∃B,B=p y:=⟨_,rfl⟩
  rw[←hB]at hc;refine AWp.skip ?_;repeat (first|refine AWp.seq ?_|refine AWp.block ?_)
  apply AWp.reg [] []
  ·conv=>lhs;simp
  ·trivial
  cases B with
  |true=>
   repeat (first|refine AWp.seq ?_|refine AWp.block ?_)
   apply AWp.reg [] [.c [] [.d (.str y),.ptr 1000 0] [(1000,.blk t [.mp 1002]),(1002,.map true false 1 E)] (.d (.bool true)) [(1000,.blk t [.mp 1002]),(1002,.map true false 1 E)]]
   ·conv=>lhs;simp[h1]
   ·exact⟨by omega,hc⟩
   repeat (first|refine AWp.seq ?_|refine AWp.block ?_)
   refine AWp.cond rfl (fun h2=>?_) (fun h2=>?_)
   ·repeat (first|refine AWp.seq ?_|refine AWp.block ?_)
    apply AWp.reg [] []
    ·conv=>lhs;simp
    ·trivial
    refine AWp.ret ?_;try dsimp only[Qq,Q6]
    apply Qk.ret
    ·rfl
    ·conv=>lhs;simp[Q9,Tryz.results135]
    ·rw[Tv h1 ht hB.symm];rfl
    ·simp[Qx,Q4]
   ·simp at h2
  |false=>
   repeat (first|refine AWp.seq ?_|refine AWp.block ?_)
   apply AWp.reg [] [.c [] [.d (.str y),.ptr 1000 0] [(1000,.blk t [.mp 1002]),(1002,.map true false 1 E)] (.d (.bool false)) [(1000,.blk t [.mp 1002]),(1002,.map true false 1 E)]]
   ·conv=>lhs;simp[h1]
   ·exact⟨by omega,hc⟩
   repeat (first|refine AWp.seq ?_|refine AWp.block ?_)
   refine AWp.cond rfl (fun h2=>?_) (fun h2=>?_)
   ·simp at h2
   refine AWp.skip ?_;refine AWp.rg [] [] ?_;refine⟨⟨i+1,hi1,Pv h1 ht hB.symm⟩,by simp;omega,Le.sub (by simp) (by simp)⟩
 have hi1:i=l.length:=by have:=of_decide_eq_false h;omega
 subst hi1;rw[List.take_length]at ht;refine AWp.exit ?_;repeat (first|refine AWp.seq ?_|refine AWp.block ?_)
 apply AWp.reg [] []
 ·conv=>lhs;simp
 ·trivial
 refine AWp.ret ?_;try dsimp only[Qq,Q6]
 apply Qk.ret
 ·rfl
 ·conv=>lhs;simp[Q9,Tryz.results135]
 ·rw[Nq ht];rfl
 ·simp[Qx,Q4]
theorem cs_DeleteFuncM (l:List ByteArray) (hl:l.length≤8796093022208) (p:ByteArray→Bool) (K:Nat) (t:TypeId) (E:List (D×List D))
  (hk:∀s∈l,Qv Tryz.prog K [.d (.str s),.ptr 1000 0] [(1000,.blk t [.mp 1002]),(1002,.map true false 1 E)] (.d (.bool (p s))) [(1000,.blk t [.mp 1002]),(1002,.map true false 1 E)]):
  Qv Tryz.prog 111 [.arr 1001 0 l.length,.clo K [.ptr 1000 0]] [(1000,.blk t [.mp 1002]),(1002,.map true false 1 E),(1001,.arr 9 1 (l.map Z0))] (.arr 1001 0 (l.filter fun s=>!p s).length) [(1000,.blk t [.mp 1002]),(1002,.map true false 1 E),(1001,.arr 9 1 (Wz l p))]:=by
 have hix:=cs_IndexFuncM l hl p K t E hk;refine Qv.of Tryz.func111 rfl rfl (Nat.le_of_ble_eq_true rfl) ?_;show AWp _ _ (Qk _ Tryz.f111 _ _) (Zz 42 _ _);repeat (first|refine AWp.seq ?_|refine AWp.block ?_)
 apply AWp.reg [] []
 ·conv=>lhs;simp
 ·trivial
 by_cases hno:∀y∈l,p y=false
 ·rw[Nq hno]at hix;have hf:(l.filter fun s=>!p s)=l:=List.filter_eq_self.2 fun y hy=>by simp[hno y hy]
  repeat (first|refine AWp.seq ?_|refine AWp.block ?_)
  apply AWp.reg [] [.c [] [.arr 1001 0 l.length,.clo K [.ptr 1000 0]] [(1000,.blk t [.mp 1002]),(1002,.map true false 1 E),(1001,.arr 9 1 (l.map Z0))] (.d (.int (-1))) [(1000,.blk t [.mp 1002]),(1002,.map true false 1 E),(1001,.arr 9 1 (l.map Z0))]]
  ·conv=>lhs;simp
  ·exact hix
  repeat (first|refine AWp.seq ?_|refine AWp.block ?_)
  apply AWp.reg [] []
  ·conv=>lhs;simp
  ·trivial
  repeat (first|refine AWp.seq ?_|refine AWp.block ?_)
  refine AWp.cond rfl (fun h=>?_) (fun h=>?_)
  ·repeat (first|refine AWp.seq ?_|refine AWp.block ?_)
   apply AWp.reg [] []
   ·conv=>lhs;simp
   ·trivial
   refine AWp.ret ?_;try dsimp only[Qq,Q6]
   apply Qk.ret
   ·rfl
   ·conv=>lhs;simp[Q9,Tryz.results111]
   ·rw[hf];rfl
   ·simp[Qx,Q4,Wz,hf]
  ·simp at h
 obtain⟨i0,y0,hy0,hp0,hbefore⟩:∃i0 y0,l[i0]? =some y0∧p y0=true∧∀y∈l.take i0,p y=false:=by
  have:∃i,l.findIdx? p=some i:=by
   cases hf:l.findIdx? p with
   |none=>exact absurd (List.findIdx?_eq_none_iff.1 hf) hno
   |some i=>exact⟨i,rfl⟩
  obtain⟨i,hi⟩:=this;rw[List.findIdx?_eq_some_iff_getElem]at hi;obtain⟨h1,h2,h3⟩:=hi;refine⟨i,l[i],List.getElem?_eq_getElem h1,h2,fun y hy=>?_⟩;obtain⟨j,hj⟩:=List.mem_iff_getElem?.1 hy;rw[List.getElem?_take]at hj;split at hj
  ·rename_i hji;have:=h3 j hji;rw[List.getElem?_eq_getElem (by omega)]at hj;cases hj;simpa using this
  ·cases hj
 rw[Tv hy0 hbefore hp0]at hix;have hi0:i0<l.length:=(List.getElem?_eq_some_iff.1 hy0).1;have hne:¬((i0:Int)= -1):=by omega
 repeat (first|refine AWp.seq ?_|refine AWp.block ?_)
 apply AWp.reg [] [.c [] [.arr 1001 0 l.length,.clo K [.ptr 1000 0]] [(1000,.blk t [.mp 1002]),(1002,.map true false 1 E),(1001,.arr 9 1 (l.map Z0))] (.d (.int i0)) [(1000,.blk t [.mp 1002]),(1002,.map true false 1 E),(1001,.arr 9 1 (l.map Z0))]]
 ·conv=>lhs;simp
 ·exact hix
 repeat (first|refine AWp.seq ?_|refine AWp.block ?_)
 apply AWp.reg [] []
 ·conv=>lhs;simp[hne]
 ·trivial
 repeat (first|refine AWp.seq ?_|refine AWp.block ?_)
 refine AWp.cond rfl (fun h=>?_) (fun h=>?_)
 ·simp at h
 refine AWp.skip ?_;repeat (first|refine AWp.seq ?_|refine AWp.block ?_)
 apply AWp.reg [] []
 ·conv=>lhs;simp
 ·simp[inI];omega
 repeat (first|refine AWp.seq ?_|refine AWp.block ?_)
 have hk0:((l.take (i0+1)).filter fun s=>!p s)=l.take i0:=by
  rw[List.take_add_one,hy0,List.filter_append];simp[hp0];exact fun y hy=>by simpa using hbefore y hy
 refine AWp.loop (σ:=fun u:{q:Nat×List ByteArray // q.1≤l.length∧((l.take q.1).filter fun s=>!p s).length+q.2.length=q.1}=>⟨42,[(0,.arr 1001 0 l.length),(1,.clo K [.ptr 1000 0]),(5,.d (.int ((l.take u.1.1).filter fun s=>!p s).length)),(6,.d (.int u.1.1))],
   [(1000,some (.blk t [.mp 1002])),(1002,some (.map true false 1 E)),(1001,some (.arr 9 1 ((((l.take u.1.1).filter fun s=>!p s)++(u.1.2++l.drop u.1.1)).map Z0)))]⟩)
  (μ:=fun u=>l.length-u.1.1) ⟨(i0+1,[y0]),hi0,by rw[hk0];simp;omega⟩ ?_ (fun⟨⟨j,mid⟩,hj,hlen⟩=>?_)
 ·dsimp only;rw[hk0];have e:l.take i0++([y0]++l.drop (i0+1))=l:=by
   have h2:=List.drop_eq_getElem_cons hi0;rw[List.getElem?_eq_getElem hi0]at hy0;cases hy0;rw[List.singleton_append,←h2,List.take_append_drop]
  rw[e];have e2:(l.take i0).length=i0:=by simp;omega
  rw[e2];exact Le.sub (by simp) (by simp)
 dsimp only at hj hlen⊢;have hKl:((l.take j).filter fun s=>!p s).length≤j:=by omega
 obtain⟨kp,hkp⟩:∃kp,kp=(l.take j).filter fun s=>!p s:=⟨_,rfl⟩
 rw[←hkp]at hlen hKl⊢;obtain⟨R,hR⟩:∃R,R=kp++(mid++l.drop j):=⟨_,rfl⟩
 have hRl:R.length=l.length:=by rw[hR];simp;omega
 rw[←hR];repeat (first|refine AWp.seq ?_|refine AWp.block ?_)
 apply AWp.reg [] []
 ·conv=>lhs;simp
 ·trivial
 repeat (first|refine AWp.seq ?_|refine AWp.block ?_)
 refine AWp.cond rfl (fun h=>?_) (fun h=>?_)
 ·have hj1:j<l.length:=by have:=of_decide_eq_true h;omega
  have hv:l[j]? =some l[j]:=List.getElem?_eq_getElem hj1;have hmem:l[j]∈l:=List.getElem_mem hj1;have hd:l.drop j=l[j]::l.drop (j+1):=List.drop_eq_getElem_cons hj1;generalize l[j]=v at hv hmem hd;have hc:=hk v hmem;obtain⟨B,hB⟩:∃B,B=p v:=⟨_,rfl⟩
  have ht:(l.take (j+1)).filter (fun s=>!p s)=kp++(if B then[]else[v]):=by
   rw[List.take_add_one,hv,List.filter_append,←hkp,hB];cases hp:p v<;> simp[hp]
  rw[←hB]at hc;have hRj:R[j]? =some v:=by
   rw[hR,hd,List.getElem?_append_right (by omega),List.getElem?_append_right (by omega)];rw[show j-kp.length-mid.length=0 from by omega];rfl
  refine AWp.skip ?_;refine AWp.rg [] [] ?_ (hr:=by conv=>lhs;simp[hRj,hRl]);cases B with
  |true=>
   repeat (first|refine AWp.seq ?_|refine AWp.block ?_)
   apply AWp.reg [] [.c [] [.d (.str v),.ptr 1000 0] [(1000,.blk t [.mp 1002]),(1002,.map true false 1 E)] (.d (.bool true)) [(1000,.blk t [.mp 1002]),(1002,.map true false 1 E)]]
   ·conv=>lhs;simp
   ·exact hc
   repeat (first|refine AWp.seq ?_|refine AWp.block ?_)
   refine AWp.cond rfl (fun h2=>?_) (fun h2=>?_)
   ·simp at h2
   refine AWp.skip ?_;refine AWp.rg [] [] ?_;refine⟨⟨(j+1,mid++[v]),hj1,by dsimp only;rw[ht];simp;omega⟩,by simp;omega,?_⟩;dsimp only;rw[ht];simp only[if_true,List.append_nil];have e:kp++(mid++[v]++l.drop (j+1))=R:=by rw[hR,hd];simp
   rw[e];exact Le.sub (by simp) (by simp)
  |false=>
   repeat (first|refine AWp.seq ?_|refine AWp.block ?_)
   apply AWp.reg [] [.c [] [.d (.str v),.ptr 1000 0] [(1000,.blk t [.mp 1002]),(1002,.map true false 1 E)] (.d (.bool false)) [(1000,.blk t [.mp 1002]),(1002,.map true false 1 E)]]
   ·conv=>lhs;simp
   ·exact hc
   obtain⟨m',hm',hset⟩:=set_mid kp mid (l.drop (j+1)) v;rw[←hd,←hR]at hset;have hRk:R[kp.length]? =some R[kp.length]:=List.getElem?_eq_getElem (by omega);generalize R[kp.length]=r at hRk;repeat (first|refine AWp.seq ?_|refine AWp.block ?_)
   refine AWp.cond rfl (fun h2=>?_) (fun h2=>?_)
   ·refine AWp.rg [] [] ?_ (hr:=by conv=>lhs;simp[hRk,hRl]);refine AWp.rg [] [] ?_;refine AWp.rg [] [] ?_;refine⟨⟨(j+1,m'),hj1,by dsimp only;rw[ht];simp;omega⟩,by simp;omega,?_⟩;dsimp only;rw[ht];have e:kp++(if false=true then[]else[v])++(m'++l.drop (j+1))=R.set kp.length v:=by rw[hset];simp
    rw[e];exact Le.sub (by simp) (by simp[List.map_set])
   ·simp at h2
 have hj1:j=l.length:=by have:=of_decide_eq_false h;omega
 subst hj1;rw[List.take_length]at hkp;rw[List.drop_length,List.append_nil]at hR;refine AWp.exit ?_;have hmem:List.take kp.length (List.map Z0 R)++(List.replicate (l.length-kp.length) [D.str ByteArray.empty]++List.drop (kp.length+(l.length-kp.length)) (List.map Z0 R))=Wz l p:=by
  rw[Wz,←hkp,hR,List.map_append,List.take_append_of_le_length (by simp),List.take_of_length_le (by simp),List.drop_eq_nil_of_le (by simp;omega),List.append_nil]
 refine AWp.rg [] [] ?_ (hr:=by conv=>lhs;simp[hRl]);refine AWp.rg [] [] ?_ (hr:=by conv=>lhs;simp[hRl]);rw[hmem];refine AWp.ret ?_;try dsimp only[Qq,Q6]
 apply Qk.ret
 ·rfl
 ·conv=>lhs;simp[Q9,Tryz.results111]
 ·rw[hkp];rfl
 ·simp[Qx,Q4]
theorem hasB_rev (l:List ByteArray) (s:ByteArray):hasB l.reverse s=hasB l s:=by
 rw[Bool.eq_iff_iff,X3,X3,List.mem_reverse]
mutual
theorem Tm.stT_ok:∀t:Tm,t.Ok→∀s∈t.stT,s.size≤140737488355328
 | .mk k n a b vs xs cs,hO,s,hs=>by
  obtain⟨o1,o2,o3,o4,o5⟩:=hO.vars;rw[Tm.stT]at hs;rcases List.mem_append.1 hs with hs|hs
  ·split at hs
   ·rw[List.mem_singleton.1 hs];exact o5
   ·cases hs
  ·rcases List.mem_append.1 hs with hs|hs
   ·exact Tm.stTL_ok xs (fun x hx=>Tm.X8.1 hO.2.2.1 x hx) s hs
   ·exact Cs.stTL_ok cs (fun x hx=>Cs.X8.1 hO.2.2.2 x hx) s hs
theorem Tm.stTL_ok:∀l:List Tm,(∀x∈l,x.Ok)→∀s∈Tm.K9 l,s.size≤140737488355328
 |[],_,s,hs=>by cases hs
 |x::r,h,s,hs=>by
  rw[Tm.K9]at hs;rcases List.mem_append.1 hs with hs|hs
  ·exact Tm.stT_ok x (h x (List.mem_cons_self ..)) s hs
  ·exact Tm.stTL_ok r (fun y hy=>h y (List.mem_cons_of_mem _ hy)) s hs
theorem Cs.stTL_ok:∀l:List Cs,(∀x∈l,x.Ok)→∀s∈Cs.K9 l,s.size≤140737488355328
 |[],_,s,hs=>by cases hs
 |x::r,h,s,hs=>by
  rw[Cs.K9]at hs;rcases List.mem_append.1 hs with hs|hs
  ·exact Cs.stT_ok x (h x (List.mem_cons_self ..)) s hs
  ·exact Cs.stTL_ok r (fun y hy=>h y (List.mem_cons_of_mem _ hy)) s hs
theorem Cs.stT_ok:∀c:Cs,c.Ok→∀s∈c.stT,s.size≤140737488355328
 | .mk t ws y,hO,s,hs=>Tm.stT_ok y hO.2.2 s hs
end
theorem sp_needs (t:Tm) (hO:t.Ok) (hz:t.sz≤8000000000):Z4 Tryz.prog 106 [X9 t] (fun _=>.tuple [Zk t.ndN,Zk t.ndT]) none:=by
 have hlk:=need_all t.sz t (Nat.le_refl _) hO [] [] [] (by simpa using hz) (by simpa using hz);obtain⟨z1,z2⟩:=t.st_len;have hto:=t.stT_ok hO;obtain⟨LN,hLN⟩:∃L,L=t.ndN:=⟨_,rfl⟩
 obtain⟨LT,hLT⟩:∃L,L=t.ndT:=⟨_,rfl⟩
 rw[←hLN,←hLT];unfold Tm.ndN at hLN;unfold Tm.ndT at hLT;obtain⟨O,hOd⟩:∃O,O=t.V4.reverse:=⟨_,rfl⟩
 have hOh:∀s,hasB t.V4 s=hasB O s:=fun s=>by rw[hOd,hasB_rev]
 simp only[hOh]at hLN hLT;simp only[List.nil_append,List.append_nil,sawD_nil,List.map_nil,List.length_nil,←hOd]at hlk;generalize t.stN=N at *;generalize t.stT=T at *;have hsN:=cs_Sort N (by omega);have hsT:=cs_Sort T (by omega);have hN1:=srtB_len N;have hT1:=srtB_len T;have hT1m:∀s∈srtB T,s.size≤140737488355328:=fun s hs=>hto s ((Qz1 T).mem_iff.1 hs)
 generalize srtB N=N1 at *;generalize srtB T=T1 at *;have hcN:=cs_Compact N1 (by omega);have hcT:=cs_Compact T1 (by omega);have hlN:=cmpB_len N1;have hlT:=cmpB_len T1;have hCm:∀s∈Qx3 T1,s.size≤140737488355328:=fun s hs=>hT1m s ((cmpB_mem T1 s).1 hs)
 generalize Qx3 N1=CN at *;generalize Qx3 T1=CT at *;obtain⟨RN,hRNd⟩:∃R,R=(CN++List.replicate (N1.length-CN.length) ByteArray.empty).map Z0:=⟨_,rfl⟩
 obtain⟨RT,hRTd⟩:∃R,R=(CT++List.replicate (T1.length-CT.length) ByteArray.empty).map Z0:=⟨_,rfl⟩
 have hRNl:RN.length=N1.length:=by rw[hRNd];simp;omega
 have hRTl:RT.length=T1.length:=by rw[hRTd];simp;omega
 have hRN:RN.take CN.length=CN.map Z0:=by rw[hRNd,List.map_append,List.take_append_of_le_length (by simp),List.take_of_length_le (by simp)]
 have hRT:RT.take CT.length=CT.map Z0:=by rw[hRTd,List.map_append,List.take_append_of_le_length (by simp),List.take_of_length_le (by simp)]
 have hCN:CN.length≤RN.length:=by omega
 have hCT:CT.length≤RT.length:=by omega
 rw[←hRNd,hN1]at hcN;rw[←hRTd,hT1]at hcT;have hdN:=cs_DeleteFuncM CN (by omega) (hasB O) 131 185 (Rk O) (fun s _=>by simpa using cs_need2 O s);have hdT:=cs_DeleteFuncM CT (by omega) (fun s=>hasB O (excl s)) 132 185 (Rk O) (fun s hs=>by simpa using cs_need3 O s (hCm s hs));obtain⟨QN,hQNd⟩:∃Q,Q=Wz CN (hasB O):=⟨_,rfl⟩
 obtain⟨QT,hQTd⟩:∃Q,Q=Wz CT (fun s=>hasB O (excl s)):=⟨_,rfl⟩
 obtain⟨nN,hnN⟩:∃n,n=LN.length:=⟨_,rfl⟩
 obtain⟨nT,hnT⟩:∃n,n=LT.length:=⟨_,rfl⟩
 have hQN:QN.take nN=LN.map Z0:=by rw[hQNd,hnN,hLN,Wz,List.take_append_of_le_length (by simp),List.take_of_length_le (by simp)]
 have hQT:QT.take nT=LT.map Z0:=by rw[hQTd,hnT,hLT,Wz,List.take_append_of_le_length (by simp),List.take_of_length_le (by simp)]
 have hQNl:CN.length≤QN.length:=by
  have:=List.length_filter_le (fun s=>!hasB O s) CN;rw[hQNd,Wz];simp;omega
 have hQTl:CT.length≤QT.length:=by
  have:=List.length_filter_le (fun s=>!hasB O (excl s)) CT;rw[hQTd,Wz];simp;omega
 rw[←hQNd,←hLN,←hnN]at hdN;rw[←hQTd,←hLT,←hnT]at hdT;obtain⟨tk,tn,ta,tb,tvs,txs,tcs⟩:=t;simp only[Tm.row,Tm.Q3,Cs.Q3]at hlk;clear hOh hOd;refine Z4.of Tryz.func106 rfl rfl rfl (Nat.le_of_ble_eq_true rfl) ?_;show AWp _ _ (Z8 _ Tryz.f106 _ _ _) (Z7 24 _);refine AWp.rg [0] [] ?_ (hr:=by conv=>lhs;simp[Tm.row,Tm.Q3,Cs.Q3]);refine AWp.rg [] [] ?_ (hr:=by conv=>lhs;simp[Tm.row,Tm.Q3,Cs.Q3]);refine AWp.rg [] [] ?_ (hr:=by conv=>lhs;simp[Tm.row,Tm.Q3,Cs.Q3]);refine AWp.rg [] [] ?_ (hr:=by conv=>lhs;simp[Tm.row,Tm.Q3,Cs.Q3]);repeat (first|refine AWp.seq ?_|refine AWp.block ?_)
 refine AWp.le (Le.low [400,401] [] (fr:=[(1,.d (.ptr [.int tk,.int tn,.str ta,.str tb,Q8 tvs,.sl (txs.map Tm.row),.sl (tcs.map Cs.row)])),(2,.ptr 2 0),(3,.ptr 3 0),(4,.ptr 4 0),(5,.ptr 5 0)]) (mem:=[(2,some (.blk 41 [.arr 400 0 0])),(3,some (.blk 41 [.arr 401 0 0])),(4,some (.blk 185 [.mp 6])),(5,some (.blk 186 [.clo 128 [.ptr 2 0,.ptr 4 0,.ptr 3 0,.ptr 5 0]])),(6,some (.map true false 1 ([]))),(400,some (.arr 9 1 ([]))),(401,some (.arr 9 1 ([])))]) rfl (by simp) (by simp)) ?_;refine AWp.rg [] [.c [(1000,2),(1001,4),(1002,6),(1003,3),(1004,5),(500,400),(501,401)] [.d (.ptr [.int tk,.int tn,.str ta,.str tb,Q8 tvs,.sl (txs.map Tm.row),.sl (tcs.map Cs.row)]),.ptr 1000 0,.ptr 1001 0,.ptr 1003 0,.ptr 1004 0] [(1000,.blk 41 [.arr 500 0 0]),(1001,.blk 185 [.mp 1002]),(1002,.map true false 1 ([])),(1003,.blk 41 [.arr 501 0 0]),(1004,.blk 186 [.clo 128 [.ptr 1000 0,.ptr 1001 0,.ptr 1003 0,.ptr 1004 0]]),(500,.arr 9 1 ([])),(501,.arr 9 1 ([]))] (.tuple []) [(1000,.blk 41 [.arr 500 0 N.length]),(1001,.blk 185 [.mp 1002]),(1002,.map true false 1 (Rk O)),(1003,.blk 41 [.arr 501 0 T.length]),(1004,.blk 186 [.clo 128 [.ptr 1000 0,.ptr 1001 0,.ptr 1003 0,.ptr 1004 0]]),(500,.arr 9 1 (N.map Z0)),(501,.arr 9 1 (T.map Z0))]] ?_ (hr:=by conv=>lhs;simp[Tm.row,Tm.Q3,Cs.Q3]);refine AWp.rg [] [.c [(1000,400)] [.arr 1000 0 N.length] [(1000,.arr 9 1 (N.map Z0))] (.tuple []) [(1000,.arr 9 1 (N1.map Z0))]] ?_ (hr:=by conv=>lhs;simp[Tm.row,Tm.Q3,Cs.Q3]);refine AWp.rg [] [.c [(1000,401)] [.arr 1000 0 T.length] [(1000,.arr 9 1 (T.map Z0))] (.tuple []) [(1000,.arr 9 1 (T1.map Z0))]] ?_ (hr:=by conv=>lhs;simp[Tm.row,Tm.Q3,Cs.Q3]);repeat (first|refine AWp.seq ?_|refine AWp.block ?_)
 refine AWp.ops ?_;apply Uq.run (l1:=[_,_]) (l2:=[_,_,_]) (k:=0) [] [.c [(1000,400)] [.arr 1000 0 N.length] [(1000,.arr 9 1 (N1.map Z0))] (.arr 1000 0 CN.length) [(1000,.arr 9 1 RN)]]
 ·conv=>lhs;simp[Tm.row,Tm.Q3,Cs.Q3]
 ·(repeat' apply And.intro)<;> first|omega|assumption|trivial|(intros;subst_vars;rfl)|(intro i r h;rcases i with _|i<;> simp at h;subst h;rfl)|(simp[inI,maxLen];done)|(simp[inI,maxLen];omega)
 refine Uq.le (Le.low [] [] (fr:=[(2,.ptr 2 0),(3,.ptr 3 0),(4,.ptr 4 0),(15,.arr 400 0 CN.length)]) (mem:=[(2,some (.blk 41 [.any])),(3,some (.blk 41 [.arr 401 0 T.length])),(4,some (.blk 185 [.mp 6])),(6,some (.map true false 1 (Rk O))),(400,some (.arr 9 1 RN)),(401,some (.arr 9 1 (T1.map Z0)))]) rfl (by simp) (by simp)) ?_;refine Uq.le (Le.cut 400 CN.length rfl hRN hCN (by simp[frInK,AV.inK,AV.inKL]) (by simp[memInK,AV.inK,AV.inKL])) ?_;apply Uq.run (l1:=[_,_,_]) (l2:=[]) (k:=2) [] [.c [(1000,4),(1002,6),(1001,400)] [.arr 1001 0 CN.length,.clo 131 [.ptr 1000 0]] [(1000,.blk 185 [.mp 1002]),(1002,.map true false 1 (Rk O)),(1001,.arr 9 1 (CN.map Z0))] (.arr 1001 0 nN) [(1000,.blk 185 [.mp 1002]),(1002,.map true false 1 (Rk O)),(1001,.arr 9 1 QN)]]
 ·conv=>lhs;simp[Tm.row,Tm.Q3,Cs.Q3]
 ·(repeat' apply And.intro)<;> first|omega|assumption|trivial|(intros;subst_vars;rfl)|(intro i r h;rcases i with _|i<;> simp at h;subst h;rfl)|(simp[inI,maxLen];done)|(simp[inI,maxLen];omega)
 refine Uq.nil ?_;repeat (first|refine AWp.seq ?_|refine AWp.block ?_)
 refine AWp.ops ?_;apply Uq.run (l1:=[_,_]) (l2:=[_,_,_]) (k:=0) [] [.c [(1000,401)] [.arr 1000 0 T.length] [(1000,.arr 9 1 (T1.map Z0))] (.arr 1000 0 CT.length) [(1000,.arr 9 1 RT)]]
 ·conv=>lhs;simp[Tm.row,Tm.Q3,Cs.Q3]
 ·(repeat' apply And.intro)<;> first|omega|assumption|trivial|(intros;subst_vars;rfl)|(intro i r h;rcases i with _|i<;> simp at h;subst h;rfl)|(simp[inI,maxLen];done)|(simp[inI,maxLen];omega)
 refine Uq.le (Le.low [] [] (fr:=[(2,.ptr 2 0),(3,.ptr 3 0),(4,.ptr 4 0),(19,.arr 401 0 CT.length)]) (mem:=[(2,some (.blk 41 [.arr 400 0 nN])),(3,some (.blk 41 [.any])),(4,some (.blk 185 [.mp 6])),(6,some (.map true false 1 (Rk O))),(400,some (.arr 9 1 QN)),(401,some (.arr 9 1 RT))]) rfl (by simp) (by simp)) ?_;refine Uq.le (Le.cut 401 CT.length rfl hRT hCT (by simp[frInK,AV.inK,AV.inKL]) (by simp[memInK,AV.inK,AV.inKL])) ?_;apply Uq.run (l1:=[_,_,_]) (l2:=[]) (k:=2) [] [.c [(1000,4),(1002,6),(1001,401)] [.arr 1001 0 CT.length,.clo 132 [.ptr 1000 0]] [(1000,.blk 185 [.mp 1002]),(1002,.map true false 1 (Rk O)),(1001,.arr 9 1 (CT.map Z0))] (.arr 1001 0 nT) [(1000,.blk 185 [.mp 1002]),(1002,.map true false 1 (Rk O)),(1001,.arr 9 1 QT)]]
 ·conv=>lhs;simp[Tm.row,Tm.Q3,Cs.Q3]
 ·(repeat' apply And.intro)<;> first|omega|assumption|trivial|(intros;subst_vars;rfl)|(intro i r h;rcases i with _|i<;> simp at h;subst h;rfl)|(simp[inI,maxLen];done)|(simp[inI,maxLen];omega)
 refine Uq.nil ?_;refine AWp.dw [] [] mixed ?_ (hr:=by conv=>lhs;simp[Tm.row,Tm.Q3,Cs.Q3]);refine AWp.ret ?_;try dsimp only[Qq,Q6]
 apply Z8.retF [400,401]
 ·rfl
 ·conv=>lhs;simp
 ·conv=>lhs;simp[Q9,Tryz.results106]
 simp[Z6,AV.Xk,hQN,hQT]
end Go.Proofs.YtjpldhjgehoffaaGreatDoor
namespace Go.Proofs.YtjpldhjgehoffaaGreatDoor
open Go.RowKit
set_option linter.unusedVariables false
set_option linter.unusedSimpArgs false
def I9 (t:Tm):Prop:=t.fu=t
theorem I9.args {k n:Int} {a b:ByteArray} {vs:List ByteArray} {xs:List Tm} {cs:List Cs} (h:I9 (.mk k n a b vs xs cs)):∀x∈xs,I9 x:=by
 unfold I9 at h;rw[Tm.fu,Tm.Ez]at h;injection h with _ _ _ _ _ h _;intro x hx;obtain⟨i,hi⟩:=List.mem_iff_getElem?.1 hx;have h1:(xs.map Tm.fu)[i]? =some x:=by rw[h];exact hi
 rw[List.getElem?_map,hi]at h1;exact Option.some.inj h1
theorem cnt_fuId {k:Int}:∀(l:List ByteArray) {t:Tm},I9 t→I9 (cnt k l t)
 |[],_,h=>h
 |s::r,t,h=>by
  have h1:=cnt_fuId (k:=k) r h;unfold I9 at h1⊢;rw[cnt,Tm.fu,Tm.fuL,Tm.fuL,Cs.fuL,h1]
theorem I9.a0 {t:Tm} (h:I9 t):I9 t.a0:=by
 obtain⟨k,n,a,b,vs,xs,cs⟩:=t;unfold Tm.a0 Tm.xs;rcases xs with _|⟨x,r⟩
 ·exact h
 ·exact h.args x (List.mem_cons_self ..)
mutual
theorem Tm.sr_fuId:∀(t:Tm) (rest:List ByteArray),I9 t→I9 (t.sr rest).2
 | .mk k n a b vs xs cs,rest,h=>by
  rw[Tm.sr];split
  ·exact Tm.srL_fuId xs _ _ h h.args
  ·exact h
theorem Tm.srL_fuId:∀(l:List Tm) (rest:List ByteArray) (t:Tm),I9 t→(∀x∈l,I9 x)→I9 (Tm.srL l rest t).2
 |[],_,_,h,_=>by rw[Tm.srL];exact h
 |x::r,rest,t,_,h=>by rw[Tm.srL];exact Tm.sr_fuId x rest (h x (List.mem_cons_self ..))
end
theorem fuOne_id {k:Int} {na:Nat} {nm:ByteArray} {ws:List ByteArray} {y:Tm} (h:I9 y):I9 (Yv k na nm ws y)∧Yv k na nm ws (Yv k na nm ws y)=Yv k na nm ws y:=by
 by_cases hc:ws.length≠0∧na=1∧k=7∧(y.sr ws).2.tk=9∧(y.sr ws).2.nm=nm
 ·have e:Yv k na nm ws y= .mk 10 0 nm .empty ws [cnt 9 (y.sr ws).1 (y.sr ws).2.a0] []:=by unfold Yv;rw[if_pos hc]
  rw[e];have h1:=cnt_fuId (k:=9) (y.sr ws).1 (Tm.sr_fuId y ws h).a0;refine⟨?_,?_⟩
  ·unfold I9 at h1⊢;rw[Tm.fu,Tm.fuL,Tm.fuL,Cs.fuL,h1]
  ·have h2:((Tm.mk 10 0 nm .empty ws [cnt 9 (y.sr ws).1 (y.sr ws).2.a0] []).sr ws).2.tk≠9:=by
    rw[Tm.sr,if_neg (by omega)];show(10:Int)≠9;omega
   unfold Yv;rw[if_neg fun hq=>h2 hq.2.2.2.1]
 ·have e:Yv k na nm ws y=y:=by unfold Yv;rw[if_neg hc]
  rw[e,e];exact⟨h,rfl⟩
mutual
theorem Tm.fu_fu:∀t:Tm,I9 t.fu
 | .mk k n a b vs xs cs=>by
  have h1:=Tm.fuL_fu xs;have h2:=Cs.fuL_fu k xs.length (nmH xs) cs;have h3:(Tm.fuL xs).length=xs.length:=by rw[Tm.Ez,List.length_map]
  have h4:nmH (Tm.fuL xs)=nmH xs:=by
   rcases xs with _|⟨x,r⟩
   ·rfl
   ·rw[Tm.fuL,nmH,nmH,Tm.fu_nm]
  unfold I9;rw[Tm.fu,Tm.fu,h1,h3,h4,h2]
theorem Tm.fuL_fu:∀l:List Tm,Tm.fuL (Tm.fuL l)=Tm.fuL l
 |[]=>by rw[Tm.fuL];rfl
 |x::r=>by
  have h1:=Tm.fu_fu x;unfold I9 at h1;rw[Tm.fuL,Tm.fuL,Tm.fuL_fu r,h1]
theorem Cs.fuL_fu (k:Int) (na:Nat) (nm:ByteArray):∀l:List Cs,Cs.fuL k na nm (Cs.fuL k na nm l)=Cs.fuL k na nm l
 |[]=>by rw[Cs.fuL];rfl
 |c::r=>by
  rw[Cs.fuL,Cs.fuL,Cs.fuL_fu k na nm r,Cs.fu_fu k na nm c]
theorem Cs.fu_fu (k:Int) (na:Nat) (nm:ByteArray):∀c:Cs,(c.fu k na nm).fu k na nm=c.fu k na nm
 | .mk t ws y=>by
  have h1:=Tm.fu_fu y;obtain⟨h2,h3⟩:=fuOne_id (k:=k) (na:=na) (nm:=nm) (ws:=ws) h1;unfold I9 at h2;rw[Cs.fu,Cs.fu,h2,h3]
end
theorem Fn.fu_fu (f:Fn):f.fu.fu=f.fu:=by
 have h:=Tm.fu_fu f.body;unfold I9 at h;unfold Fn.fu;dsimp only;rw[h]
theorem mk1_fu (l:List Fn):(mk1 l).map Fn.fu=mk1 l:=by
 unfold mk1;rw[List.map_map];exact List.map_congr_left fun f _=>f.fu_fu
end Go.Proofs.YtjpldhjgehoffaaGreatDoor
namespace Go.Proofs.YtjpldhjgehoffaaGreatDoor
open Classical Go.RowKit
set_option linter.unusedVariables false
set_option linter.unusedSimpArgs false
mutual
def Tm.wg:Tm→Nat
 | .mk k n a b vs xs cs=>1+(if k=10∨k=11 then vs.length else 0)+Tm.wgs xs+Cs.wgs cs
def Tm.wgs:List Tm→Nat
 |[]=>0
 |x::r=>x.wg+Tm.wgs r
def Cs.wgs:List Cs→Nat
 |[]=>0
 |c::r=>c.wg+Cs.wgs r
def Cs.wg:Cs→Nat
 | .mk t ws y=>y.wg
end
theorem Tm.Lx {x:Tm}:∀{l:List Tm},x∈l→x.wg≤Tm.wgs l
 |y::r,h=>by
  rw[Tm.wgs];rcases List.mem_cons.1 h with rfl|h
  ·omega
  ·have:=Tm.Lx h;omega
theorem Cs.Lx {x:Cs}:∀{l:List Cs},x∈l→x.wg≤Cs.wgs l
 |y::r,h=>by
  rw[Cs.wgs];rcases List.mem_cons.1 h with rfl|h
  ·omega
  ·have:=Cs.Lx h;omega
structure LS.Wd (s:LS) (W:Nat):Prop where
 bd:s.Bd (4611686018427387904-W)
 tl:(s.tk.length:Int)+W≤4611686018427387904
 k1:KN s.ct
 k2:KN s.inn
 k3:KN s.tk
theorem LS.Wd.mono {s:LS} {W V:Nat} (h:s.Wd W) (hv:V≤W):s.Wd V:=⟨h.bd.mono (by omega),by have:=h.tl;omega,h.k1,h.k2,h.k3⟩
theorem LS.Wd.big {s:LS} {W:Nat} (h:s.Wd W):s.Bd 4611686018427387904:=h.bd.mono (by omega)
theorem LS.Wd.tlen {s:LS} {W:Nat} (h:s.Wd W):s.tk.length≤4611686018427387904:=by have:=h.tl;omega
theorem LS.Wd.use {s:LS} {W:Nat} (h:s.Wd W) (n:ByteArray):(s.Y6 n).2.Wd W:=by
 have hb:=h.bd.use n;obtain⟨h1,h2⟩:=s.useE_tk n;refine⟨hb,by rw[h1];exact h.tl,?_,by rw[h2];exact h.k2,by rw[h1];exact h.k3⟩;unfold LS.Y6;split
 ·exact h.k1
 ·split
  ·exact h.k1
  ·exact h.k1.put _ _
theorem LS.Wd.inc {s:LS} {W:Nat} (h:s.Wd (W+1)) (n:ByteArray):(s.inc n).Wd W:=
 ⟨(h.bd.inc n).mono (by omega),by have:=h.tl;show(s.tk.length:Int)+W≤_;omega,h.k1.put _ _,h.k2,h.k3⟩
theorem LS.Wd.Y4:∀(vs:List ByteArray) {s:LS} {W:Nat} (h:s.Wd (W+vs.length)) (nm:ByteArray),(s.Y4 nm vs).2.Wd W
 |[],s,W,h,nm=>by rw[LS.openE_nil];exact LS.Wd.use h nm
 |v::r,s,W,h,nm=>by
  rw[LS.openE_cons];split
  ·exact h.mono (by omega)
  ·exact LS.Wd.Y4 r (LS.Wd.inc (by rw[List.length_cons]at h;exact h) v) nm
theorem LS.Wd.tput {s:LS} {W:Nat} (h:s.Wd (W+1)) (b:ByteArray) (v:Int):({ s with tk:=Xj s.tk b v }:LS).Wd W:=by
 refine⟨h.bd.mono (by omega),?_,h.k1,h.k2,h.k3.put _ _⟩;have h1:=h.tl;have h2:(s.tk.filter fun p=>decide (p.1≠b)).length≤s.tk.length:=List.length_filter_le ..;show((Xj s.tk b v).length:Int)+W≤_;unfold Xj;rw[List.length_cons];omega
theorem LS.Wd.tdel {s:LS} {W:Nat} (h:s.Wd W) (b:ByteArray):({ s with tk:=M4 s.tk b }:LS).Wd W:=by
 refine⟨h.bd,?_,h.k1,h.k2,h.k3.filter _⟩;have h1:=h.tl;have h2:(s.tk.filter fun p=>decide (p.1≠b)).length≤s.tk.length:=List.length_filter_le ..;show((M4 s.tk b).length:Int)+W≤_;unfold M4;omega
theorem LS.Wd.put {s:LS} {W:Nat} (h:s.Wd W) (n:ByteArray) {v:Int} (h0:0≤v) (h1:v+W≤4611686018427387904):({ s with ct:=Xj s.ct n v }:LS).Wd W:=by
 refine⟨fun m=>?_,h.tl,h.k1.put _ _,h.k2,h.k3⟩;have:=h.bd m;rw[LS.c_put];split<;> omega
theorem LS.Wd.iput {s:LS} {W:Nat} (h:s.Wd W) (n v:ByteArray):({ s with inn:=Xj s.inn n v }:LS).Wd W:=⟨h.bd,h.tl,h.k1,h.k2.put _ _,h.k3⟩
theorem min1_le {k:Int} (h:0≤k):0≤Mx k∧Mx k≤k:=by unfold Mx;split<;> omega
theorem LS.Wd.fst {s:LS} {W:Nat} (h:s.Wd W) (t:Tm):(s.fst t).Wd W:=by
 refine⟨fun n=>?_,?_,?_,h.k2,h.k3.filter _⟩
 ·have h1:=h.bd n;have h2:=min1_le h1.1;rw[LS.fst_c];split<;> omega
 ·have h1:=h.tl;have h2:(s.tk.filter fun p=>t.askT p.1).length≤s.tk.length:=List.length_filter_le ..;show((s.tk.filter fun p=>t.askT p.1).length:Int)+W≤_;omega
 ·unfold LS.fst KN;dsimp only;rw[List.map_map];exact h.k1.filter fun p=>t.I8 p.1
theorem LS.Wd.rst {s:LS} {W:Nat} (h:s.Wd W) (t:Tm):(s.rst t).Wd W:=by
 refine⟨fun n=>?_,?_,?_,h.k2,h.k3.filter _⟩
 ·have h1:=h.bd n;have h2:=min1_le h1.1;rw[LS.rst_c];split<;> omega
 ·have h1:=h.tl;have h2:(s.tk.filter fun p=>!t.askT p.1).length≤s.tk.length:=List.length_filter_le ..;show((s.tk.filter fun p=>!t.askT p.1).length:Int)+W≤_;omega
 ·unfold LS.rst KN;dsimp only;rw[List.map_map];exact h.k1
def spN:List ByteArray→List (ByteArray×Int)→List (ByteArray×Int)→List (ByteArray×Int)×List (ByteArray×Int)
 |[],c,f=>(c,f)
 |n::r,c,f=>match lkA c n with
  |none=>spN r c f
  |some k=>spN r (Xj c n (k-Mx k)) (Xj f n (Mx k))
def spK:List ByteArray→List (ByteArray×Int)→List (ByteArray×Int)→List (ByteArray×Int)×List (ByteArray×Int)
 |[],c,f=>(c,f)
 |n::r,c,f=>match lkA c n with
  |none=>spK r c f
  |some k=>spK r (M4 c n) (Xj f n k)
theorem spN_kn:∀(l:List ByteArray) (c f:List (ByteArray×Int)),KN c→KN f→KN (spN l c f).1∧KN (spN l c f).2
 |[],c,f,h1,h2=>⟨h1,h2⟩
 |n::r,c,f,h1,h2=>by
  rw[spN];split
  ·exact spN_kn r c f h1 h2
  ·exact spN_kn r _ _ (h1.put _ _) (h2.put _ _)
theorem spK_kn:∀(l:List ByteArray) (c f:List (ByteArray×Int)),KN c→KN f→KN (spK l c f).1∧KN (spK l c f).2
 |[],c,f,h1,h2=>⟨h1,h2⟩
 |n::r,c,f,h1,h2=>by
  rw[spK];split
  ·exact spK_kn r c f h1 h2
  ·exact spK_kn r _ _ (h1.filter _) (h2.put _ _)
theorem spN_lk:∀(l:List ByteArray) (c f:List (ByteArray×Int)),l.Nodup→∀m,lkA (spN l c f).1 m=(if m∈l then (lkA c m).map fun k=>k-Mx k else lkA c m)∧lkA (spN l c f).2 m=(if m∈l then ((lkA c m).map Mx).or (lkA f m)else lkA f m)
 |[],c,f,_,m=>by simp[spN]
 |n::r,c,f,hn,m=>by
  obtain⟨hnr,hr⟩:=List.nodup_cons.1 hn;rw[spN];cases hk:lkA c n with
  |none=>
   obtain⟨h1,h2⟩:=spN_lk r c f hr m;dsimp only;rw[h1,h2];by_cases hm:m=n
   ·subst hm;rw[if_neg hnr,if_pos (List.mem_cons_self ..),if_neg hnr,if_pos (List.mem_cons_self ..),hk];exact⟨rfl,rfl⟩
   ·have e:(m∈n::r)↔m∈r:=by rw[List.mem_cons];exact⟨fun h=>h.resolve_left hm,.inr⟩
    by_cases hmr:m∈r
    ·rw[if_pos hmr,if_pos (e.2 hmr),if_pos hmr,if_pos (e.2 hmr)];exact⟨rfl,rfl⟩
    ·rw[if_neg hmr,if_neg (fun h=>hmr (e.1 h)),if_neg hmr,if_neg (fun h=>hmr (e.1 h))];exact⟨rfl,rfl⟩
  |some k=>
   obtain⟨h1,h2⟩:=spN_lk r (Xj c n (k-Mx k)) (Xj f n (Mx k)) hr m;dsimp only;rw[h1,h2,K5,K5];by_cases hm:m=n
   ·subst hm;rw[if_neg hnr,if_pos rfl,if_pos (List.mem_cons_self ..),if_neg hnr,if_pos rfl,if_pos (List.mem_cons_self ..),hk];exact⟨rfl,rfl⟩
   ·have hnm:¬n=m:=fun e=>hm e.symm
    have e:(m∈n::r)↔m∈r:=by rw[List.mem_cons];exact⟨fun h=>h.resolve_left hm,.inr⟩
    rw[if_neg hnm,if_neg hnm];by_cases hmr:m∈r
    ·rw[if_pos hmr,if_pos (e.2 hmr),if_pos hmr,if_pos (e.2 hmr)];exact⟨rfl,rfl⟩
    ·rw[if_neg hmr,if_neg (fun h=>hmr (e.1 h)),if_neg hmr,if_neg (fun h=>hmr (e.1 h))];exact⟨rfl,rfl⟩
theorem spK_lk:∀(l:List ByteArray) (c f:List (ByteArray×Int)),l.Nodup→∀m,lkA (spK l c f).1 m=(if m∈l then none else lkA c m)∧lkA (spK l c f).2 m=(if m∈l then (lkA c m).or (lkA f m)else lkA f m)
 |[],c,f,_,m=>by simp[spK]
 |n::r,c,f,hn,m=>by
  obtain⟨hnr,hr⟩:=List.nodup_cons.1 hn;rw[spK];cases hk:lkA c n with
  |none=>
   obtain⟨h1,h2⟩:=spK_lk r c f hr m;dsimp only;rw[h1,h2];by_cases hm:m=n
   ·subst hm;rw[if_neg hnr,if_pos (List.mem_cons_self ..),if_neg hnr,if_pos (List.mem_cons_self ..),hk];exact⟨rfl,rfl⟩
   ·have e:(m∈n::r)↔m∈r:=by rw[List.mem_cons];exact⟨fun h=>h.resolve_left hm,.inr⟩
    by_cases hmr:m∈r
    ·rw[if_pos hmr,if_pos (e.2 hmr),if_pos hmr,if_pos (e.2 hmr)];exact⟨rfl,rfl⟩
    ·rw[if_neg hmr,if_neg (fun h=>hmr (e.1 h)),if_neg hmr,if_neg (fun h=>hmr (e.1 h))];exact⟨rfl,rfl⟩
  |some k=>
   obtain⟨h1,h2⟩:=spK_lk r (M4 c n) (Xj f n k) hr m;dsimp only;rw[h1,h2,K5,lk_del];by_cases hm:m=n
   ·subst hm;rw[if_neg hnr,if_pos rfl,if_pos (List.mem_cons_self ..),if_neg hnr,if_pos rfl,if_pos (List.mem_cons_self ..),hk];exact⟨rfl,rfl⟩
   ·have hnm:¬n=m:=fun e=>hm e.symm
    have e:(m∈n::r)↔m∈r:=by rw[List.mem_cons];exact⟨fun h=>h.resolve_left hm,.inr⟩
    rw[if_neg hnm,if_neg hnm];by_cases hmr:m∈r
    ·rw[if_pos hmr,if_pos (e.2 hmr),if_pos hmr,if_pos (e.2 hmr)];exact⟨rfl,rfl⟩
    ·rw[if_neg hmr,if_neg (fun h=>hmr (e.1 h)),if_neg hmr,if_neg (fun h=>hmr (e.1 h))];exact⟨rfl,rfl⟩
theorem ent_perm {a b:List (ByteArray×Int)} (ha:KN a) (hb:KN b) (h:∀n,lkA a n=lkA b n):(Qw a).Perm (Qw b):=
 (entI_ents ha).perm (entI_ents hb) fun s=>by rw[X4,X4,h s]
theorem sp_fst {s:LS} {W:Nat} (h:s.Wd W) (t:Tm):
  (Qw (spN t.ndN s.ct []).1).Perm (Qw (s.rst t).ct)∧(Qw (spN t.ndN s.ct []).2).Perm (Qw (s.fst t).ct)∧(Qw (spK t.ndT s.tk []).1).Perm (Qw (s.rst t).tk)∧(Qw (spK t.ndT s.tk []).2).Perm (Qw (s.fst t).tk):=by
 have k0:KN ([]:List (ByteArray×Int)):=KN.nil;have hf:=h.fst t;have hr:=h.rst t;refine⟨ent_perm (spN_kn _ _ _ h.k1 k0).1 hr.k1 fun n=>?_,ent_perm (spN_kn _ _ _ h.k1 k0).2 hf.k1 fun n=>?_,ent_perm (spK_kn _ _ _ h.k3 k0).1 hr.k3 fun n=>?_,ent_perm (spK_kn _ _ _ h.k3 k0).2 hf.k3 fun n=>?_⟩
 ·rw[(spN_lk _ _ _ t.ndN_nodup n).1];unfold LS.rst;dsimp only;rw[Aj (fun k v=>if t.I8 k then v-Mx v else v)];by_cases hm:n∈t.ndN
  ·rw[if_pos hm];have ha:=(t.ndN_mem n).1 hm;congr 1;funext v;rw[if_pos ha]
  ·rw[if_neg hm];have ha:¬t.I8 n=true:=fun e=>hm ((t.ndN_mem n).2 e)
   cases lkA s.ct n with
   |none=>rfl
   |some v=>simp[ha]
 ·rw[(spN_lk _ _ _ t.ndN_nodup n).2];unfold LS.fst;dsimp only;rw[Aj (fun _ k=>Mx k),Vq t.I8];by_cases hm:n∈t.ndN
  ·rw[if_pos hm,if_pos ((t.ndN_mem n).1 hm)];cases lkA s.ct n<;> rfl
  ·rw[if_neg hm,if_neg (fun e=>hm ((t.ndN_mem n).2 e))];rfl
 ·rw[(spK_lk _ _ _ t.ndT_nodup n).1];unfold LS.rst;dsimp only;rw[Vq (fun b=>!t.askT b)];by_cases hm:n∈t.ndT
  ·rw[if_pos hm,if_neg (by simp[(t.ndT_mem n).1 hm])]
  ·rw[if_neg hm,if_pos];have ha:¬t.askT n=true:=fun e=>hm ((t.ndT_mem n).2 e)
   simpa using ha
 ·rw[(spK_lk _ _ _ t.ndT_nodup n).2];unfold LS.fst;dsimp only;rw[Vq t.askT];by_cases hm:n∈t.ndT
  ·rw[if_pos hm,if_pos ((t.ndT_mem n).1 hm)];cases lkA s.tk n<;> rfl
  ·rw[if_neg hm,if_neg (fun e=>hm ((t.ndT_mem n).2 e))];rfl
theorem LS.Wd.G8 (nm:ByteArray):∀(ws:List ByteArray) {s:LS} {W:Nat} (h:s.Wd W),(s.G8 nm ws).2.Wd W
 |[],s,W,h=>h
 |v::r,s,W,h=>by
  rw[LS.G8];split
  ·exact h
  ·have h1:=h.tl;have h2:(0:Int)≤s.tk.length:=Int.natCast_nonneg _;exact LS.Wd.G8 nm r ((h.put v (v:=0) (by omega) (by omega)).iput v nm)
end Go.Proofs.YtjpldhjgehoffaaGreatDoor
