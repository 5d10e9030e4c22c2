import Derived.Test.YtjpldhjgehoffaaGreatDoorLineJ
import Derived.Test.YtjpldhjgehoffaaGreatDoorLineB
import Derived.Test.YtjpldhjgehoffaaGreatDoorOwnC
import Derived.Test.YtjpldhjgehoffaaGreatDoorOwnE
import Derived.Test.YtjpldhjgehoffaaGreatDoorNameO
set_option maxRecDepth 20000
set_option maxHeartbeats 16000000
namespace Go.Proofs.YtjpldhjgehoffaaGreatDoor
open Classical Go.RowKit
attribute [local simp] Iz mkRc ldOf stOf stOk Nw Mv Rw Kj V9 Yj Yw J3 Y8 Bz evA Vj Dz Value.oneCell' Zj Q4 Z7 Qx1 U6 Z5 AS.after Zq Kq J8 AV.ids Mj Qz.ids frNo Nv G6 Wj H6 Y1 Y3 Vx U1 U0 Yz toD1 Sw setAt U9 Ij Dj L8 Gz L9 binI AV.cells J4 Jq Gq Wq AV.kill Qz.kill AV.has AV.K6 Op.operands Call.operands Dq Dw Zw Qv2 Zx Xq E8 moQ Mk R4 Yk AV.ren E5 Qz.ren Qz.like kept Zz Mw AV.frz Pz Ik Ak F8 Uk AS.frz Tw Rq Qz.frz Hq Hz bleF Nat.ble_eq G9 G7 Yq D.Y5 N7 R8 Vv Vw phO Ew Dk Gx Uj Kv Low Ex
set_option linter.unusedVariables false
set_option linter.unusedSimpArgs false
theorem LS.Qz0 (inn:List (ByteArray×ByteArray)) (tk:List (ByteArray×Int)):∀(xs:List Tm) (c:List (ByteArray×Int)),∃e c2,LS.Uw ⟨c,inn,tk⟩ xs=(e,⟨c2,inn,tk⟩)
 |[],c=>⟨_,_,rfl⟩
 |x::r,c=>by
  rw[LS.Uw];split
  ·exact⟨_,_,rfl⟩
  ·split
   ·exact LS.P5 c inn tk x.nm
   ·obtain⟨e,c2,h⟩:=LS.P5 c inn tk x.nm;rw[h];exact LS.Qz0 inn tk r c2
theorem lin_step (N:Nat) (hN:N≤8000000000) (ih:LinN N):LinN (N+1):=by
 intro t hsz hO s hW;obtain⟨ct,inn,tok⟩:=s;obtain⟨R,hR⟩:∃R,R=t.lin ⟨ct,inn,tok⟩:=⟨_,rfl⟩
 rw[←hR];obtain⟨tk,tn,ta,tb,tvs,txs,tcs⟩:=t;have hsz0:=hsz;have hO0:=hO;obtain⟨o1,o2,o3,o4,o5⟩:=hO.vars;obtain⟨A,hA⟩:∃A:Int,(txs.length:Int)=A:=⟨_,rfl⟩
 refine Qv.of Tryz.func39 rfl rfl (Nat.le_of_ble_eq_true rfl) ?_;show AWp _ _ (Qk _ Tryz.f39 _ _) (Zz 80 _ _);refine AWp.rg [0] [] ?_ (hr:=by conv=>lhs;simp[Q5,Q7,Tm.row,Tm.Q3,Cs.Q3]);refine AWp.rg [] [] ?_ (hr:=by conv=>lhs;simp[Q5,Q7,Tm.row,Tm.Q3,Cs.Q3]);by_cases q1:tk=1
 ·refine AWp.rg [] [] ?_ (hr:=by conv=>lhs;simp[Q5,Q7,Tm.row,Tm.Q3,Cs.Q3,q1]);refine AWp.cy ?_;rw[Tm.lin,if_pos (by omega)]at hR;have hu:=cs_luse ⟨ct,inn,tok⟩ ta hW.big;obtain⟨e,c2,hue⟩:=LS.P5 ct inn tok ta;rw[hue]at hu hR;dsimp only at hu hR;have hen:=cs_lend ⟨c2,inn,tok⟩ e hW.tlen;rw[←hR]at hen;refine AWp.rg [] [.c [(1000,500),(1001,501),(1002,502),(1003,503)] [.ptr 1000 0,.d (.str ta)] [(1000,.blk 86 [.mp 1001,.mp 1002,.mp 1003]),(1001,.map true false 1 (Qw ct)),(1002,.map true false 1 (Xx inn)),(1003,.map true false 1 (Qw tok))] (.d (.int e)) [(1000,.blk 86 [.mp 1001,.mp 1002,.mp 1003]),(1001,.map true false 1 (Qw c2)),(1002,.map true false 1 (Xx inn)),(1003,.map true false 1 (Qw tok))],.c [] [.ptr 500 0,.d (.int e)] [(500,.blk 86 [.mp 501,.mp 502,.mp 503]),(501,.map true false 1 (Qw c2)),(502,.map true false 1 (Xx inn)),(503,.map true false 1 (Qw tok))] (.d (.int R)) []] ?_ (hr:=by conv=>lhs;simp[Q5,Q7,Tm.row,Tm.Q3,Cs.Q3,q1]);refine AWp.ret ?_;try dsimp only[Qq,Q6]
  apply Qk.ret
  ·rfl
  ·conv=>lhs;simp[Q9,Tryz.results39]
  ·rfl
  ·simp[Qx,Q4]
 refine AWp.rg [] [] ?_ (hr:=by conv=>lhs;simp[Q5,Q7,Tm.row,Tm.Q3,Cs.Q3,q1]);refine AWp.cn ?_;by_cases q2:tk=2
 ·refine AWp.rg [] [] ?_ (hr:=by conv=>lhs;simp[Q5,Q7,Tm.row,Tm.Q3,Cs.Q3,q1,q2]);refine AWp.cy ?_;rw[Tm.lin,if_neg (by omega),if_pos (by omega)]at hR;have hen:=cs_lend ⟨ct,inn,tok⟩ 0 hW.tlen;rw[←hR]at hen;refine AWp.rg [] [.c [] [.ptr 500 0,.d (.int 0)] [(500,.blk 86 [.mp 501,.mp 502,.mp 503]),(501,.map true false 1 (Qw ct)),(502,.map true false 1 (Xx inn)),(503,.map true false 1 (Qw tok))] (.d (.int R)) []] ?_ (hr:=by conv=>lhs;simp[Q5,Q7,Tm.row,Tm.Q3,Cs.Q3,q1,q2]);refine AWp.ret ?_;try dsimp only[Qq,Q6]
  apply Qk.ret
  ·rfl
  ·conv=>lhs;simp[Q9,Tryz.results39]
  ·rfl
  ·simp[Qx,Q4]
 refine AWp.rg [] [] ?_ (hr:=by conv=>lhs;simp[Q5,Q7,Tm.row,Tm.Q3,Cs.Q3,q1,q2]);refine AWp.cn ?_;by_cases q3:tk=3
 ·refine AWp.rg [] [] ?_ (hr:=by conv=>lhs;simp[Q5,Q7,Tm.row,Tm.Q3,Cs.Q3,q1,q2,q3]);refine AWp.cy ?_;refine AWp.skip ?_;refine AWp.cy ?_;rw[Tm.lin,if_neg (by omega),if_neg (by omega),if_pos (by omega)]at hR;have hu:=cs_lall ⟨ct,inn,tok⟩ txs (by omega) hW.big;obtain⟨e,c2,hue⟩:=LS.Qz0 inn tok txs ct;rw[hue]at hu hR;dsimp only at hu hR;have hen:=cs_lend ⟨c2,inn,tok⟩ e hW.tlen;rw[←hR]at hen;refine AWp.rg [] [.c [(1000,500),(1001,501),(1002,502),(1003,503)] [.ptr 1000 0,.d (.sl (txs.map Tm.row))] [(1000,.blk 86 [.mp 1001,.mp 1002,.mp 1003]),(1001,.map true false 1 (Qw ct)),(1002,.map true false 1 (Xx inn)),(1003,.map true false 1 (Qw tok))] (.d (.int e)) [(1000,.blk 86 [.mp 1001,.mp 1002,.mp 1003]),(1001,.map true false 1 (Qw c2)),(1002,.map true false 1 (Xx inn)),(1003,.map true false 1 (Qw tok))],.c [] [.ptr 500 0,.d (.int e)] [(500,.blk 86 [.mp 501,.mp 502,.mp 503]),(501,.map true false 1 (Qw c2)),(502,.map true false 1 (Xx inn)),(503,.map true false 1 (Qw tok))] (.d (.int R)) []] ?_ (hr:=by conv=>lhs;simp[Q5,Q7,Tm.row,Tm.Q3,Cs.Q3,q1,q2,q3]);refine AWp.ret ?_;try dsimp only[Qq,Q6]
  apply Qk.ret
  ·rfl
  ·conv=>lhs;simp[Q9,Tryz.results39]
  ·rfl
  ·simp[Qx,Q4]
 refine AWp.rg [] [] ?_ (hr:=by conv=>lhs;simp[Q5,Q7,Tm.row,Tm.Q3,Cs.Q3,q1,q2,q3]);refine AWp.cn ?_;by_cases q4:tk=4
 ·refine AWp.rg [] [] ?_ (hr:=by conv=>lhs;simp[Q5,Q7,Tm.row,Tm.Q3,Cs.Q3,q1,q2,q3,q4]);refine AWp.cy ?_;refine AWp.skip ?_;refine AWp.cy ?_;rw[Tm.lin,if_neg (by omega),if_neg (by omega),if_pos (by omega)]at hR;have hu:=cs_lall ⟨ct,inn,tok⟩ txs (by omega) hW.big;obtain⟨e,c2,hue⟩:=LS.Qz0 inn tok txs ct;rw[hue]at hu hR;dsimp only at hu hR;have hen:=cs_lend ⟨c2,inn,tok⟩ e hW.tlen;rw[←hR]at hen;refine AWp.rg [] [.c [(1000,500),(1001,501),(1002,502),(1003,503)] [.ptr 1000 0,.d (.sl (txs.map Tm.row))] [(1000,.blk 86 [.mp 1001,.mp 1002,.mp 1003]),(1001,.map true false 1 (Qw ct)),(1002,.map true false 1 (Xx inn)),(1003,.map true false 1 (Qw tok))] (.d (.int e)) [(1000,.blk 86 [.mp 1001,.mp 1002,.mp 1003]),(1001,.map true false 1 (Qw c2)),(1002,.map true false 1 (Xx inn)),(1003,.map true false 1 (Qw tok))],.c [] [.ptr 500 0,.d (.int e)] [(500,.blk 86 [.mp 501,.mp 502,.mp 503]),(501,.map true false 1 (Qw c2)),(502,.map true false 1 (Xx inn)),(503,.map true false 1 (Qw tok))] (.d (.int R)) []] ?_ (hr:=by conv=>lhs;simp[Q5,Q7,Tm.row,Tm.Q3,Cs.Q3,q1,q2,q3,q4]);refine AWp.ret ?_;try dsimp only[Qq,Q6]
  apply Qk.ret
  ·rfl
  ·conv=>lhs;simp[Q9,Tryz.results39]
  ·rfl
  ·simp[Qx,Q4]
 refine AWp.rg [] [] ?_ (hr:=by conv=>lhs;simp[Q5,Q7,Tm.row,Tm.Q3,Cs.Q3,q1,q2,q3,q4]);refine AWp.cn ?_;by_cases q5:tk=5
 ·refine AWp.rg [] [] ?_ (hr:=by conv=>lhs;simp[Q5,Q7,Tm.row,Tm.Q3,Cs.Q3,q1,q2,q3,q4,q5]);refine AWp.cy ?_;rw[Tm.lin,if_neg (by omega),if_neg (by omega),if_pos (by omega)]at hR;have hu:=cs_lall ⟨ct,inn,tok⟩ txs (by omega) hW.big;obtain⟨e,c2,hue⟩:=LS.Qz0 inn tok txs ct;rw[hue]at hu hR;dsimp only at hu hR;have hen:=cs_lend ⟨c2,inn,tok⟩ e hW.tlen;rw[←hR]at hen;refine AWp.rg [] [.c [(1000,500),(1001,501),(1002,502),(1003,503)] [.ptr 1000 0,.d (.sl (txs.map Tm.row))] [(1000,.blk 86 [.mp 1001,.mp 1002,.mp 1003]),(1001,.map true false 1 (Qw ct)),(1002,.map true false 1 (Xx inn)),(1003,.map true false 1 (Qw tok))] (.d (.int e)) [(1000,.blk 86 [.mp 1001,.mp 1002,.mp 1003]),(1001,.map true false 1 (Qw c2)),(1002,.map true false 1 (Xx inn)),(1003,.map true false 1 (Qw tok))],.c [] [.ptr 500 0,.d (.int e)] [(500,.blk 86 [.mp 501,.mp 502,.mp 503]),(501,.map true false 1 (Qw c2)),(502,.map true false 1 (Xx inn)),(503,.map true false 1 (Qw tok))] (.d (.int R)) []] ?_ (hr:=by conv=>lhs;simp[Q5,Q7,Tm.row,Tm.Q3,Cs.Q3,q1,q2,q3,q4,q5]);refine AWp.ret ?_;try dsimp only[Qq,Q6]
  apply Qk.ret
  ·rfl
  ·conv=>lhs;simp[Q9,Tryz.results39]
  ·rfl
  ·simp[Qx,Q4]
 refine AWp.rg [] [] ?_ (hr:=by conv=>lhs;simp[Q5,Q7,Tm.row,Tm.Q3,Cs.Q3,q1,q2,q3,q4,q5]);refine AWp.cn ?_;by_cases q6:tk=12
 ·refine AWp.rg [] [] ?_ (hr:=by conv=>lhs;simp[Q5,Q7,Tm.row,Tm.Q3,Cs.Q3,q1,q2,q3,q4,q5,q6]);refine AWp.cy ?_;rw[Tm.lin,if_neg (by omega),if_neg (by omega),if_neg (by omega),if_pos (by omega)]at hR;dsimp only at hR;cases ht:lkA tok tb with
  |none=>
   have htg:D.Xz (.str tb) (Qw tok)=none:=by rw[X4,ht];rfl
   refine AWp.dw [] [] mixed ?_ (hr:=by conv=>lhs;simp[Q5,Q7,Tm.row,Tm.Q3,Cs.Q3,htg,q1,q2,q3,q4,q5,q6]);refine AWp.rg [] [] ?_ (hr:=by conv=>lhs;simp[Q5,Q7,Tm.row,Tm.Q3,Cs.Q3,htg,hA,q1,q2,q3,q4,q5,q6]);refine AWp.cy ?_;refine AWp.rg [] [] ?_ (hr:=by conv=>lhs;simp[Q5,Q7,Tm.row,Tm.Q3,Cs.Q3,htg,hA,q1,q2,q3,q4,q5,q6]);refine AWp.ret ?_;rw[if_pos (by rw[ht];simp)]at hR;rw[hR];try dsimp only[Qq,Q6]
   apply Qk.ret
   ·rfl
   ·conv=>lhs;simp[Q9,Tryz.results39]
   ·first|rfl|simp
   ·simp[Qx,Q4]
  |some k=>
   have htg:D.Xz (.str tb) (Qw tok)=some [.int k]:=by rw[X4,ht];rfl
   refine AWp.dw [] [] mixed ?_ (hr:=by conv=>lhs;simp[Q5,Q7,Tm.row,Tm.Q3,Cs.Q3,htg,q1,q2,q3,q4,q5,q6]);by_cases q7:k=A
   ·have q7t:=eq_true q7;refine AWp.rg [] [] ?_ (hr:=by conv=>lhs;simp[Q5,Q7,Tm.row,Tm.Q3,Cs.Q3,htg,hA,q1,q2,q3,q4,q5,q6,q7t]);refine AWp.cn ?_;refine AWp.skip ?_;rw[if_neg (fun h=>h (by rw[ht,hA,q7]))]at hR;refine AWp.dw [] [] mixed ?_ (hr:=by conv=>lhs;simp[Q5,Q7,Tm.row,Tm.Q3,Cs.Q3,htg,hA,q1,q2,q3,q4,q5,q6,q7t]);have hu:=cs_lall ⟨ct,inn,M4 tok tb⟩ txs (by omega) (hW.tdel tb).big;obtain⟨e,c2,hue⟩:=LS.Qz0 inn (M4 tok tb) txs ct;rw[hue]at hu hR;dsimp only at hu hR;have hen:=cs_lend ⟨c2,inn,(M4 tok tb)⟩ e (hW.tdel tb).tlen;rw[←hR]at hen;refine AWp.rg [] [.c [(1000,500),(1001,501),(1002,502),(1003,503)] [.ptr 1000 0,.d (.sl (txs.map Tm.row))] [(1000,.blk 86 [.mp 1001,.mp 1002,.mp 1003]),(1001,.map true false 1 (Qw ct)),(1002,.map true false 1 (Xx inn)),(1003,.map true false 1 (Qw (M4 tok tb)))] (.d (.int e)) [(1000,.blk 86 [.mp 1001,.mp 1002,.mp 1003]),(1001,.map true false 1 (Qw c2)),(1002,.map true false 1 (Xx inn)),(1003,.map true false 1 (Qw (M4 tok tb)))],.c [] [.ptr 500 0,.d (.int e)] [(500,.blk 86 [.mp 501,.mp 502,.mp 503]),(501,.map true false 1 (Qw c2)),(502,.map true false 1 (Xx inn)),(503,.map true false 1 (Qw (M4 tok tb)))] (.d (.int R)) []] ?_ (hr:=by conv=>lhs;simp[Q5,Q7,Tm.row,Tm.Q3,Cs.Q3,htg,hA,q1,q2,q3,q4,q5,q6,q7t]);refine AWp.ret ?_;try dsimp only[Qq,Q6]
    apply Qk.ret
    ·rfl
    ·conv=>lhs;simp[Q9,Tryz.results39]
    ·rfl
    ·simp[Qx,Q4]
   refine AWp.rg [] [] ?_ (hr:=by conv=>lhs;simp[Q5,Q7,Tm.row,Tm.Q3,Cs.Q3,htg,hA,q1,q2,q3,q4,q5,q6,q7]);refine AWp.cy ?_;refine AWp.rg [] [] ?_ (hr:=by conv=>lhs;simp[Q5,Q7,Tm.row,Tm.Q3,Cs.Q3,htg,hA,q1,q2,q3,q4,q5,q6,q7]);refine AWp.ret ?_;rw[if_pos (by rw[ht,hA];exact fun h=>q7 (Option.some.inj h))]at hR;rw[hR];try dsimp only[Qq,Q6]
   apply Qk.ret
   ·rfl
   ·conv=>lhs;simp[Q9,Tryz.results39]
   ·first|rfl|simp
   ·simp[Qx,Q4]
 refine AWp.rg [] [] ?_ (hr:=by conv=>lhs;simp[Q5,Q7,Tm.row,Tm.Q3,Cs.Q3,q1,q2,q3,q4,q5,q6]);refine AWp.cn ?_;by_cases q8:tk=6
 ·refine AWp.rg [] [] ?_ (hr:=by conv=>lhs;simp[Q5,Q7,Tm.row,Tm.Q3,Cs.Q3,q1,q2,q3,q4,q5,q6,q8]);refine AWp.cy ?_;subst q8;have hl:=cs_llet N hN ih tn ta tb tvs txs tcs hsz0 hO0 ⟨ct,inn,tok⟩ hW;rw[←hR]at hl;refine AWp.rg [] [.c [] [.ptr 500 0,.d (.ptr [.int 6,.int tn,.str ta,.str tb,Q8 tvs,.sl (txs.map Tm.row),.sl (tcs.map Cs.row)])] [(500,.blk 86 [.mp 501,.mp 502,.mp 503]),(501,.map true false 1 (Qw ct)),(502,.map true false 1 (Xx inn)),(503,.map true false 1 (Qw tok))] (.d (.int R)) []] ?_ (hr:=by conv=>lhs;simp[Q5,Q7,Tm.row,Tm.Q3,Cs.Q3,q1,q2,q3,q4,q5,q6]);refine AWp.ret ?_;try dsimp only[Qq,Q6]
  apply Qk.ret
  ·rfl
  ·conv=>lhs;simp[Q9,Tryz.results39]
  ·rfl
  ·simp[Qx,Q4]
 refine AWp.rg [] [] ?_ (hr:=by conv=>lhs;simp[Q5,Q7,Tm.row,Tm.Q3,Cs.Q3,q1,q2,q3,q4,q5,q6,q8]);refine AWp.cn ?_;by_cases q9:tk=7
 ·refine AWp.rg [] [] ?_ (hr:=by conv=>lhs;simp[Q5,Q7,Tm.row,Tm.Q3,Cs.Q3,q1,q2,q3,q4,q5,q6,q8,q9]);refine AWp.cy ?_;subst q9;have hl:=cs_lmatch N ih tn ta tb tvs txs tcs hsz0 hO0 ⟨ct,inn,tok⟩ hW;rw[←hR]at hl;refine AWp.rg [] [.c [] [.ptr 500 0,.d (.ptr [.int 7,.int tn,.str ta,.str tb,Q8 tvs,.sl (txs.map Tm.row),.sl (tcs.map Cs.row)])] [(500,.blk 86 [.mp 501,.mp 502,.mp 503]),(501,.map true false 1 (Qw ct)),(502,.map true false 1 (Xx inn)),(503,.map true false 1 (Qw tok))] (.d (.int R)) []] ?_ (hr:=by conv=>lhs;simp[Q5,Q7,Tm.row,Tm.Q3,Cs.Q3,q1,q2,q3,q4,q5,q6,q8]);refine AWp.ret ?_;try dsimp only[Qq,Q6]
  apply Qk.ret
  ·rfl
  ·conv=>lhs;simp[Q9,Tryz.results39]
  ·rfl
  ·simp[Qx,Q4]
 refine AWp.rg [] [] ?_ (hr:=by conv=>lhs;simp[Q5,Q7,Tm.row,Tm.Q3,Cs.Q3,q1,q2,q3,q4,q5,q6,q8,q9]);refine AWp.cn ?_;by_cases q10:tk=8
 ·refine AWp.rg [] [] ?_ (hr:=by conv=>lhs;simp[Q5,Q7,Tm.row,Tm.Q3,Cs.Q3,q1,q2,q3,q4,q5,q6,q8,q9,q10]);refine AWp.cy ?_;refine AWp.skip ?_;refine AWp.cy ?_;subst q10;have hl:=Qx2 N ih 8 tn ta tb tvs txs tcs (by omega) hsz0 hO0 ⟨ct,inn,tok⟩ hW;rw[←hR]at hl;refine AWp.rg [] [.c [] [.ptr 500 0,.d (.ptr [.int 8,.int tn,.str ta,.str tb,Q8 tvs,.sl (txs.map Tm.row),.sl (tcs.map Cs.row)])] [(500,.blk 86 [.mp 501,.mp 502,.mp 503]),(501,.map true false 1 (Qw ct)),(502,.map true false 1 (Xx inn)),(503,.map true false 1 (Qw tok))] (.d (.int R)) []] ?_ (hr:=by conv=>lhs;simp[Q5,Q7,Tm.row,Tm.Q3,Cs.Q3,q1,q2,q3,q4,q5,q6,q8,q9]);refine AWp.ret ?_;try dsimp only[Qq,Q6]
  apply Qk.ret
  ·rfl
  ·conv=>lhs;simp[Q9,Tryz.results39]
  ·rfl
  ·simp[Qx,Q4]
 refine AWp.rg [] [] ?_ (hr:=by conv=>lhs;simp[Q5,Q7,Tm.row,Tm.Q3,Cs.Q3,q1,q2,q3,q4,q5,q6,q8,q9,q10]);refine AWp.cn ?_;by_cases q11:tk=9
 ·refine AWp.rg [] [] ?_ (hr:=by conv=>lhs;simp[Q5,Q7,Tm.row,Tm.Q3,Cs.Q3,q1,q2,q3,q4,q5,q6,q8,q9,q10,q11]);refine AWp.cy ?_;refine AWp.skip ?_;refine AWp.cy ?_;subst q11;have hl:=Qx2 N ih 9 tn ta tb tvs txs tcs (by omega) hsz0 hO0 ⟨ct,inn,tok⟩ hW;rw[←hR]at hl;refine AWp.rg [] [.c [] [.ptr 500 0,.d (.ptr [.int 9,.int tn,.str ta,.str tb,Q8 tvs,.sl (txs.map Tm.row),.sl (tcs.map Cs.row)])] [(500,.blk 86 [.mp 501,.mp 502,.mp 503]),(501,.map true false 1 (Qw ct)),(502,.map true false 1 (Xx inn)),(503,.map true false 1 (Qw tok))] (.d (.int R)) []] ?_ (hr:=by conv=>lhs;simp[Q5,Q7,Tm.row,Tm.Q3,Cs.Q3,q1,q2,q3,q4,q5,q6,q8,q9,q10]);refine AWp.ret ?_;try dsimp only[Qq,Q6]
  apply Qk.ret
  ·rfl
  ·conv=>lhs;simp[Q9,Tryz.results39]
  ·rfl
  ·simp[Qx,Q4]
 refine AWp.rg [] [] ?_ (hr:=by conv=>lhs;simp[Q5,Q7,Tm.row,Tm.Q3,Cs.Q3,q1,q2,q3,q4,q5,q6,q8,q9,q10,q11]);refine AWp.cn ?_;by_cases q12:tk=10
 ·refine AWp.rg [] [] ?_ (hr:=by conv=>lhs;simp[Q5,Q7,Tm.row,Tm.Q3,Cs.Q3,q1,q2,q3,q4,q5,q6,q8,q9,q10,q11,q12]);refine AWp.cy ?_;refine AWp.skip ?_;refine AWp.cy ?_;subst q12;have hl:=Qx2 N ih 10 tn ta tb tvs txs tcs (by omega) hsz0 hO0 ⟨ct,inn,tok⟩ hW;rw[←hR]at hl;refine AWp.rg [] [.c [] [.ptr 500 0,.d (.ptr [.int 10,.int tn,.str ta,.str tb,Q8 tvs,.sl (txs.map Tm.row),.sl (tcs.map Cs.row)])] [(500,.blk 86 [.mp 501,.mp 502,.mp 503]),(501,.map true false 1 (Qw ct)),(502,.map true false 1 (Xx inn)),(503,.map true false 1 (Qw tok))] (.d (.int R)) []] ?_ (hr:=by conv=>lhs;simp[Q5,Q7,Tm.row,Tm.Q3,Cs.Q3,q1,q2,q3,q4,q5,q6,q8,q9,q10,q11]);refine AWp.ret ?_;try dsimp only[Qq,Q6]
  apply Qk.ret
  ·rfl
  ·conv=>lhs;simp[Q9,Tryz.results39]
  ·rfl
  ·simp[Qx,Q4]
 refine AWp.rg [] [] ?_ (hr:=by conv=>lhs;simp[Q5,Q7,Tm.row,Tm.Q3,Cs.Q3,q1,q2,q3,q4,q5,q6,q8,q9,q10,q11,q12]);refine AWp.cn ?_;by_cases q13:tk=11
 ·refine AWp.rg [] [] ?_ (hr:=by conv=>lhs;simp[Q5,Q7,Tm.row,Tm.Q3,Cs.Q3,q1,q2,q3,q4,q5,q6,q8,q9,q10,q11,q12,q13]);refine AWp.cy ?_;refine AWp.skip ?_;refine AWp.cy ?_;subst q13;have hl:=Qx2 N ih 11 tn ta tb tvs txs tcs (by omega) hsz0 hO0 ⟨ct,inn,tok⟩ hW;rw[←hR]at hl;refine AWp.rg [] [.c [] [.ptr 500 0,.d (.ptr [.int 11,.int tn,.str ta,.str tb,Q8 tvs,.sl (txs.map Tm.row),.sl (tcs.map Cs.row)])] [(500,.blk 86 [.mp 501,.mp 502,.mp 503]),(501,.map true false 1 (Qw ct)),(502,.map true false 1 (Xx inn)),(503,.map true false 1 (Qw tok))] (.d (.int R)) []] ?_ (hr:=by conv=>lhs;simp[Q5,Q7,Tm.row,Tm.Q3,Cs.Q3,q1,q2,q3,q4,q5,q6,q8,q9,q10,q11,q12]);refine AWp.ret ?_;try dsimp only[Qq,Q6]
  apply Qk.ret
  ·rfl
  ·conv=>lhs;simp[Q9,Tryz.results39]
  ·rfl
  ·simp[Qx,Q4]
 refine AWp.rg [] [] ?_ (hr:=by conv=>lhs;simp[Q5,Q7,Tm.row,Tm.Q3,Cs.Q3,q1,q2,q3,q4,q5,q6,q8,q9,q10,q11,q12,q13]);refine AWp.cn ?_;by_cases q14:tk=13
 ·refine AWp.rg [] [] ?_ (hr:=by conv=>lhs;simp[Q5,Q7,Tm.row,Tm.Q3,Cs.Q3,q1,q2,q3,q4,q5,q6,q8,q9,q10,q11,q12,q13,q14]);refine AWp.cy ?_;subst q14;have hl:=Qx2 N ih 13 tn ta tb tvs txs tcs (by omega) hsz0 hO0 ⟨ct,inn,tok⟩ hW;rw[←hR]at hl;refine AWp.rg [] [.c [] [.ptr 500 0,.d (.ptr [.int 13,.int tn,.str ta,.str tb,Q8 tvs,.sl (txs.map Tm.row),.sl (tcs.map Cs.row)])] [(500,.blk 86 [.mp 501,.mp 502,.mp 503]),(501,.map true false 1 (Qw ct)),(502,.map true false 1 (Xx inn)),(503,.map true false 1 (Qw tok))] (.d (.int R)) []] ?_ (hr:=by conv=>lhs;simp[Q5,Q7,Tm.row,Tm.Q3,Cs.Q3,q1,q2,q3,q4,q5,q6,q8,q9,q10,q11,q12,q13]);refine AWp.ret ?_;try dsimp only[Qq,Q6]
  apply Qk.ret
  ·rfl
  ·conv=>lhs;simp[Q9,Tryz.results39]
  ·rfl
  ·simp[Qx,Q4]
 refine AWp.rg [] [] ?_ (hr:=by conv=>lhs;simp[Q5,Q7,Tm.row,Tm.Q3,Cs.Q3,q1,q2,q3,q4,q5,q6,q8,q9,q10,q11,q12,q13,q14]);refine AWp.cn ?_;refine AWp.skip ?_;refine AWp.rg [] [] ?_ (hr:=by conv=>lhs;simp[Q5,Q7,Tm.row,Tm.Q3,Cs.Q3,q1,q2,q3,q4,q5,q6,q8,q9,q10,q11,q12,q13,q14]);refine AWp.ret ?_;rw[Tm.lin,if_neg (by omega),if_neg (by omega),if_neg (by omega),if_neg (by omega),if_neg (by omega),if_neg (by omega),if_neg (by omega)]at hR;rw[hR];try dsimp only[Qq,Q6]
 apply Qk.ret
 ·rfl
 ·conv=>lhs;simp[Q9,Tryz.results39]
 ·first|rfl|simp
 ·simp[Qx,Q4]
theorem lin_all:∀N,N≤8000000000→LinN N
 |0,_=>fun t h=>by obtain⟨tk,tn,ta,tb,tvs,txs,tcs⟩:=t;simp only[Tm.sz]at h;omega
 |N+1,h=>lin_step N (by omega) (lin_all N (by omega))
theorem sp_Check7 (f:Fn) (hO:f.body.Ok) (hp:f.params.length≤8796093022208) (hz:f.body.sz≤8000000000) (hw0:f.body.wg≤4611686018427387903):Z4 Tryz.prog 16 [Iw f] (fun _=>.d (.int f.lin)) none:=by
 obtain⟨R,hR⟩:∃R,R=f.lin:=⟨_,rfl⟩
 rw[←hR];obtain⟨fg,fps,⟨fk,fn,fa,fb,fvs,fxs,fcs⟩⟩:=f;dsimp only at hO hp hz hw0;dsimp only[Iw];refine Z4.of Tryz.func16 rfl rfl rfl (Nat.le_of_ble_eq_true rfl) ?_;show AWp _ _ (Z8 _ Tryz.f16 _ _ _) (Z7 40 _);refine AWp.rg [0] [] ?_ (hr:=by conv=>lhs;simp[Q5,Fn.row,Tm.row,Tm.Q3,Cs.Q3]);refine AWp.rg [] [] ?_ (hr:=by conv=>lhs;simp[Q5,Fn.row,Tm.row,Tm.Q3,Cs.Q3]);refine AWp.rg [] [] ?_ (hr:=by conv=>lhs;simp[Q5,Fn.row,Tm.row,Tm.Q3,Cs.Q3]);repeat (first|refine AWp.seq ?_|refine AWp.block ?_)
 refine AWp.loop (σ:=fun u:{u:Nat×List (ByteArray×Int) // u.1≤fps.length∧((fps.take u.1).Nodup∧KN u.2∧∀n,lkA u.2 n=if n∈fps.take u.1 then some 1 else none)}=>⟨40,[(1,.d (.ptr [.str fg,Q8 fps,.int fk,.int fn,.str fa,.str fb,Q8 fvs,.sl (fxs.map Tm.row),.sl (fcs.map Cs.row)])),(3,.ptr 12 0),(14,.d (Q8 fps)),(15,.d (.int (fps.length:Int))),(16,.d (.int (u.1.1:Int)))],[(8,some (.map true false 1 (Qw u.1.2))),(9,some (.map true false 1 ([]))),(10,some (.map true false 1 ([]))),(12,some (.blk 86 [.mp 8,.mp 9,.mp 10]))]⟩)
  (μ:=fun u=>fps.length-u.1.1) ⟨(0,[]),⟨Nat.zero_le _,⟨by simp,KN.nil,fun n=>by simp[lkA]⟩⟩⟩ (Le.sub (by simp[Av]) (by simp[Av])) (fun⟨(i,c),⟨hi3,hw⟩⟩=>?_)
 dsimp only at hi3 hw⊢;refine AWp.rg [] [] ?_ (hr:=by conv=>lhs;simp[Q5,Fn.row,Tm.row,Tm.Q3,Cs.Q3]);repeat (first|refine AWp.seq ?_|refine AWp.block ?_)
 refine AWp.cond rfl (fun hc=>?_) (fun hc=>?_)
 ·have hi1:i<fps.length:=by have:=of_decide_eq_true hc;omega
  clear hc;have h1s:fps[i]? =some fps[i]:=List.getElem?_eq_getElem hi1;have hms:fps[i]∈fps:=List.getElem_mem hi1;have hds:fps.drop i=fps[i]::fps.drop (i+1):=List.drop_eq_getElem_cons hi1;generalize fps[i]=s at h1s hms hds;obtain⟨hn,hkn,hlk⟩:=hw;have htk:fps.take (i+1)=fps.take i++[s]:=by rw[List.take_add_one,h1s];rfl
  refine AWp.skip ?_;refine AWp.rg [] [] ?_ (hr:=by conv=>lhs;simp[Q5,Fn.row,Tm.row,Tm.Q3,Cs.Q3,h1s]);cases hk:lkA c s with
  |none=>
   have hkg:D.Xz (.str s) (Qw c)=none:=by rw[X4,hk];rfl
   refine AWp.rg [] [] ?_ (hr:=by conv=>lhs;simp[Q5,Fn.row,Tm.row,Tm.Q3,Cs.Q3,h1s,hkg]);refine AWp.rg [] [] ?_ (hr:=by conv=>lhs;simp[Q5,Fn.row,Tm.row,Tm.Q3,Cs.Q3,h1s,hkg]);refine AWp.cn ?_;refine AWp.skip ?_;refine AWp.rg [] [] ?_ (hr:=by conv=>lhs;simp[Q5,Fn.row,Tm.row,Tm.Q3,Cs.Q3,h1s,hkg]);refine AWp.rg [] [] ?_ (hr:=by conv=>lhs;simp[Q5,Fn.row,Tm.row,Tm.Q3,Cs.Q3,h1s,hkg]);have hns:s ∉ fps.take i:=fun h=>by have:=hlk s;rw[if_pos h,hk]at this;cases this
   have hn2:(fps.take (i+1)).Nodup:=by
    rw[htk,List.nodup_append];exact⟨hn,by simp,fun a ha b hb e=>hns (by rw[List.mem_singleton.1 hb]at e;rw[←e];exact ha)⟩
   have hlk2:∀n,lkA (Xj c s 1) n=if n∈fps.take (i+1)then some 1 else none:=fun n=>by
    rw[K5,htk,hlk n];by_cases e:s=n
    ·subst e;rw[if_pos rfl,if_pos (by simp)]
    ·rw[if_neg e];by_cases h:n∈fps.take i
     ·rw[if_pos h,if_pos (by simp[h])]
     ·rw[if_neg h,if_neg (by simp[h];exact fun h'=>e h'.symm)]
   refine⟨⟨(i+1,Xj c s 1),hi1,⟨hn2,hkn.put s 1,hlk2⟩⟩,by simp;omega,?_⟩;dsimp only;exact Le.sub (by simp) (by simp)
  |some k=>
   have hkg:D.Xz (.str s) (Qw c)=some [.int k]:=by rw[X4,hk];rfl
   refine AWp.rg [] [] ?_ (hr:=by conv=>lhs;simp[Q5,Fn.row,Tm.row,Tm.Q3,Cs.Q3,h1s,hkg]);refine AWp.rg [] [] ?_ (hr:=by conv=>lhs;simp[Q5,Fn.row,Tm.row,Tm.Q3,Cs.Q3,h1s,hkg]);refine AWp.cy ?_;refine AWp.rg [] [] ?_ (hr:=by conv=>lhs;simp[Q5,Fn.row,Tm.row,Tm.Q3,Cs.Q3,h1s,hkg]);refine AWp.ret ?_;have hR:R=7:=by
    rw[hR];unfold Fn.lin;rw[if_neg];intro h;have h2:(fps.take (i+1)).Nodup:=(List.take_sublist _ _).nodup h;rw[htk,List.nodup_append]at h2;have h3:s∈fps.take i:=Decidable.byContradiction fun h=>by have:=hlk s;rw[if_neg h,hk]at this;cases this
    exact h2.2.2 s h3 s (List.mem_singleton.2 rfl) rfl
   rw[hR];try dsimp only[Qq,Q6]
   apply Z8.ret
   ·rfl
   ·conv=>lhs;simp[Q9,Tryz.results16]
   first|rfl|simp[Z6]
 have hi1:i=fps.length:=by have:=of_decide_eq_false hc;omega
 subst hi1;clear hc;rw[List.take_length]at hw;obtain⟨hn,hkn,hlk⟩:=hw;refine AWp.exit ?_;have hpm:(Qw c).Perm (Qw (fps.map fun p=>(p,(1:Int)))):=ent_perm hkn (lin0_ok (f:=⟨fg,fps,.mk fk fn fa fb fvs fxs fcs⟩) hn).kc fun n=>by rw[hlk n,lin0_lk]
 have hR:R=Tm.lin (.mk fk fn fa fb fvs fxs fcs) ⟨fps.map fun p=>(p,1),[],[]⟩:=by rw[hR];unfold Fn.lin;rw[if_pos hn]
 have hx:=lin_all (Tm.mk fk fn fa fb fvs fxs fcs).sz hz _ (Nat.le_refl _) hO ⟨fps.map fun p=>(p,1),[],[]⟩ ⟨fun n=>by
   unfold LS.c;dsimp only;rw[lin0_lk];split<;> simp<;> omega,by simp;omega,(lin0_ok (f:=⟨fg,fps,.mk fk fn fa fb fvs fxs fcs⟩) hn).kc,KN.nil,KN.nil⟩
 rw[←hR]at hx;repeat (first|refine AWp.seq ?_|refine AWp.block ?_)
 refine AWp.le (Le.low [] [] (fr:=[(1,.d (.ptr [.str fg,Q8 fps,.int fk,.int fn,.str fa,.str fb,Q8 fvs,.sl (fxs.map Tm.row),.sl (fcs.map Cs.row)])),(3,.ptr 12 0)]) (mem:=[(8,some (.map true false 1 (Qw (fps.map fun p=>(p,(1:Int)))))),(9,some (.map true false 1 (Xx []))),(10,some (.map true false 1 (Qw []))),(12,some (.blk 86 [.mp 8,.mp 9,.mp 10]))]) rfl (by simp) (by simp[Av,Xx];exact hpm)) ?_;refine AWp.rg [] [.c [(500,12),(501,8),(502,9),(503,10)] [.ptr 500 0,.agg [.d (.int fk),.d (.int fn),.d (.str fa),.d (.str fb),.d (Q8 fvs),.d (.sl (fxs.map Tm.row)),.d (.sl (fcs.map Cs.row))]] [(500,.blk 86 [.mp 501,.mp 502,.mp 503]),(501,.map true false 1 (Qw (fps.map fun p=>(p,(1:Int))))),(502,.map true false 1 (Xx [])),(503,.map true false 1 (Qw []))] (.d (.int R)) []] ?_ (hr:=by conv=>lhs;simp[Q5,Fn.row,Tm.row,Tm.Q3,Cs.Q3]);refine AWp.ret ?_;try dsimp only[Qq,Q6]
 apply Z8.ret
 ·rfl
 ·conv=>lhs;simp[Q9,Tryz.results16]
 first|rfl|simp[Z6]
end Go.Proofs.YtjpldhjgehoffaaGreatDoor
namespace Go.Proofs.YtjpldhjgehoffaaGreatDoor
open Classical Go.RowKit
set_option linter.unusedVariables false
set_option linter.unusedSimpArgs false
mutual
theorem Tm.sz_wg:∀t:Tm,t.sz≤t.wg
 | .mk k n a b vs xs cs=>by
  have h1:=Tm.szs_wg xs;have h2:=Cs.szs_wg cs;rw[Tm.sz,Tm.wg];omega
theorem Tm.szs_wg:∀l:List Tm,Tm.szs l≤Tm.wgs l
 |[]=>Nat.le_refl _
 |x::r=>by
  have h1:=Tm.sz_wg x;have h2:=Tm.szs_wg r;rw[Tm.szs,Tm.wgs];omega
theorem Cs.szs_wg:∀l:List Cs,Cs.szs l≤Cs.wgs l
 |[]=>Nat.le_refl _
 |x::r=>by
  have h1:=Cs.sz_wg x;have h2:=Cs.szs_wg r;rw[Cs.szs,Cs.wgs];omega
theorem Cs.sz_wg:∀c:Cs,c.sz≤c.wg
 | .mk t ws y=>by
  have h1:=Tm.sz_wg y;rw[Cs.sz,Cs.wg];exact h1
end
theorem cnt_wg {k:Int} (hk:k=8∨k=9):∀(l:List ByteArray) (t:Tm),(cnt k l t).wg=l.length+t.wg
 |[],t=>by rw[cnt];simp
 |a::r,t=>by
  rw[cnt,Tm.wg,if_neg (by omega),Tm.wgs,Tm.wgs,Cs.wgs,cnt_wg hk r t,List.length_cons];omega
theorem rt_wg:∀(d:Nat) (t:Tm),t.Rt d→t.wg=t.sz:=by
 intro d;induction d with
 |zero=>intro t h;exact h.elim
 |succ d ih=>
  intro t h;obtain⟨k,n,a,b,vs,xs,cs⟩:=t;obtain⟨h1,-,-,h2,h3⟩:=h;have hX:∀l:List Tm,(∀x∈l,x∈xs)→Tm.wgs l=Tm.szs l:=by
   intro l;induction l with
   |nil=>intro _;rfl
   |cons x r ih2=>
    intro hm;rw[Tm.wgs,Tm.szs,ih x (h2 x (hm x (by simp))),ih2 fun z hz=>hm z (by simp[hz])]
  have hC:∀l:List Cs,(∀x∈l,x∈cs)→Cs.wgs l=Cs.szs l:=by
   intro l;induction l with
   |nil=>intro _;rfl
   |cons c r ih2=>
    intro hm;have:=(h3 c (hm c (by simp))).2;obtain⟨t,ws,y⟩:=c;rw[Cs.wgs,Cs.szs,Cs.wg,Cs.sz,ih y this,ih2 fun z hz=>hm z (by simp[hz])]
  rw[Tm.wg,Tm.sz,if_neg (by omega),hX xs fun _ h=>h,hC cs fun _ h=>h]
theorem ow_wg (H:Nat):∀(d:Nat) (t:Tm) (has:List ByteArray),t.Rt d→has.length+7 * d≤H→(t.ow has).wg≤t.sz * (2 * H+64):=by
 intro d;induction d with
 |zero=>intro t _ h;exact h.elim
 |succ d ih=>
  intro t has hR hH;obtain⟨k,n,a,b,vs,xs,cs⟩:=t;have hR':=hR;have hself:=rt_wg _ _ hR;obtain⟨hk,-,h6,hx,hc⟩:=hR;obtain⟨K,hK⟩:∃K,K=2 * H+64:=⟨_,rfl⟩
  rw[←hK]at ih⊢;have hz1:(Tm.mk k n a b vs xs cs).sz * 1≤(Tm.mk k n a b vs xs cs).sz * 2:=Nat.mul_le_mul_left _ (by omega);rw[Tm.ow,cnt_wg (.inr rfl)];have hw:=F5 has (Tm.mk k n a b vs xs cs).free;have hI:=Rj has (Tm.mk k n a b vs xs cs).free;generalize woN has (Tm.mk k n a b vs xs cs).free=G at hw⊢;generalize inN has (Tm.mk k n a b vs xs cs).free=O at hI⊢;have hexp:∀z:Nat,(1+z) * K=K+z * K:=fun z=>by rw[Nat.add_mul,Nat.one_mul]
  have hle:∀z:Nat,z≤z * K:=fun z=>Nat.le_mul_of_pos_right z (by omega)
  have htot:(Tm.mk k n a b vs xs cs).sz * K=K+(Tm.szs xs+Cs.szs cs) * K:=by rw[Tm.sz,Nat.add_assoc,hexp]
  have hle2:=hle (Tm.szs xs+Cs.szs cs);have hszv:(Tm.mk k n a b vs xs cs).sz=1+Tm.szs xs+Cs.szs cs:=by rw[Tm.sz]
  split
  ·rw[cnt_wg (.inl rfl),hself,htot,hszv];have h1:=Qz6 xs [];have h2:xs.length≤6:=by omega
   omega
  split
  ·rename_i h6';subst h6';obtain⟨x,y,rfl,rfl,hxR,hyR⟩:=rt_two hR';have hlD:(letD a O [x,y]).length≤O.length:=by
    unfold letD;exact Nat.le_trans (Rj _ _) (Rj _ _)
   rw[cnt_wg (.inl rfl),htot,letH,Tm.owZ,Tm.owZ,Tm.owZ,Tm.wg,if_neg (by omega),Tm.wgs,Tm.wgs,Tm.wgs,Cs.wgs];simp only[List.headD_cons,List.tail_cons];have h1:=ih x (inN O x.free) hxR (by have:=Rj O x.free;omega);have h2:=ih y (inN O (woN y.free [a])++[a]) hyR (by have:=Rj O (woN y.free [a]);simp;omega);have h3:(Tm.szs [x,y]+Cs.szs []) * K=x.sz * K+y.sz * K:=by
    simp only[Tm.szs,Cs.szs,Nat.add_zero];rw[Nat.add_mul]
   rw[h3];omega
  split
  ·rename_i h7;subst h7;have hX:Tm.wgs xs=Tm.szs xs:=by
    have:=hself;have hC:∀l:List Cs,(∀x∈l,x∈cs)→Cs.wgs l=Cs.szs l:=by
     intro l;induction l with
     |nil=>intro _;rfl
     |cons c r ih2=>
      intro hm;have:=(hc c (hm c (by simp))).2;obtain⟨t,ws,y⟩:=c;rw[Cs.wgs,Cs.szs,Cs.wg,Cs.sz,rt_wg d y this,ih2 fun z hz=>hm z (by simp[hz])]
    rw[Tm.wg,Tm.sz,if_neg (by omega),hC cs fun _ h=>h]at this;omega
   have hD:∀l:List Cs,(∀x∈l,x∈cs)→Cs.wgs (Cs.owL l O (nmH xs))≤Cs.szs l * K+7 * l.length:=by
    intro l;induction l with
    |nil=>intro _;simp[Cs.owL,Cs.wgs]
    |cons c r ih2=>
     intro hm;obtain⟨hw6,hcc⟩:=hc c (hm c (by simp));have e1:=ih2 fun z hz=>hm z (by simp[hz])
     obtain⟨t,ws,y⟩:=c;change ws.length≤6 at hw6;have hiw:=Rj ws y.free;have y1:=ih y (if hasB y.free (nmH xs)then O++inN ws y.free else woN (O++inN ws y.free) [nmH xs]) hcc (by
      have h1:(O++inN ws y.free).length≤O.length+6:=by rw[List.length_append];omega
      split
      ·omega
      ·have:=F5 (O++inN ws y.free) [nmH xs];omega)
     have hdl:(if hasB y.free (nmH xs)then ([]:List ByteArray)else[nmH xs]).length≤1:=by split<;> simp
     rw[Cs.owL,Cs.ow,Cs.wgs,Cs.wg,cnt_wg (.inl rfl),cnt_wg (.inr rfl),Cs.szs,Cs.sz,Nat.add_mul,List.length_cons];omega
   have h1:=hD cs fun _ h=>h
   rw[htot,Tm.wg,if_neg (by omega),hX];have h3:(Tm.szs xs+Cs.szs cs) * K=Tm.szs xs * K+Cs.szs cs * K:=Nat.add_mul _ _ _;have h4:=hle (Tm.szs xs);omega
  ·rw[hself,htot,hszv];omega
theorem sr_wg:∀(N:Nat) (t:Tm) (rest:List ByteArray),t.sz≤N→(t.sr rest).2.wg≤t.wg∧(t.sr rest).1.length≤rest.length∧(t.sr rest).2.nc≤t.nc:=by
 intro N;induction N with
 |zero=>intro t _ h;have:=t.sz_1;omega
 |succ N ih=>
  intro t rest hN;obtain⟨k,n,a,b,vs,xs,cs⟩:=t;rw[Tm.sr];split
  ·cases xs with
   |nil=>rw[Tm.srL];exact⟨Nat.le_refl _,F5 _ _,Nat.le_refl _⟩
   |cons x r=>
    rw[Tm.srL];obtain⟨h1,h2,h3⟩:=ih x (woN rest [a]) (by rw[Tm.sz,Tm.szs]at hN;omega);have:=F5 rest [a];rw[Tm.wg,Tm.wgs,Tm.nc,Tm.ncL];omega
  ·exact⟨Nat.le_refl _,Nat.le_refl _,Nat.le_refl _⟩
theorem fuOne_wg {k:Int} {na:Nat} {nm:ByteArray} {ws:List ByteArray} {y:Tm} (hw:ws.length≤6):(Yv k na nm ws y).wg≤y.wg+13∧(Yv k na nm ws y).nc≤y.nc:=by
 unfold Yv;split
 ·rename_i hcond;obtain⟨-,-,-,h9,hnm⟩:=hcond;obtain⟨h1,h2,h3⟩:=sr_wg y.sz y ws (Nat.le_refl _);generalize y.sr ws=Z at *;obtain⟨rest,z⟩:=Z;dsimp only at *;rw[Tm.wg,if_pos (.inl rfl),Tm.wgs,Tm.wgs,Cs.wgs,Tm.nc,Tm.ncL,Tm.ncL,Cs.ncL,cnt_wg (.inr rfl),(Pk (.inr rfl) _ _).2];obtain⟨k,n,a,b,vs,xs,cs⟩:=z;cases xs with
  |nil=>
   have e:(Tm.mk k n a b vs [] cs).a0=Tm.mk k n a b vs [] cs:=rfl;rw[e];omega
  |cons x r=>
   have e:(Tm.mk k n a b vs (x::r) cs).a0=x:=rfl;rw[e];rw[Tm.wg,Tm.wgs]at h1;rw[Tm.nc,Tm.ncL]at h3;omega
 ·omega
theorem fu_wg:∀(N:Nat) (t:Tm),t.sz≤N→t.Du→t.fu.wg≤t.wg+13 * t.nc∧t.fu.nc≤t.nc:=by
 intro N;induction N with
 |zero=>intro t h;have:=t.sz_1;omega
 |succ N ih=>
  intro t hN hD;obtain⟨k,n,a,b,vs,xs,cs⟩:=t;rw[Tm.sz]at hN;have hX:∀l:List Tm,(∀x∈l,x∈xs)→Tm.wgs (Tm.fuL l)≤Tm.wgs l+13 * Tm.ncL l∧Tm.ncL (Tm.fuL l)≤Tm.ncL l:=by
   intro l;induction l with
   |nil=>intro _;exact⟨Nat.le_refl _,Nat.le_refl _⟩
   |cons x r ih2=>
    intro hm;have hx:=hm x (by simp);have h1:=ih x (by have:=Tm.X0 hx;omega) (Tm.Cj.1 hD.2.1 x hx);have h2:=ih2 fun z hz=>hm z (by simp[hz])
    rw[Tm.fuL,Tm.wgs,Tm.wgs,Tm.ncL,Tm.ncL];omega
  have hC:∀l:List Cs,(∀x∈l,x∈cs)→Cs.wgs (Cs.fuL k xs.length (nmH xs) l)≤Cs.wgs l+13 * Cs.ncL l∧Cs.ncL (Cs.fuL k xs.length (nmH xs) l)≤Cs.ncL l:=by
   intro l;induction l with
   |nil=>intro _;exact⟨Nat.le_refl _,Nat.le_refl _⟩
   |cons c r ih2=>
    intro hm;have hc:=hm c (by simp);have h2:=ih2 fun z hz=>hm z (by simp[hz])
    obtain⟨t,ws,y⟩:=c;have hs:(Cs.mk t ws y).sz≤Cs.szs cs:=Cs.X0 hc;rw[Cs.sz]at hs;obtain⟨hw,hy⟩:=Cs.Cj.1 hD.2.2 _ hc;have h1:=ih y (by omega) hy;have h3:=fuOne_wg (k:=k) (na:=xs.length) (nm:=nmH xs) (ws:=ws) (y:=y.fu) hw;rw[Cs.fuL,Cs.wgs,Cs.wgs,Cs.ncL,Cs.ncL,Cs.fu,Cs.wg,Cs.wg,Cs.nc,Cs.nc];omega
  have h1:=hX xs fun _ h=>h
  have h2:=hC cs fun _ h=>h
  rw[Tm.fu,Tm.wg,Tm.wg,Tm.nc,Tm.nc];omega
structure Atl (f:Fn):Prop where
 ok:f.body.Ok
 par:f.params.length≤6
 wg:f.body.wg≤10000000
 lin:f.lin=0
 nd:f.params.Nodup
theorem mk_wg1 {l:List Fn} (hl:M9 l) (hc:Kz l=0):(∀f∈mk0 l,f.body.wg≤4000000)∧(∀f∈mk1 l,f.body.wg≤5000000∧f.body.nc≤1200∧f.body.nt≤1200):=by
 have h0:∀f∈mk0 l,f.body.wg≤4000000∧f.body.nc≤1200∧f.body.nt=0:=fun f hf=>by
  unfold mk0 at hf;obtain⟨g,hg,rfl⟩:=List.mem_map.1 hf;have hPt:=Cv hl hc g hg;obtain⟨x,hx,rfl⟩:=List.mem_map.1 hg;have hR:=(Qv1 hc).2.2.2 x hx;have hr:=(P9 hl hc x hx).2.1;obtain⟨-,hrt,-⟩:=pl_body hl hc x.pl hg;have hz:=hR.sz;have h1:=Tm.rn_sz x.body;have hsz:x.pl.body.sz≤1200:=by
   have e1:x.rn.body.sz≤400:=(hR.rn hr).sz;have e2:=Tm.pl_sz x.rn.body 0;show(x.rn.body.pl 0).1.sz≤1200;omega
  have h2:=ow_wg 1231 175 x.pl.body x.pl.params hrt (by have:=hPt.par;omega);obtain⟨-,e1,e2⟩:=rt_nt 175 x.pl.body x.pl.params hrt;have hnc:=x.pl.body.nc_sz;refine⟨?_,?_,e1⟩
  ·show(x.pl.body.ow x.pl.params).wg≤_;have:x.pl.body.sz * (2 * 1231+64)≤1200 * (2 * 1231+64):=Nat.mul_le_mul_right _ hsz;omega
  ·show(x.pl.body.ow x.pl.params).nc≤_;rw[e2];omega
 have h1:∀f∈mk1 l,f.body.wg≤5000000∧f.body.nc≤1200∧f.body.nt≤1200:=fun f hf=>by
  unfold mk1 at hf;obtain⟨g,hg,rfl⟩:=List.mem_map.1 hf;obtain⟨k1,k2,k3⟩:=h0 g hg;obtain⟨k4,k5⟩:=fu_wg g.body.sz g.body (Nat.le_refl _) (mk0_fits hl hc g hg).2.1;have k6:=fu_nt g.body.sz g.body (Nat.le_refl _) (lv0 hl hc g hg).1.shp.s1;exact⟨by show g.body.fu.wg≤_;omega,by show g.body.fu.nc≤_;omega,by show g.body.fu.nt≤_;omega⟩
 exact⟨fun f hf=>(h0 f hf).1,h1⟩
theorem mk_at1 {l:List Fn} (hl:M9 l) (hc:Kz l=0):∀f∈mk1 l,Atl f:=fun f hf=>by
 obtain⟨k1,-,k3⟩:=mk1_fits hl hc f hf;have h:=lv1 hl hc f hf;exact⟨k1,k3,by have:=((mk_wg1 hl hc).2 f hf).1;omega,h.lin,h.nd⟩
end Go.Proofs.YtjpldhjgehoffaaGreatDoor
namespace Go.Proofs.YtjpldhjgehoffaaGreatDoor
open Go.RowKit
attribute [local simp] Iz mkRc ldOf stOf stOk Nw Mv Rw Kj V9 Yj Yw J3 Y8 Bz evA Vj Dz Value.oneCell' Zj Q4 Z7 Qx1 U6 Z5 AS.after Zq Kq J8 AV.ids Mj Qz.ids frNo Nv G6 Wj H6 Y1 Y3 Vx U1 U0 Yz toD1 Sw setAt U9 Ij Dj L8 Gz L9 binI AV.cells J4 Jq Gq Wq AV.kill Qz.kill AV.has AV.K6 Op.operands Call.operands Dq Dw Zw Qv2 Zx Xq E8 moQ Mk R4 Yk AV.ren E5 Qz.ren Qz.like kept Zz Mw AV.frz Pz Ik Ak F8 Uk AS.frz Tw Rq Qz.frz Hq Hz bleF Nat.ble_eq G9 G7 Yq D.Y5 N7 R8 Vv Vw phO Ew Dk Gx Uj Kv Low Ex
set_option linter.unusedVariables false
set_option linter.unusedSimpArgs false
theorem mk0_keep {l:List Fn} (hl:M9 l) (hc:Kz l=0):∀g∈mk0 l,g.body.Ok∧g.body.er.Ok∧(∃d,g.body.er.Rt d)∧g.fu.body.er=g.body.er:=fun g hg=>by
 have hg0:=hg;unfold mk0 at hg0;obtain⟨u,hu,rfl⟩:=List.mem_map.1 hg0;obtain⟨x,hx,rfl⟩:=List.mem_map.1 hu;have hr:=(P9 hl hc x hx).2.1;have e:=Fn.ow_er x hr;exact⟨(mk0_fits hl hc _ hg).1,by rw[e];exact(Cv hl hc _ hu).fit.ok,⟨7 * 25,by rw[e];exact pl_rt 25 _ 0 (x.O6 hr)⟩,mk1_er hl hc _ hg⟩
theorem sp_FuseKeeps (l:List Fn) (hl:M9 l):Z4 Tryz.prog 7 [L6 l] (fun _=>.d (.bool true)) none:=by
 have hal:=sp_aliveF;have hkl:=sp_refCheck l hl;obtain⟨cl,hcl⟩:∃c,c=Kz l:=⟨_,rfl⟩
 rw[←hcl]at hkl;refine Z4.of Tryz.func7 rfl rfl rfl (Nat.le_of_ble_eq_true rfl) ?_;show AWp _ _ (Z8 _ Tryz.f7 _ _ _) (Z7 45 _);refine AWp.rg [] [] ?_ (hr:=by conv=>lhs;simp[Fn.row,Tm.row,Tm.Q3,Cs.Q3]);refine AWp.rg [] [.p (fun _=>.d (.bool true)) none] ?_ (hr:=by conv=>lhs;simp[Fn.row,Tm.row,Tm.Q3,Cs.Q3]);refine AWp.cn ?_;refine AWp.skip ?_;by_cases q1:cl=0
 ·have q1t:=eq_true q1;refine AWp.rg [] [.p (fun _=>.d (.int cl)) none] ?_ (hr:=by conv=>lhs;simp[Fn.row,Tm.row,Tm.Q3,Cs.Q3,q1t]);refine AWp.cn ?_;refine AWp.skip ?_;have hc0:Kz l=0:=hcl.symm.trans q1;have hM0:=sp_Made0 l hl hc0;have hft:=mk0_fits hl hc0;have hll:=hl.len;have hm0:(mk0 l).length≤879609302220:=by unfold mk0;rw[List.length_map,List.length_map];exact hl.len
  have hA:=sp_FuAll (mk0 l) hm0 hft;have hfM:(mk0 l).map Fn.fu=mk1 l:=rfl;rw[hfM]at hA;have hAt:=mk_at1 hl hc0;have hK:=mk0_keep hl hc0;clear hft;generalize mk1 l=M at hA hfM hAt;generalize mk0 l=L2 at hM0 hA hm0 hfM hK;have hML:L2.length=M.length:=by rw[←hfM,List.length_map]
  refine AWp.rg [] [.p (fun _=>.d (.sl (L2.map Fn.row))) none] ?_ (hr:=by conv=>lhs;simp[Fn.row,Tm.row,Tm.Q3,Cs.Q3,q1t]);refine AWp.rg [] [.p (fun _=>.d (.sl (M.map Fn.row))) none] ?_ (hr:=by conv=>lhs;simp[Fn.row,Tm.row,Tm.Q3,Cs.Q3,q1t]);by_cases q2:(M.length:Int)=(L2.length:Int)
  ·have q2t:=eq_true q2;refine AWp.rg [] [] ?_ (hr:=by conv=>lhs;simp[Fn.row,Tm.row,Tm.Q3,Cs.Q3,q1t,q2t]);refine AWp.cn ?_;refine AWp.skip ?_;refine AWp.rg [] [] ?_ (hr:=by conv=>lhs;simp[Fn.row,Tm.row,Tm.Q3,Cs.Q3,q1t,q2t]);repeat (first|refine AWp.seq ?_|refine AWp.block ?_)
   refine AWp.loop (σ:=fun u:{u:Nat // u≤M.length}=>⟨45,[(3,.d (.sl (L2.map Fn.row))),(21,.d (.sl (M.map Fn.row))),(22,.d (.int (M.length:Int))),(23,.d (.int (u.1:Int)))],[]⟩)
    (μ:=fun u=>M.length-u.1) ⟨0,Nat.zero_le _⟩ (Le.sub (by simp) (by simp)) (fun⟨i,hi10⟩=>?_)
   dsimp only;refine AWp.rg [] [] ?_ (hr:=by conv=>lhs;simp[Fn.row,Tm.row,Tm.Q3,Cs.Q3,q1t,q2t]);repeat (first|refine AWp.seq ?_|refine AWp.block ?_)
   refine AWp.cond rfl (fun hc=>?_) (fun hc=>?_)
   ·have hi1:i<M.length:=by have:=of_decide_eq_true hc;omega
    clear hc;have h1f:M[i]? =some M[i]:=List.getElem?_eq_getElem hi1;have hmf:M[i]∈M:=List.getElem_mem hi1;have hdf:M.drop i=M[i]::M.drop (i+1):=List.drop_eq_getElem_cons hi1;generalize M[i]=f at h1f hmf hdf;have ha:=hAt f hmf;have hch:=sp_Check7 f ha.ok (by have:=ha.par;omega) (by have:=ha.wg;have:=f.body.sz_wg;omega) (by have:=ha.wg;omega);rw[ha.lin]at hch;obtain⟨g,hgi,hgf⟩:∃g,L2[i]? =some g∧g.fu=f:=by
     rw[←hfM,List.getElem?_map]at h1f;exact Option.map_eq_some_iff.1 h1f
    obtain⟨k1,k2,⟨d,k3⟩,k4⟩:=hK g (List.mem_of_getElem? hgi);have hi2:i<L2.length:=by omega
    rw[hgf]at k4;have hx1:=sp_Erased f.body ha.ok (d:=d) (by rw[k4];exact k3);have hx2:=sp_Erased g.body k1 k3;rw[k4]at hx1;have hsm:=sp_refSame g.body.er g.body.er k2;rw[S9]at hsm;clear ha hgf k1 k2 k3 k4;generalize g.body.er=z at hx1 hx2 hsm;obtain⟨zk,zn,za,zb,zvs,zxs,zcs⟩:=z;obtain⟨fg,fps,⟨fk,fn,fa,fb,fvs,fxs,fcs⟩⟩:=f;obtain⟨gg,gps,⟨gk,gn,ga,gb,gvs,gxs,gcs⟩⟩:=g;dsimp only[Iw]at hch;dsimp only at hx1 hx2;refine AWp.skip ?_;refine AWp.rg [] [] ?_ (hr:=by conv=>lhs;simp[Fn.row,Tm.row,Tm.Q3,Cs.Q3,h1f,hgi,q1t,q2t]);refine AWp.dw [] [.p (fun _=>.d (.int 0)) none,.p (fun _=>.agg [.d (.int zk),.d (.int zn),.d (.str za),.d (.str zb),.d (Q8 zvs),.d (.sl (zxs.map Tm.row)),.d (.sl (zcs.map Cs.row))]) none,.p (fun _=>.agg [.d (.int zk),.d (.int zn),.d (.str za),.d (.str zb),.d (Q8 zvs),.d (.sl (zxs.map Tm.row)),.d (.sl (zcs.map Cs.row))]) none,.p (fun _=>.d (.bool true)) none] mixed ?_ (hr:=by conv=>lhs;simp[Fn.row,Tm.row,Tm.Q3,Cs.Q3,h1f,hgi,q1t,q2t]);refine AWp.cn ?_;refine AWp.skip ?_;refine AWp.rg [] [] ?_ (hr:=by conv=>lhs;simp[Fn.row,Tm.row,Tm.Q3,Cs.Q3,h1f,hgi,q1t,q2t]);refine⟨⟨i+1,hi1⟩,by simp;omega,?_⟩;dsimp only;exact Le.sub (by simp) (by simp)
   have hi1:i=M.length:=by have:=of_decide_eq_false hc;omega
   subst hi1;clear hc;refine AWp.exit ?_;refine AWp.rg [] [] ?_ (hr:=by conv=>lhs;simp[Fn.row,Tm.row,Tm.Q3,Cs.Q3,q1t,q2t]);refine AWp.ret ?_;try dsimp only[Qq,Q6]
   apply Z8.ret
   ·rfl
   ·conv=>lhs;simp[Q9,Tryz.results7]
   first|rfl|simp[Z6]
  exfalso;omega
 refine AWp.rg [] [.p (fun _=>.d (.int cl)) none] ?_ (hr:=by conv=>lhs;simp[Fn.row,Tm.row,Tm.Q3,Cs.Q3,q1]);refine AWp.cy ?_;refine AWp.rg [] [] ?_ (hr:=by conv=>lhs;simp[Fn.row,Tm.row,Tm.Q3,Cs.Q3,q1]);refine AWp.ret ?_;try dsimp only[Qq,Q6]
 apply Z8.ret
 ·rfl
 ·conv=>lhs;simp[Q9,Tryz.results7]
 first|rfl|simp[Z6]
end Go.Proofs.YtjpldhjgehoffaaGreatDoor
