import Derived.Test.YtjpldhjgehoffaaDoorReuE
import Derived.Test.YtjpldhjgehoffaaDoorLineI
import Derived.Test.YtjpldhjgehoffaaDoorReuV
import Derived.Test.YtjpldhjgehoffaaDoorCheckD
import Derived.Test.YtjpldhjgehoffaaDoorPlainW
namespace Go.Proofs.YtjpldhjgehoffaaDoor
open Classical Go.RowKit
attribute [local simp] Cq mkRc ldOf stOf Qz4 Fq M4 Rq K7 V3 Yv K4 J7 Y9 L9 evA Kv G8 Value.oneCell' Zj Q4 Z7 Iz Vz Z0 AS.after Z8 K8 Jv AV.ids Mq Qz.ids Qj3 F9 Wv U9 G6 Y0 Y5 Kk V9 V7 Yz Ov T9 setAt Vj Cj Gq Pj R9 Pk binI AV.cells J9 Jz R8 U1 AV.kill Qz.kill AV.has AV.K9 Op.operands Call.operands Gj Hw Zv Oz Zz Xz Tk moQ M6 Uz Yw AV.ren Tj Qz.ren Qz.like kept X8 M5 AV.frz Pz Cw Ex H9 F3 AS.frz Mv Uw Qz.frz Rx Rj bleF Nat.ble_eq R4 Ww K3 D.Yx F5 Uv Vx Vq phO Px Gz Wx U0 K6 Low Sq
set_option linter.unusedVariables false
set_option linter.unusedSimpArgs false
theorem LS.Oj (inn : List (ByteArray×ByteArray)) (tk : List (ByteArray×Int)) : ∀ (xs : List Tm) (c : List (ByteArray×Int)),∃ e c2,LS.Vv ⟨c,inn,tk⟩ xs = (e,⟨c2,inn,tk⟩)
 | [],c=>⟨_,_,rfl⟩
 | x :: r,c=>by
  rw [LS.Vv]
  split
  ·exact ⟨_,_,rfl⟩
  ·split
   ·exact LS.Pv c inn tk x.nm
   ·obtain ⟨e,c2,h⟩:=LS.Pv c inn tk x.nm
    rw [h]
    exact LS.Oj inn tk r c2
set_option maxRecDepth 20000 in
set_option maxHeartbeats 16000000 in
theorem lin_step (N : Nat) (hN : N≤8000000000) (ih : LinN N) : LinN (N + 1):=by
 intro t hsz hO s hW
 obtain ⟨ct,inn,tok⟩:=s
 obtain ⟨R,hR⟩ : ∃ R,R = t.lin ⟨ct,inn,tok⟩:=⟨_,rfl⟩
 rw [← hR]
 obtain ⟨tk,tn,ta,tb,tvs,txs,tcs⟩:=t
 have hsz0:=hsz
 have hO0:=hO
 obtain ⟨o1,o2,o3,o4,o5⟩:=hO.vars
 obtain ⟨A,hA⟩ : ∃ A : Int,(txs.length : Int) = A:=⟨_,rfl⟩
 refine X3.of Tryd.func56 rfl rfl (Nat.le_of_ble_eq_true rfl) ?_
 show AWp _ _ (Qv _ Tryd.f56 _ _) (X8 80 _ _)
 refine AWp.rg [0] [] ?_ (hr:=by conv=>lhs;simp [Q5,Q6,Tm.row,Tm.Q3,Cs.Q3])
 refine AWp.rg [] [] ?_ (hr:=by conv=>lhs;simp [Q5,Q6,Tm.row,Tm.Q3,Cs.Q3])
 by_cases q1 : tk = 1
 ·refine AWp.rg [] [] ?_ (hr:=by conv=>lhs;simp [Q5,Q6,Tm.row,Tm.Q3,Cs.Q3,q1])
  refine AWp.cy ?_
  rw [Tm.lin,if_pos (by omega)] at hR
  have hu:=cs_luse ⟨ct,inn,tok⟩ ta hW.big
  obtain ⟨e,c2,hue⟩:=LS.Pv ct inn tok ta
  rw [hue] at hu hR
  dsimp only at hu hR
  have hen:=cs_lend ⟨c2,inn,tok⟩ e hW.tlen
  rw [← hR] at hen
  refine AWp.rg [] [.c [(1000,500),(1001,501),(1002,502),(1003,503)] [.ptr 1000 0,.d (.str ta)] [(1000,.blk 109 [.mp 1001,.mp 1002,.mp 1003]),(1001,.map true false 1 (Qk ct)),(1002,.map true false 1 (J4 inn)),(1003,.map true false 1 (Qk tok))] (.d (.int e)) [(1000,.blk 109 [.mp 1001,.mp 1002,.mp 1003]),(1001,.map true false 1 (Qk c2)),(1002,.map true false 1 (J4 inn)),(1003,.map true false 1 (Qk tok))],.c [] [.ptr 500 0,.d (.int e)] [(500,.blk 109 [.mp 501,.mp 502,.mp 503]),(501,.map true false 1 (Qk c2)),(502,.map true false 1 (J4 inn)),(503,.map true false 1 (Qk tok))] (.d (.int R)) []] ?_ (hr:=by conv=>lhs;simp [Q5,Q6,Tm.row,Tm.Q3,Cs.Q3,q1])
  refine AWp.ret ?_
  try dsimp only [Qq,Q8]
  apply Qv.ret
  ·rfl
  ·conv=>lhs;simp [Q9,Tryd.results56]
  ·rfl
  ·simp [Qj,Q4]
 refine AWp.rg [] [] ?_ (hr:=by conv=>lhs;simp [Q5,Q6,Tm.row,Tm.Q3,Cs.Q3,q1])
 refine AWp.cn ?_
 by_cases q2 : tk = 2
 ·refine AWp.rg [] [] ?_ (hr:=by conv=>lhs;simp [Q5,Q6,Tm.row,Tm.Q3,Cs.Q3,q1,q2])
  refine AWp.cy ?_
  rw [Tm.lin,if_neg (by omega),if_pos (by omega)] at hR
  have hen:=cs_lend ⟨ct,inn,tok⟩ 0 hW.tlen
  rw [← hR] at hen
  refine AWp.rg [] [.c [] [.ptr 500 0,.d (.int 0)] [(500,.blk 109 [.mp 501,.mp 502,.mp 503]),(501,.map true false 1 (Qk ct)),(502,.map true false 1 (J4 inn)),(503,.map true false 1 (Qk tok))] (.d (.int R)) []] ?_ (hr:=by conv=>lhs;simp [Q5,Q6,Tm.row,Tm.Q3,Cs.Q3,q1,q2])
  refine AWp.ret ?_
  try dsimp only [Qq,Q8]
  apply Qv.ret
  ·rfl
  ·conv=>lhs;simp [Q9,Tryd.results56]
  ·rfl
  ·simp [Qj,Q4]
 refine AWp.rg [] [] ?_ (hr:=by conv=>lhs;simp [Q5,Q6,Tm.row,Tm.Q3,Cs.Q3,q1,q2])
 refine AWp.cn ?_
 by_cases q3 : tk = 3
 ·refine AWp.rg [] [] ?_ (hr:=by conv=>lhs;simp [Q5,Q6,Tm.row,Tm.Q3,Cs.Q3,q1,q2,q3])
  refine AWp.cy ?_
  refine AWp.skip ?_
  refine AWp.cy ?_
  rw [Tm.lin,if_neg (by omega),if_neg (by omega),if_pos (by omega)] at hR
  have hu:=cs_lall ⟨ct,inn,tok⟩ txs (by omega) hW.big
  obtain ⟨e,c2,hue⟩:=LS.Oj inn tok txs ct
  rw [hue] at hu hR
  dsimp only at hu hR
  have hen:=cs_lend ⟨c2,inn,tok⟩ e hW.tlen
  rw [← hR] at hen
  refine AWp.rg [] [.c [(1000,500),(1001,501),(1002,502),(1003,503)] [.ptr 1000 0,.d (.sl (txs.map Tm.row))] [(1000,.blk 109 [.mp 1001,.mp 1002,.mp 1003]),(1001,.map true false 1 (Qk ct)),(1002,.map true false 1 (J4 inn)),(1003,.map true false 1 (Qk tok))] (.d (.int e)) [(1000,.blk 109 [.mp 1001,.mp 1002,.mp 1003]),(1001,.map true false 1 (Qk c2)),(1002,.map true false 1 (J4 inn)),(1003,.map true false 1 (Qk tok))],.c [] [.ptr 500 0,.d (.int e)] [(500,.blk 109 [.mp 501,.mp 502,.mp 503]),(501,.map true false 1 (Qk c2)),(502,.map true false 1 (J4 inn)),(503,.map true false 1 (Qk tok))] (.d (.int R)) []] ?_ (hr:=by conv=>lhs;simp [Q5,Q6,Tm.row,Tm.Q3,Cs.Q3,q1,q2,q3])
  refine AWp.ret ?_
  try dsimp only [Qq,Q8]
  apply Qv.ret
  ·rfl
  ·conv=>lhs;simp [Q9,Tryd.results56]
  ·rfl
  ·simp [Qj,Q4]
 refine AWp.rg [] [] ?_ (hr:=by conv=>lhs;simp [Q5,Q6,Tm.row,Tm.Q3,Cs.Q3,q1,q2,q3])
 refine AWp.cn ?_
 by_cases q4 : tk = 4
 ·refine AWp.rg [] [] ?_ (hr:=by conv=>lhs;simp [Q5,Q6,Tm.row,Tm.Q3,Cs.Q3,q1,q2,q3,q4])
  refine AWp.cy ?_
  refine AWp.skip ?_
  refine AWp.cy ?_
  rw [Tm.lin,if_neg (by omega),if_neg (by omega),if_pos (by omega)] at hR
  have hu:=cs_lall ⟨ct,inn,tok⟩ txs (by omega) hW.big
  obtain ⟨e,c2,hue⟩:=LS.Oj inn tok txs ct
  rw [hue] at hu hR
  dsimp only at hu hR
  have hen:=cs_lend ⟨c2,inn,tok⟩ e hW.tlen
  rw [← hR] at hen
  refine AWp.rg [] [.c [(1000,500),(1001,501),(1002,502),(1003,503)] [.ptr 1000 0,.d (.sl (txs.map Tm.row))] [(1000,.blk 109 [.mp 1001,.mp 1002,.mp 1003]),(1001,.map true false 1 (Qk ct)),(1002,.map true false 1 (J4 inn)),(1003,.map true false 1 (Qk tok))] (.d (.int e)) [(1000,.blk 109 [.mp 1001,.mp 1002,.mp 1003]),(1001,.map true false 1 (Qk c2)),(1002,.map true false 1 (J4 inn)),(1003,.map true false 1 (Qk tok))],.c [] [.ptr 500 0,.d (.int e)] [(500,.blk 109 [.mp 501,.mp 502,.mp 503]),(501,.map true false 1 (Qk c2)),(502,.map true false 1 (J4 inn)),(503,.map true false 1 (Qk tok))] (.d (.int R)) []] ?_ (hr:=by conv=>lhs;simp [Q5,Q6,Tm.row,Tm.Q3,Cs.Q3,q1,q2,q3,q4])
  refine AWp.ret ?_
  try dsimp only [Qq,Q8]
  apply Qv.ret
  ·rfl
  ·conv=>lhs;simp [Q9,Tryd.results56]
  ·rfl
  ·simp [Qj,Q4]
 refine AWp.rg [] [] ?_ (hr:=by conv=>lhs;simp [Q5,Q6,Tm.row,Tm.Q3,Cs.Q3,q1,q2,q3,q4])
 refine AWp.cn ?_
 by_cases q5 : tk = 5
 ·refine AWp.rg [] [] ?_ (hr:=by conv=>lhs;simp [Q5,Q6,Tm.row,Tm.Q3,Cs.Q3,q1,q2,q3,q4,q5])
  refine AWp.cy ?_
  rw [Tm.lin,if_neg (by omega),if_neg (by omega),if_pos (by omega)] at hR
  have hu:=cs_lall ⟨ct,inn,tok⟩ txs (by omega) hW.big
  obtain ⟨e,c2,hue⟩:=LS.Oj inn tok txs ct
  rw [hue] at hu hR
  dsimp only at hu hR
  have hen:=cs_lend ⟨c2,inn,tok⟩ e hW.tlen
  rw [← hR] at hen
  refine AWp.rg [] [.c [(1000,500),(1001,501),(1002,502),(1003,503)] [.ptr 1000 0,.d (.sl (txs.map Tm.row))] [(1000,.blk 109 [.mp 1001,.mp 1002,.mp 1003]),(1001,.map true false 1 (Qk ct)),(1002,.map true false 1 (J4 inn)),(1003,.map true false 1 (Qk tok))] (.d (.int e)) [(1000,.blk 109 [.mp 1001,.mp 1002,.mp 1003]),(1001,.map true false 1 (Qk c2)),(1002,.map true false 1 (J4 inn)),(1003,.map true false 1 (Qk tok))],.c [] [.ptr 500 0,.d (.int e)] [(500,.blk 109 [.mp 501,.mp 502,.mp 503]),(501,.map true false 1 (Qk c2)),(502,.map true false 1 (J4 inn)),(503,.map true false 1 (Qk tok))] (.d (.int R)) []] ?_ (hr:=by conv=>lhs;simp [Q5,Q6,Tm.row,Tm.Q3,Cs.Q3,q1,q2,q3,q4,q5])
  refine AWp.ret ?_
  try dsimp only [Qq,Q8]
  apply Qv.ret
  ·rfl
  ·conv=>lhs;simp [Q9,Tryd.results56]
  ·rfl
  ·simp [Qj,Q4]
 refine AWp.rg [] [] ?_ (hr:=by conv=>lhs;simp [Q5,Q6,Tm.row,Tm.Q3,Cs.Q3,q1,q2,q3,q4,q5])
 refine AWp.cn ?_
 by_cases q6 : tk = 12
 ·refine AWp.rg [] [] ?_ (hr:=by conv=>lhs;simp [Q5,Q6,Tm.row,Tm.Q3,Cs.Q3,q1,q2,q3,q4,q5,q6])
  refine AWp.cy ?_
  rw [Tm.lin,if_neg (by omega),if_neg (by omega),if_neg (by omega),if_pos (by omega)] at hR
  dsimp only at hR
  cases ht : lkA tok tb with
  | none =>
   have htg : D.Xk (.str tb) (Qk tok) = none:=by rw [X4,ht];rfl
   refine AWp.dw [] [] mixed ?_ (hr:=by conv=>lhs;simp [Q5,Q6,Tm.row,Tm.Q3,Cs.Q3,htg,q1,q2,q3,q4,q5,q6])
   refine AWp.rg [] [] ?_ (hr:=by conv=>lhs;simp [Q5,Q6,Tm.row,Tm.Q3,Cs.Q3,htg,hA,q1,q2,q3,q4,q5,q6])
   refine AWp.cy ?_
   refine AWp.rg [] [] ?_ (hr:=by conv=>lhs;simp [Q5,Q6,Tm.row,Tm.Q3,Cs.Q3,htg,hA,q1,q2,q3,q4,q5,q6])
   refine AWp.ret ?_
   rw [if_pos (by rw [ht];simp)] at hR
   rw [hR]
   try dsimp only [Qq,Q8]
   apply Qv.ret
   ·rfl
   ·conv=>lhs;simp [Q9,Tryd.results56]
   ·first | rfl | simp
   ·simp [Qj,Q4]
  | some k =>
   have htg : D.Xk (.str tb) (Qk tok) = some [.int k]:=by rw [X4,ht];rfl
   refine AWp.dw [] [] mixed ?_ (hr:=by conv=>lhs;simp [Q5,Q6,Tm.row,Tm.Q3,Cs.Q3,htg,q1,q2,q3,q4,q5,q6])
   by_cases q7 : k = A
   ·have q7t:=eq_true q7
    refine AWp.rg [] [] ?_ (hr:=by conv=>lhs;simp [Q5,Q6,Tm.row,Tm.Q3,Cs.Q3,htg,hA,q1,q2,q3,q4,q5,q6,q7t])
    refine AWp.cn ?_
    refine AWp.skip ?_
    rw [if_neg (fun h=>h (by rw [ht,hA,q7]))] at hR
    refine AWp.dw [] [] mixed ?_ (hr:=by conv=>lhs;simp [Q5,Q6,Tm.row,Tm.Q3,Cs.Q3,htg,hA,q1,q2,q3,q4,q5,q6,q7t])
    have hu:=cs_lall ⟨ct,inn,Wz tok tb⟩ txs (by omega) (hW.tdel tb).big
    obtain ⟨e,c2,hue⟩:=LS.Oj inn (Wz tok tb) txs ct
    rw [hue] at hu hR
    dsimp only at hu hR
    have hen:=cs_lend ⟨c2,inn,(Wz tok tb)⟩ e (hW.tdel tb).tlen
    rw [← hR] at hen
    refine AWp.rg [] [.c [(1000,500),(1001,501),(1002,502),(1003,503)] [.ptr 1000 0,.d (.sl (txs.map Tm.row))] [(1000,.blk 109 [.mp 1001,.mp 1002,.mp 1003]),(1001,.map true false 1 (Qk ct)),(1002,.map true false 1 (J4 inn)),(1003,.map true false 1 (Qk (Wz tok tb)))] (.d (.int e)) [(1000,.blk 109 [.mp 1001,.mp 1002,.mp 1003]),(1001,.map true false 1 (Qk c2)),(1002,.map true false 1 (J4 inn)),(1003,.map true false 1 (Qk (Wz tok tb)))],.c [] [.ptr 500 0,.d (.int e)] [(500,.blk 109 [.mp 501,.mp 502,.mp 503]),(501,.map true false 1 (Qk c2)),(502,.map true false 1 (J4 inn)),(503,.map true false 1 (Qk (Wz tok tb)))] (.d (.int R)) []] ?_ (hr:=by conv=>lhs;simp [Q5,Q6,Tm.row,Tm.Q3,Cs.Q3,htg,hA,q1,q2,q3,q4,q5,q6,q7t])
    refine AWp.ret ?_
    try dsimp only [Qq,Q8]
    apply Qv.ret
    ·rfl
    ·conv=>lhs;simp [Q9,Tryd.results56]
    ·rfl
    ·simp [Qj,Q4]
   refine AWp.rg [] [] ?_ (hr:=by conv=>lhs;simp [Q5,Q6,Tm.row,Tm.Q3,Cs.Q3,htg,hA,q1,q2,q3,q4,q5,q6,q7])
   refine AWp.cy ?_
   refine AWp.rg [] [] ?_ (hr:=by conv=>lhs;simp [Q5,Q6,Tm.row,Tm.Q3,Cs.Q3,htg,hA,q1,q2,q3,q4,q5,q6,q7])
   refine AWp.ret ?_
   rw [if_pos (by rw [ht,hA];exact fun h=>q7 (Option.some.inj h))] at hR
   rw [hR]
   try dsimp only [Qq,Q8]
   apply Qv.ret
   ·rfl
   ·conv=>lhs;simp [Q9,Tryd.results56]
   ·first | rfl | simp
   ·simp [Qj,Q4]
 refine AWp.rg [] [] ?_ (hr:=by conv=>lhs;simp [Q5,Q6,Tm.row,Tm.Q3,Cs.Q3,q1,q2,q3,q4,q5,q6])
 refine AWp.cn ?_
 by_cases q8 : tk = 6
 ·refine AWp.rg [] [] ?_ (hr:=by conv=>lhs;simp [Q5,Q6,Tm.row,Tm.Q3,Cs.Q3,q1,q2,q3,q4,q5,q6,q8])
  refine AWp.cy ?_
  subst q8
  have hl:=cs_llet N hN ih tn ta tb tvs txs tcs hsz0 hO0 ⟨ct,inn,tok⟩ hW
  rw [← hR] at hl
  refine AWp.rg [] [.c [] [.ptr 500 0,.d (.ptr [.int 6,.int tn,.str ta,.str tb,Q7 tvs,.sl (txs.map Tm.row),.sl (tcs.map Cs.row)])] [(500,.blk 109 [.mp 501,.mp 502,.mp 503]),(501,.map true false 1 (Qk ct)),(502,.map true false 1 (J4 inn)),(503,.map true false 1 (Qk tok))] (.d (.int R)) []] ?_ (hr:=by conv=>lhs;simp [Q5,Q6,Tm.row,Tm.Q3,Cs.Q3,q1,q2,q3,q4,q5,q6])
  refine AWp.ret ?_
  try dsimp only [Qq,Q8]
  apply Qv.ret
  ·rfl
  ·conv=>lhs;simp [Q9,Tryd.results56]
  ·rfl
  ·simp [Qj,Q4]
 refine AWp.rg [] [] ?_ (hr:=by conv=>lhs;simp [Q5,Q6,Tm.row,Tm.Q3,Cs.Q3,q1,q2,q3,q4,q5,q6,q8])
 refine AWp.cn ?_
 by_cases q9 : tk = 7
 ·refine AWp.rg [] [] ?_ (hr:=by conv=>lhs;simp [Q5,Q6,Tm.row,Tm.Q3,Cs.Q3,q1,q2,q3,q4,q5,q6,q8,q9])
  refine AWp.cy ?_
  subst q9
  have hl:=cs_lmatch N ih tn ta tb tvs txs tcs hsz0 hO0 ⟨ct,inn,tok⟩ hW
  rw [← hR] at hl
  refine AWp.rg [] [.c [] [.ptr 500 0,.d (.ptr [.int 7,.int tn,.str ta,.str tb,Q7 tvs,.sl (txs.map Tm.row),.sl (tcs.map Cs.row)])] [(500,.blk 109 [.mp 501,.mp 502,.mp 503]),(501,.map true false 1 (Qk ct)),(502,.map true false 1 (J4 inn)),(503,.map true false 1 (Qk tok))] (.d (.int R)) []] ?_ (hr:=by conv=>lhs;simp [Q5,Q6,Tm.row,Tm.Q3,Cs.Q3,q1,q2,q3,q4,q5,q6,q8])
  refine AWp.ret ?_
  try dsimp only [Qq,Q8]
  apply Qv.ret
  ·rfl
  ·conv=>lhs;simp [Q9,Tryd.results56]
  ·rfl
  ·simp [Qj,Q4]
 refine AWp.rg [] [] ?_ (hr:=by conv=>lhs;simp [Q5,Q6,Tm.row,Tm.Q3,Cs.Q3,q1,q2,q3,q4,q5,q6,q8,q9])
 refine AWp.cn ?_
 by_cases q10 : tk = 8
 ·refine AWp.rg [] [] ?_ (hr:=by conv=>lhs;simp [Q5,Q6,Tm.row,Tm.Q3,Cs.Q3,q1,q2,q3,q4,q5,q6,q8,q9,q10])
  refine AWp.cy ?_
  refine AWp.skip ?_
  refine AWp.cy ?_
  subst q10
  have hl:=Qq9 N ih 8 tn ta tb tvs txs tcs (by omega) hsz0 hO0 ⟨ct,inn,tok⟩ hW
  rw [← hR] at hl
  refine AWp.rg [] [.c [] [.ptr 500 0,.d (.ptr [.int 8,.int tn,.str ta,.str tb,Q7 tvs,.sl (txs.map Tm.row),.sl (tcs.map Cs.row)])] [(500,.blk 109 [.mp 501,.mp 502,.mp 503]),(501,.map true false 1 (Qk ct)),(502,.map true false 1 (J4 inn)),(503,.map true false 1 (Qk tok))] (.d (.int R)) []] ?_ (hr:=by conv=>lhs;simp [Q5,Q6,Tm.row,Tm.Q3,Cs.Q3,q1,q2,q3,q4,q5,q6,q8,q9])
  refine AWp.ret ?_
  try dsimp only [Qq,Q8]
  apply Qv.ret
  ·rfl
  ·conv=>lhs;simp [Q9,Tryd.results56]
  ·rfl
  ·simp [Qj,Q4]
 refine AWp.rg [] [] ?_ (hr:=by conv=>lhs;simp [Q5,Q6,Tm.row,Tm.Q3,Cs.Q3,q1,q2,q3,q4,q5,q6,q8,q9,q10])
 refine AWp.cn ?_
 by_cases q11 : tk = 9
 ·refine AWp.rg [] [] ?_ (hr:=by conv=>lhs;simp [Q5,Q6,Tm.row,Tm.Q3,Cs.Q3,q1,q2,q3,q4,q5,q6,q8,q9,q10,q11])
  refine AWp.cy ?_
  refine AWp.skip ?_
  refine AWp.cy ?_
  subst q11
  have hl:=Qq9 N ih 9 tn ta tb tvs txs tcs (by omega) hsz0 hO0 ⟨ct,inn,tok⟩ hW
  rw [← hR] at hl
  refine AWp.rg [] [.c [] [.ptr 500 0,.d (.ptr [.int 9,.int tn,.str ta,.str tb,Q7 tvs,.sl (txs.map Tm.row),.sl (tcs.map Cs.row)])] [(500,.blk 109 [.mp 501,.mp 502,.mp 503]),(501,.map true false 1 (Qk ct)),(502,.map true false 1 (J4 inn)),(503,.map true false 1 (Qk tok))] (.d (.int R)) []] ?_ (hr:=by conv=>lhs;simp [Q5,Q6,Tm.row,Tm.Q3,Cs.Q3,q1,q2,q3,q4,q5,q6,q8,q9,q10])
  refine AWp.ret ?_
  try dsimp only [Qq,Q8]
  apply Qv.ret
  ·rfl
  ·conv=>lhs;simp [Q9,Tryd.results56]
  ·rfl
  ·simp [Qj,Q4]
 refine AWp.rg [] [] ?_ (hr:=by conv=>lhs;simp [Q5,Q6,Tm.row,Tm.Q3,Cs.Q3,q1,q2,q3,q4,q5,q6,q8,q9,q10,q11])
 refine AWp.cn ?_
 by_cases q12 : tk = 10
 ·refine AWp.rg [] [] ?_ (hr:=by conv=>lhs;simp [Q5,Q6,Tm.row,Tm.Q3,Cs.Q3,q1,q2,q3,q4,q5,q6,q8,q9,q10,q11,q12])
  refine AWp.cy ?_
  refine AWp.skip ?_
  refine AWp.cy ?_
  subst q12
  have hl:=Qq9 N ih 10 tn ta tb tvs txs tcs (by omega) hsz0 hO0 ⟨ct,inn,tok⟩ hW
  rw [← hR] at hl
  refine AWp.rg [] [.c [] [.ptr 500 0,.d (.ptr [.int 10,.int tn,.str ta,.str tb,Q7 tvs,.sl (txs.map Tm.row),.sl (tcs.map Cs.row)])] [(500,.blk 109 [.mp 501,.mp 502,.mp 503]),(501,.map true false 1 (Qk ct)),(502,.map true false 1 (J4 inn)),(503,.map true false 1 (Qk tok))] (.d (.int R)) []] ?_ (hr:=by conv=>lhs;simp [Q5,Q6,Tm.row,Tm.Q3,Cs.Q3,q1,q2,q3,q4,q5,q6,q8,q9,q10,q11])
  refine AWp.ret ?_
  try dsimp only [Qq,Q8]
  apply Qv.ret
  ·rfl
  ·conv=>lhs;simp [Q9,Tryd.results56]
  ·rfl
  ·simp [Qj,Q4]
 refine AWp.rg [] [] ?_ (hr:=by conv=>lhs;simp [Q5,Q6,Tm.row,Tm.Q3,Cs.Q3,q1,q2,q3,q4,q5,q6,q8,q9,q10,q11,q12])
 refine AWp.cn ?_
 by_cases q13 : tk = 11
 ·refine AWp.rg [] [] ?_ (hr:=by conv=>lhs;simp [Q5,Q6,Tm.row,Tm.Q3,Cs.Q3,q1,q2,q3,q4,q5,q6,q8,q9,q10,q11,q12,q13])
  refine AWp.cy ?_
  refine AWp.skip ?_
  refine AWp.cy ?_
  subst q13
  have hl:=Qq9 N ih 11 tn ta tb tvs txs tcs (by omega) hsz0 hO0 ⟨ct,inn,tok⟩ hW
  rw [← hR] at hl
  refine AWp.rg [] [.c [] [.ptr 500 0,.d (.ptr [.int 11,.int tn,.str ta,.str tb,Q7 tvs,.sl (txs.map Tm.row),.sl (tcs.map Cs.row)])] [(500,.blk 109 [.mp 501,.mp 502,.mp 503]),(501,.map true false 1 (Qk ct)),(502,.map true false 1 (J4 inn)),(503,.map true false 1 (Qk tok))] (.d (.int R)) []] ?_ (hr:=by conv=>lhs;simp [Q5,Q6,Tm.row,Tm.Q3,Cs.Q3,q1,q2,q3,q4,q5,q6,q8,q9,q10,q11,q12])
  refine AWp.ret ?_
  try dsimp only [Qq,Q8]
  apply Qv.ret
  ·rfl
  ·conv=>lhs;simp [Q9,Tryd.results56]
  ·rfl
  ·simp [Qj,Q4]
 refine AWp.rg [] [] ?_ (hr:=by conv=>lhs;simp [Q5,Q6,Tm.row,Tm.Q3,Cs.Q3,q1,q2,q3,q4,q5,q6,q8,q9,q10,q11,q12,q13])
 refine AWp.cn ?_
 by_cases q14 : tk = 13
 ·refine AWp.rg [] [] ?_ (hr:=by conv=>lhs;simp [Q5,Q6,Tm.row,Tm.Q3,Cs.Q3,q1,q2,q3,q4,q5,q6,q8,q9,q10,q11,q12,q13,q14])
  refine AWp.cy ?_
  subst q14
  have hl:=Qq9 N ih 13 tn ta tb tvs txs tcs (by omega) hsz0 hO0 ⟨ct,inn,tok⟩ hW
  rw [← hR] at hl
  refine AWp.rg [] [.c [] [.ptr 500 0,.d (.ptr [.int 13,.int tn,.str ta,.str tb,Q7 tvs,.sl (txs.map Tm.row),.sl (tcs.map Cs.row)])] [(500,.blk 109 [.mp 501,.mp 502,.mp 503]),(501,.map true false 1 (Qk ct)),(502,.map true false 1 (J4 inn)),(503,.map true false 1 (Qk tok))] (.d (.int R)) []] ?_ (hr:=by conv=>lhs;simp [Q5,Q6,Tm.row,Tm.Q3,Cs.Q3,q1,q2,q3,q4,q5,q6,q8,q9,q10,q11,q12,q13])
  refine AWp.ret ?_
  try dsimp only [Qq,Q8]
  apply Qv.ret
  ·rfl
  ·conv=>lhs;simp [Q9,Tryd.results56]
  ·rfl
  ·simp [Qj,Q4]
 refine AWp.rg [] [] ?_ (hr:=by conv=>lhs;simp [Q5,Q6,Tm.row,Tm.Q3,Cs.Q3,q1,q2,q3,q4,q5,q6,q8,q9,q10,q11,q12,q13,q14])
 refine AWp.cn ?_
 refine AWp.skip ?_
 refine AWp.rg [] [] ?_ (hr:=by conv=>lhs;simp [Q5,Q6,Tm.row,Tm.Q3,Cs.Q3,q1,q2,q3,q4,q5,q6,q8,q9,q10,q11,q12,q13,q14])
 refine AWp.ret ?_
 rw [Tm.lin,if_neg (by omega),if_neg (by omega),if_neg (by omega),if_neg (by omega),if_neg (by omega),if_neg (by omega),if_neg (by omega)] at hR
 rw [hR]
 try dsimp only [Qq,Q8]
 apply Qv.ret
 ·rfl
 ·conv=>lhs;simp [Q9,Tryd.results56]
 ·first | rfl | simp
 ·simp [Qj,Q4]
theorem lin_all : ∀ N,N≤8000000000→LinN N
 | 0,_=>fun t h=>by obtain ⟨tk,tn,ta,tb,tvs,txs,tcs⟩:=t;simp only [Tm.sz] at h;omega
 | N + 1,h=>lin_step N (by omega) (lin_all N (by omega))
set_option maxRecDepth 20000 in
set_option maxHeartbeats 16000000 in
theorem Tq (f : Fn) (hO : f.body.Ok) (hp : f.params.length≤8796093022208) (hz : f.body.sz≤8000000000) (hw0 : f.body.wg≤4611686018427387903) : Qw Tryd.prog 25 [W9 f] (fun _=>.d (.int f.lin)) none:=by
 obtain ⟨R,hR⟩ : ∃ R,R = f.lin:=⟨_,rfl⟩
 rw [← hR]
 obtain ⟨fg,fps,⟨fk,fn,fa,fb,fvs,fxs,fcs⟩⟩:=f
 dsimp only at hO hp hz hw0
 dsimp only [W9]
 refine Qw.of Tryd.func25 rfl rfl rfl (Nat.le_of_ble_eq_true rfl) ?_
 show AWp _ _ (Zk _ Tryd.f25 _ _ _) (Z7 40 _)
 refine AWp.rg [0] [] ?_ (hr:=by conv=>lhs;simp [Q5,Fn.row,Tm.row,Tm.Q3,Cs.Q3])
 refine AWp.rg [] [] ?_ (hr:=by conv=>lhs;simp [Q5,Fn.row,Tm.row,Tm.Q3,Cs.Q3])
 refine AWp.rg [] [] ?_ (hr:=by conv=>lhs;simp [Q5,Fn.row,Tm.row,Tm.Q3,Cs.Q3])
 repeat (first | refine AWp.seq ?_ | refine AWp.block ?_)
 refine AWp.loop (σ:=fun u : {u : Nat×List (ByteArray×Int) // u.1≤fps.length∧((fps.take u.1).Nodup∧KN u.2∧∀ n,lkA u.2 n = if n∈fps.take u.1 then some 1 else none)}=>⟨40,[(1,.d (.ptr [.str fg,Q7 fps,.int fk,.int fn,.str fa,.str fb,Q7 fvs,.sl (fxs.map Tm.row),.sl (fcs.map Cs.row)])),(3,.ptr 12 0),(14,.d (Q7 fps)),(15,.d (.int (fps.length : Int))),(16,.d (.int (u.1.1 : Int)))],[(8,some (.map true false 1 (Qk u.1.2))),(9,some (.map true false 1 ([]))),(10,some (.map true false 1 ([]))),(12,some (.blk 109 [.mp 8,.mp 9,.mp 10]))]⟩)
  (μ:=fun u=>fps.length - u.1.1) ⟨(0,[]),⟨Nat.zero_le _,⟨by simp,KN.nil,fun n=>by simp [lkA]⟩⟩⟩ (Le.sub (by simp [I6]) (by simp [I6])) (fun ⟨(i,c),⟨hi3,hw⟩⟩=>?_)
 dsimp only at hi3 hw ⊢
 refine AWp.rg [] [] ?_ (hr:=by conv=>lhs;simp [Q5,Fn.row,Tm.row,Tm.Q3,Cs.Q3])
 repeat (first | refine AWp.seq ?_ | refine AWp.block ?_)
 refine AWp.cond rfl (fun hc=>?_) (fun hc=>?_)
 ·have hi1 : i < fps.length:=by have:=of_decide_eq_true hc;omega
  clear hc
  have h1s : fps[i]? = some fps[i]:=List.getElem?_eq_getElem hi1
  have hms : fps[i]∈fps:=List.getElem_mem hi1
  have hds : fps.drop i = fps[i] :: fps.drop (i + 1):=List.drop_eq_getElem_cons hi1
  generalize fps[i] = s at h1s hms hds
  obtain ⟨hn,hkn,hlk⟩:=hw
  have htk : fps.take (i + 1) = fps.take i ++ [s]:=by rw [List.take_add_one,h1s];rfl
  refine AWp.skip ?_
  refine AWp.rg [] [] ?_ (hr:=by conv=>lhs;simp [Q5,Fn.row,Tm.row,Tm.Q3,Cs.Q3,h1s])
  cases hk : lkA c s with
  | none =>
   have hkg : D.Xk (.str s) (Qk c) = none:=by rw [X4,hk];rfl
   refine AWp.rg [] [] ?_ (hr:=by conv=>lhs;simp [Q5,Fn.row,Tm.row,Tm.Q3,Cs.Q3,h1s,hkg])
   refine AWp.rg [] [] ?_ (hr:=by conv=>lhs;simp [Q5,Fn.row,Tm.row,Tm.Q3,Cs.Q3,h1s,hkg])
   refine AWp.cn ?_
   refine AWp.skip ?_
   refine AWp.rg [] [] ?_ (hr:=by conv=>lhs;simp [Q5,Fn.row,Tm.row,Tm.Q3,Cs.Q3,h1s,hkg])
   refine AWp.rg [] [] ?_ (hr:=by conv=>lhs;simp [Q5,Fn.row,Tm.row,Tm.Q3,Cs.Q3,h1s,hkg])
   have hns : s ∉ fps.take i:=fun h=>by have:=hlk s;rw [if_pos h,hk] at this;cases this
   have hn2 : (fps.take (i + 1)).Nodup:=by
    rw [htk,List.nodup_append]
    exact ⟨hn,by simp,fun a ha b hb e=>hns (by rw [List.mem_singleton.1 hb] at e;rw [← e];exact ha)⟩
   have hlk2 : ∀ n,lkA (X5 c s 1) n = if n∈fps.take (i + 1) then some 1 else none:=fun n=>by
    rw [X7,htk,hlk n]
    by_cases e : s = n
    ·subst e;rw [if_pos rfl,if_pos (by simp)]
    ·rw [if_neg e]
     by_cases h : n∈fps.take i
     ·rw [if_pos h,if_pos (by simp [h])]
     ·rw [if_neg h,if_neg (by simp [h];exact fun h'=>e h'.symm)]
   refine ⟨⟨(i + 1,X5 c s 1),hi1,⟨hn2,hkn.put s 1,hlk2⟩⟩,by simp;omega,?_⟩
   dsimp only
   exact Le.sub (by simp) (by simp)
  | some k =>
   have hkg : D.Xk (.str s) (Qk c) = some [.int k]:=by rw [X4,hk];rfl
   refine AWp.rg [] [] ?_ (hr:=by conv=>lhs;simp [Q5,Fn.row,Tm.row,Tm.Q3,Cs.Q3,h1s,hkg])
   refine AWp.rg [] [] ?_ (hr:=by conv=>lhs;simp [Q5,Fn.row,Tm.row,Tm.Q3,Cs.Q3,h1s,hkg])
   refine AWp.cy ?_
   refine AWp.rg [] [] ?_ (hr:=by conv=>lhs;simp [Q5,Fn.row,Tm.row,Tm.Q3,Cs.Q3,h1s,hkg])
   refine AWp.ret ?_
   have hR : R = 7:=by
    rw [hR];unfold Fn.lin
    rw [if_neg]
    intro h
    have h2 : (fps.take (i + 1)).Nodup:=(List.take_sublist _ _).nodup h
    rw [htk,List.nodup_append] at h2
    have h3 : s∈fps.take i:=Decidable.byContradiction fun h=>by have:=hlk s;rw [if_neg h,hk] at this;cases this
    exact h2.2.2 s h3 s (List.mem_singleton.2 rfl) rfl
   rw [hR]
   try dsimp only [Qq,Q8]
   apply Zk.ret
   ·rfl
   ·conv=>lhs;simp [Q9,Tryd.results25]
   first | rfl | simp [Z6]
 have hi1 : i = fps.length:=by have:=of_decide_eq_false hc;omega
 subst hi1
 clear hc
 rw [List.take_length] at hw
 obtain ⟨hn,hkn,hlk⟩:=hw
 refine AWp.exit ?_
 have hpm : (Qk c).Perm (Qk (fps.map fun p=>(p,(1 : Int)))):=ent_perm hkn (lin0_ok (f:=⟨fg,fps,.mk fk fn fa fb fvs fxs fcs⟩) hn).kc fun n=>by rw [hlk n,lin0_lk]
 have hR : R = Tm.lin (.mk fk fn fa fb fvs fxs fcs) ⟨fps.map fun p=>(p,1),[],[]⟩:=by rw [hR];unfold Fn.lin;rw [if_pos hn]
 have hx:=lin_all (Tm.mk fk fn fa fb fvs fxs fcs).sz hz _ (Nat.le_refl _) hO ⟨fps.map fun p=>(p,1),[],[]⟩ ⟨fun n=>by
   unfold LS.c
   dsimp only
   rw [lin0_lk]
   split <;> simp <;> omega,by simp;omega,(lin0_ok (f:=⟨fg,fps,.mk fk fn fa fb fvs fxs fcs⟩) hn).kc,KN.nil,KN.nil⟩
 rw [← hR] at hx
 repeat (first | refine AWp.seq ?_ | refine AWp.block ?_)
 refine AWp.le (Le.low [] [] (fr:=[(1,.d (.ptr [.str fg,Q7 fps,.int fk,.int fn,.str fa,.str fb,Q7 fvs,.sl (fxs.map Tm.row),.sl (fcs.map Cs.row)])),(3,.ptr 12 0)]) (mem:=[(8,some (.map true false 1 (Qk (fps.map fun p=>(p,(1 : Int)))))),(9,some (.map true false 1 (J4 []))),(10,some (.map true false 1 (Qk []))),(12,some (.blk 109 [.mp 8,.mp 9,.mp 10]))]) rfl (by simp) (by simp [I6,J4];exact hpm)) ?_
 refine AWp.rg [] [.c [(500,12),(501,8),(502,9),(503,10)] [.ptr 500 0,.agg [.d (.int fk),.d (.int fn),.d (.str fa),.d (.str fb),.d (Q7 fvs),.d (.sl (fxs.map Tm.row)),.d (.sl (fcs.map Cs.row))]] [(500,.blk 109 [.mp 501,.mp 502,.mp 503]),(501,.map true false 1 (Qk (fps.map fun p=>(p,(1 : Int))))),(502,.map true false 1 (J4 [])),(503,.map true false 1 (Qk []))] (.d (.int R)) []] ?_ (hr:=by conv=>lhs;simp [Q5,Fn.row,Tm.row,Tm.Q3,Cs.Q3])
 refine AWp.ret ?_
 try dsimp only [Qq,Q8]
 apply Zk.ret
 ·rfl
 ·conv=>lhs;simp [Q9,Tryd.results25]
 first | rfl | simp [Z6]
end Go.Proofs.YtjpldhjgehoffaaDoor
namespace Go.Proofs.YtjpldhjgehoffaaDoor
open Go.RowKit
attribute [local simp] Cq mkRc ldOf stOf Qz4 Fq M4 Rq K7 V3 Yv K4 J7 Y9 L9 evA Kv G8 Value.oneCell' Zj Q4 Z7 Iz Vz Z0 AS.after Z8 K8 Jv AV.ids Mq Qz.ids Qj3 F9 Wv U9 G6 Y0 Y5 Kk V9 V7 Yz Ov T9 setAt Vj Cj Gq Pj R9 Pk binI AV.cells J9 Jz R8 U1 AV.kill Qz.kill AV.has AV.K9 Op.operands Call.operands Gj Hw Zv Oz Zz Xz Tk moQ M6 Uz Yw AV.ren Tj Qz.ren Qz.like kept X8 M5 AV.frz Pz Cw Ex H9 F3 AS.frz Mv Uw Qz.frz Rx Rj bleF Nat.ble_eq R4 Ww K3 D.Yx F5 Uv Vx Vq phO Px Gz Wx U0 K6 Low Sq
set_option linter.unusedVariables false
set_option linter.unusedSimpArgs false
set_option maxRecDepth 20000 in
set_option maxHeartbeats 16000000 in
theorem sp_Made2 (l : List Fn) (hl : Gv l) (hc : Y8 l = 0) : Qw Tryd.prog 10 [D7 l,.d (.int 2)] (fun _=>D7 (mk2 l)) none:=by
 have hll:=hl.len
 have h1:=Qz7 l hl.len (Tx hl hc)
 have hp:=Bj hl hc
 have h2:=Qz8 (l.map Fn.pl) (by rw [List.length_map];exact hl.len) hp
 have h3:=sp_EachFused ((l.map Fn.pl).map Fn.ow) (by rw [List.length_map,List.length_map];exact hl.len) (fun f hf=>⟨(Aw hl hc f hf).1,(Aw hl hc f hf).2.1⟩)
 have h4:=sp_EachReused (((l.map Fn.pl).map Fn.ow).map Fn.fu) (by rw [List.length_map,List.length_map,List.length_map];exact hl.len) (mk1_fs hl hc)
 unfold mk2 mk1 mk0
 generalize l.map Fn.pl = P at h1 h2 h3 h4 ⊢
 generalize P.map Fn.ow = O at h2 h3 h4 ⊢
 generalize O.map Fn.fu = U at h3 h4 ⊢
 generalize U.map Fn.ru = V at h4 ⊢
 refine Qw.of Tryd.func10 rfl rfl rfl (Nat.le_of_ble_eq_true rfl) ?_
 show AWp _ _ (Zk _ Tryd.f10 _ _ _) (Z7 17 _)
 refine AWp.rg [] [] ?_
 refine AWp.rg [] [.p (fun _=>.d (.sl (P.map Fn.row))) none,.p (fun _=>.d (.sl (O.map Fn.row))) none] ?_
 refine AWp.rg [] [] ?_
 refine AWp.cy ?_
 refine AWp.rg [] [.p (fun _=>.d (.sl (U.map Fn.row))) none] ?_
 refine AWp.rg [] [] ?_
 refine AWp.cy ?_
 refine AWp.rg [] [.p (fun _=>.d (.sl (V.map Fn.row))) none] ?_
 refine AWp.rg [] [] ?_
 refine AWp.ret ?_
 try dsimp only [Qq,Q8]
 apply Zk.ret
 ·rfl
 ·conv=>lhs;simp [Q9,Tryd.results10]
 rfl
end Go.Proofs.YtjpldhjgehoffaaDoor
namespace Go.Proofs.YtjpldhjgehoffaaDoor
open Classical Go.RowKit
set_option linter.unusedVariables false
set_option linter.unusedSimpArgs false
mutual
theorem Tm.sz_wg : ∀ t : Tm,t.sz≤t.wg
 | .mk k n a b vs xs cs=>by
  have h1:=Tm.szs_wg xs
  have h2:=Cs.szs_wg cs
  rw [Tm.sz,Tm.wg]
  omega
theorem Tm.szs_wg : ∀ l : List Tm,Tm.szs l≤Tm.wgs l
 | []=>Nat.le_refl _
 | x :: r=>by
  have h1:=Tm.sz_wg x
  have h2:=Tm.szs_wg r
  rw [Tm.szs,Tm.wgs];omega
theorem Cs.szs_wg : ∀ l : List Cs,Cs.szs l≤Cs.wgs l
 | []=>Nat.le_refl _
 | x :: r=>by
  have h1:=Cs.sz_wg x
  have h2:=Cs.szs_wg r
  rw [Cs.szs,Cs.wgs];omega
theorem Cs.sz_wg : ∀ c : Cs,c.sz≤c.wg
 | .mk t ws y=>by
  have h1:=Tm.sz_wg y
  rw [Cs.sz,Cs.wg];exact h1
end
theorem cnt_wg {k : Int} (hk : k = 8∨k = 9) : ∀ (l : List ByteArray) (t : Tm),(cnt k l t).wg = l.length + t.wg
 | [],t=>by rw [cnt];simp
 | a :: r,t=>by
  rw [cnt,Tm.wg,if_neg (by omega),Tm.wgs,Tm.wgs,Cs.wgs,cnt_wg hk r t,List.length_cons];omega
theorem rt_wg : ∀ (d : Nat) (t : Tm),t.Rt d→t.wg = t.sz:=by
 intro d
 induction d with
 | zero=>intro t h;exact h.elim
 | succ d ih =>
  intro t h
  obtain ⟨k,n,a,b,vs,xs,cs⟩:=t
  obtain ⟨h1,-,-,h2,h3⟩:=h
  have hX : ∀ l : List Tm,(∀ x∈l,x∈xs)→Tm.wgs l = Tm.szs l:=by
   intro l
   induction l with
   | nil=>intro _;rfl
   | cons x r ih2 =>
    intro hm
    rw [Tm.wgs,Tm.szs,ih x (h2 x (hm x (by simp))),ih2 fun z hz=>hm z (by simp [hz])]
  have hC : ∀ l : List Cs,(∀ x∈l,x∈cs)→Cs.wgs l = Cs.szs l:=by
   intro l
   induction l with
   | nil=>intro _;rfl
   | cons c r ih2 =>
    intro hm
    have:=(h3 c (hm c (by simp))).2
    obtain ⟨t,ws,y⟩:=c
    rw [Cs.wgs,Cs.szs,Cs.wg,Cs.sz,ih y this,ih2 fun z hz=>hm z (by simp [hz])]
  rw [Tm.wg,Tm.sz,if_neg (by omega),hX xs fun _ h=>h,hC cs fun _ h=>h]
theorem ow_wg (H : Nat) : ∀ (d : Nat) (t : Tm) (has : List ByteArray),t.Rt d→has.length + 7 * d≤H→(t.ow has).wg≤t.sz * (2 * H + 64):=by
 intro d
 induction d with
 | zero=>intro t _ h;exact h.elim
 | succ d ih =>
  intro t has hR hH
  obtain ⟨k,n,a,b,vs,xs,cs⟩:=t
  have hR':=hR
  have hself:=rt_wg _ _ hR
  obtain ⟨hk,-,h6,hx,hc⟩:=hR
  obtain ⟨K,hK⟩ : ∃ K,K = 2 * H + 64:=⟨_,rfl⟩
  rw [← hK] at ih ⊢
  have hz1 : (Tm.mk k n a b vs xs cs).sz * 1≤(Tm.mk k n a b vs xs cs).sz * 2:=Nat.mul_le_mul_left _ (by omega)
  rw [Tm.ow,cnt_wg (.inr rfl)]
  have hw:=Fv has (Tm.mk k n a b vs xs cs).free
  have hI:=Rv has (Tm.mk k n a b vs xs cs).free
  generalize woN has (Tm.mk k n a b vs xs cs).free = G at hw ⊢
  generalize inN has (Tm.mk k n a b vs xs cs).free = O at hI ⊢
  have hexp : ∀ z : Nat,(1 + z) * K = K + z * K:=fun z=>by rw [Nat.add_mul,Nat.one_mul]
  have hle : ∀ z : Nat,z≤z * K:=fun z=>Nat.le_mul_of_pos_right z (by omega)
  have htot : (Tm.mk k n a b vs xs cs).sz * K = K + (Tm.szs xs + Cs.szs cs) * K:=by rw [Tm.sz,Nat.add_assoc,hexp]
  have hle2:=hle (Tm.szs xs + Cs.szs cs)
  have hszv : (Tm.mk k n a b vs xs cs).sz = 1 + Tm.szs xs + Cs.szs cs:=by rw [Tm.sz]
  split
  ·rw [cnt_wg (.inl rfl),hself,htot,hszv]
   have h1:=Qq5 xs []
   have h2 : xs.length≤6:=by omega
   omega
  split
  ·rename_i h6'
   subst h6'
   obtain ⟨x,y,rfl,rfl,hxR,hyR⟩:=rt_two hR'
   have hlD : (letD a O [x,y]).length≤O.length:=by
    unfold letD
    exact Nat.le_trans (Rv _ _) (Rv _ _)
   rw [cnt_wg (.inl rfl),htot,letH,Tm.owZ,Tm.owZ,Tm.owZ,Tm.wg,if_neg (by omega),Tm.wgs,Tm.wgs,Tm.wgs,Cs.wgs]
   simp only [List.headD_cons,List.tail_cons]
   have h1:=ih x (inN O x.free) hxR (by have:=Rv O x.free;omega)
   have h2:=ih y (inN O (woN y.free [a]) ++ [a]) hyR (by have:=Rv O (woN y.free [a]);simp;omega)
   have h3 : (Tm.szs [x,y] + Cs.szs []) * K = x.sz * K + y.sz * K:=by
    simp only [Tm.szs,Cs.szs,Nat.add_zero]
    rw [Nat.add_mul]
   rw [h3]
   omega
  split
  ·rename_i h7
   subst h7
   have hX : Tm.wgs xs = Tm.szs xs:=by
    have:=hself
    have hC : ∀ l : List Cs,(∀ x∈l,x∈cs)→Cs.wgs l = Cs.szs l:=by
     intro l
     induction l with
     | nil=>intro _;rfl
     | cons c r ih2 =>
      intro hm
      have:=(hc c (hm c (by simp))).2
      obtain ⟨t,ws,y⟩:=c
      rw [Cs.wgs,Cs.szs,Cs.wg,Cs.sz,rt_wg d y this,ih2 fun z hz=>hm z (by simp [hz])]
    rw [Tm.wg,Tm.sz,if_neg (by omega),hC cs fun _ h=>h] at this
    omega
   have hD : ∀ l : List Cs,(∀ x∈l,x∈cs)→Cs.wgs (Cs.owL l O (nmH xs))≤Cs.szs l * K + 7 * l.length:=by
    intro l
    induction l with
    | nil=>intro _;simp [Cs.owL,Cs.wgs]
    | cons c r ih2 =>
     intro hm
     obtain ⟨hw6,hcc⟩:=hc c (hm c (by simp))
     have e1:=ih2 fun z hz=>hm z (by simp [hz])
     obtain ⟨t,ws,y⟩:=c
     change ws.length≤6 at hw6
     have hiw:=Rv ws y.free
     have y1:=ih y (if hasB y.free (nmH xs) then O ++ inN ws y.free else woN (O ++ inN ws y.free) [nmH xs]) hcc (by
      have h1 : (O ++ inN ws y.free).length≤O.length + 6:=by rw [List.length_append];omega
      split
      ·omega
      ·have:=Fv (O ++ inN ws y.free) [nmH xs];omega)
     have hdl : (if hasB y.free (nmH xs) then ([] : List ByteArray) else [nmH xs]).length≤1:=by split <;> simp
     rw [Cs.owL,Cs.ow,Cs.wgs,Cs.wg,cnt_wg (.inl rfl),cnt_wg (.inr rfl),Cs.szs,Cs.sz,Nat.add_mul,List.length_cons]
     omega
   have h1:=hD cs fun _ h=>h
   rw [htot,Tm.wg,if_neg (by omega),hX]
   have h3 : (Tm.szs xs + Cs.szs cs) * K = Tm.szs xs * K + Cs.szs cs * K:=Nat.add_mul _ _ _
   have h4:=hle (Tm.szs xs)
   omega
  ·rw [hself,htot,hszv]
   omega
theorem sr_wg : ∀ (N : Nat) (t : Tm) (rest : List ByteArray),t.sz≤N→(t.sr rest).2.wg≤t.wg∧(t.sr rest).1.length≤rest.length∧(t.sr rest).2.nc≤t.nc:=by
 intro N
 induction N with
 | zero=>intro t _ h;have:=t.F8;omega
 | succ N ih =>
  intro t rest hN
  obtain ⟨k,n,a,b,vs,xs,cs⟩:=t
  rw [Tm.sr]
  split
  ·cases xs with
   | nil=>rw [Tm.srL];exact ⟨Nat.le_refl _,Fv _ _,Nat.le_refl _⟩
   | cons x r =>
    rw [Tm.srL]
    obtain ⟨h1,h2,h3⟩:=ih x (woN rest [a]) (by rw [Tm.sz,Tm.szs] at hN;omega)
    have:=Fv rest [a]
    rw [Tm.wg,Tm.wgs,Tm.nc,Tm.ncL]
    omega
  ·exact ⟨Nat.le_refl _,Nat.le_refl _,Nat.le_refl _⟩
theorem fuOne_wg {k : Int} {na : Nat} {nm : ByteArray} {ws : List ByteArray} {y : Tm} (hw : ws.length≤6) : (G7 k na nm ws y).wg≤y.wg + 13∧(G7 k na nm ws y).nc≤y.nc:=by
 unfold G7
 split
 ·rename_i hcond
  obtain ⟨-,-,-,h9,hnm⟩:=hcond
  obtain ⟨h1,h2,h3⟩:=sr_wg y.sz y ws (Nat.le_refl _)
  generalize y.sr ws = Z at *
  obtain ⟨rest,z⟩:=Z
  dsimp only at *
  rw [Tm.wg,if_pos (.inl rfl),Tm.wgs,Tm.wgs,Cs.wgs,Tm.nc,Tm.ncL,Tm.ncL,Cs.ncL,cnt_wg (.inr rfl),(S9 (.inr rfl) _ _).2]
  obtain ⟨k,n,a,b,vs,xs,cs⟩:=z
  cases xs with
  | nil =>
   have e : (Tm.mk k n a b vs [] cs).a0 = Tm.mk k n a b vs [] cs:=rfl
   rw [e];omega
  | cons x r =>
   have e : (Tm.mk k n a b vs (x :: r) cs).a0 = x:=rfl
   rw [e]
   rw [Tm.wg,Tm.wgs] at h1
   rw [Tm.nc,Tm.ncL] at h3
   omega
 ·omega
theorem fu_wg : ∀ (N : Nat) (t : Tm),t.sz≤N→t.Du→t.fu.wg≤t.wg + 13 * t.nc∧t.fu.nc≤t.nc:=by
 intro N
 induction N with
 | zero=>intro t h;have:=t.F8;omega
 | succ N ih =>
  intro t hN hD
  obtain ⟨k,n,a,b,vs,xs,cs⟩:=t
  rw [Tm.sz] at hN
  have hX : ∀ l : List Tm,(∀ x∈l,x∈xs)→Tm.wgs (Tm.fuL l)≤Tm.wgs l + 13 * Tm.ncL l∧Tm.ncL (Tm.fuL l)≤Tm.ncL l:=by
   intro l
   induction l with
   | nil=>intro _;exact ⟨Nat.le_refl _,Nat.le_refl _⟩
   | cons x r ih2 =>
    intro hm
    have hx:=hm x (by simp)
    have h1:=ih x (by have:=Tm.Z4 hx;omega) (Tm.Bz.1 hD.2.1 x hx)
    have h2:=ih2 fun z hz=>hm z (by simp [hz])
    rw [Tm.fuL,Tm.wgs,Tm.wgs,Tm.ncL,Tm.ncL];omega
  have hC : ∀ l : List Cs,(∀ x∈l,x∈cs)→Cs.wgs (Cs.fuL k xs.length (nmH xs) l)≤Cs.wgs l + 13 * Cs.ncL l∧Cs.ncL (Cs.fuL k xs.length (nmH xs) l)≤Cs.ncL l:=by
   intro l
   induction l with
   | nil=>intro _;exact ⟨Nat.le_refl _,Nat.le_refl _⟩
   | cons c r ih2 =>
    intro hm
    have hc:=hm c (by simp)
    have h2:=ih2 fun z hz=>hm z (by simp [hz])
    obtain ⟨t,ws,y⟩:=c
    have hs : (Cs.mk t ws y).sz≤Cs.szs cs:=Cs.Z4 hc
    rw [Cs.sz] at hs
    obtain ⟨hw,hy⟩:=Cs.Bz.1 hD.2.2 _ hc
    have h1:=ih y (by omega) hy
    have h3:=fuOne_wg (k:=k) (na:=xs.length) (nm:=nmH xs) (ws:=ws) (y:=y.fu) hw
    rw [Cs.fuL,Cs.wgs,Cs.wgs,Cs.ncL,Cs.ncL,Cs.fu,Cs.wg,Cs.wg,Cs.nc,Cs.nc];omega
  have h1:=hX xs fun _ h=>h
  have h2:=hC cs fun _ h=>h
  rw [Tm.fu,Tm.wg,Tm.wg,Tm.nc,Tm.nc]
  omega
theorem put_wg (b : ByteArray) (m : Nat) : ∀ (N : Nat) (t : Tm),t.sz≤N→(t.put b m).wg≤t.wg + 1 + t.nc∧(t.put b m).nc = t.nc:=by
 intro N
 induction N with
 | zero=>intro t h;have:=t.F8;omega
 | succ N ih =>
  intro t hN
  obtain ⟨k,n,a,b0,vs,xs,cs⟩:=t
  rw [Tm.sz] at hN
  have hH : ∀ l : List Tm,(∀ x∈l,x∈xs)→Tm.wgs (Tm.G5 b m l)≤Tm.wgs l + 1 + Tm.ncL l∧Tm.ncL (Tm.G5 b m l) = Tm.ncL l:=by
   intro l hm
   cases l with
   | nil=>rw [Tm.G5];exact ⟨by omega,rfl⟩
   | cons x r =>
    have hx:=hm x (by simp)
    have h1:=ih x (by have:=Tm.Z4 hx;omega)
    rw [Tm.G5,Tm.wgs,Tm.wgs,Tm.ncL,Tm.ncL];omega
  have hL : ∀ l : List Tm,(∀ x∈l,x∈xs)→Tm.wgs (Tm.O8 b m l)≤Tm.wgs l + 1 + Tm.ncL l∧Tm.ncL (Tm.O8 b m l) = Tm.ncL l:=by
   intro l hm
   cases l with
   | nil=>rw [Tm.O8];exact ⟨by omega,rfl⟩
   | cons x r =>
    have hx:=hm x (by simp)
    rw [Tm.O8]
    split
    ·have h1:=ih x (by have:=Tm.Z4 hx;omega)
     rw [Tm.wgs,Tm.wgs,Tm.ncL,Tm.ncL];omega
    ·have h1:=hH r fun z hz=>hm z (by simp [hz])
     rw [Tm.wgs,Tm.wgs,Tm.ncL,Tm.ncL];omega
  have hC : ∀ l : List Cs,(∀ x∈l,x∈cs)→Cs.wgs (Cs.X5 b m l)≤Cs.wgs l + Cs.ncL l∧Cs.ncL (Cs.X5 b m l) = Cs.ncL l:=by
   intro l
   induction l with
   | nil=>intro _;rw [Cs.X5];exact ⟨Nat.le_refl _,rfl⟩
   | cons c r ih2 =>
    intro hm
    have hc:=hm c (by simp)
    have h2:=ih2 fun z hz=>hm z (by simp [hz])
    obtain ⟨t,ws,y⟩:=c
    have hs : (Cs.mk t ws y).sz≤Cs.szs cs:=Cs.Z4 hc
    rw [Cs.sz] at hs
    have h1:=ih y (by omega)
    rw [Cs.X5,Cs.put,Cs.wgs,Cs.wgs,Cs.ncL,Cs.ncL,Cs.wg,Cs.wg,Cs.nc,Cs.nc];omega
  rw [Tm.put]
  split
  ·rw [Tm.wg,if_neg (by omega),Tm.wgs,Tm.wgs,Cs.wgs]
   constructor
   ·omega
   ·rw [Tm.nc,Tm.ncL,Tm.ncL,Cs.ncL];omega
  split
  ·rename_i h3
   rw [Tm.wg,Tm.wg,if_neg (by omega),if_neg (by omega),Tm.nc,Tm.nc]
   exact ⟨by omega,rfl⟩
  split
  ·have h1:=hL xs fun _ h=>h
   rw [Tm.wg,Tm.wg,Tm.nc,Tm.nc];omega
  split
  ·have h1:=hC cs fun _ h=>h
   rw [Tm.wg,Tm.wg,Tm.nc,Tm.nc];omega
  ·have h1:=hH xs fun _ h=>h
   rw [Tm.wg,Tm.wg,Tm.nc,Tm.nc];omega
theorem ru_wg (M : Nat) : ∀ (N : Nat) (t : Tm) (c : Int),t.nc≤M→(t.ru N c).1.wg≤t.wg + t.nt * (1 + M)∧(t.ru N c).1.nc≤t.nc:=by
 intro N
 induction N with
 | zero=>intro t c _;rw [Tm.ru];exact ⟨Nat.le_add_right _ _,Nat.le_refl _⟩
 | succ N ih =>
  intro t c hM
  obtain ⟨k,n,a,b,vs,xs,cs⟩:=t
  have hX : ∀ (l : List Tm) (c : Int),Tm.ncL l≤M→Tm.wgs (ruL (Tm.ru N) l c).1≤Tm.wgs l + Tm.ntL l * (1 + M)∧Tm.ncL (ruL (Tm.ru N) l c).1≤Tm.ncL l:=by
   intro l
   induction l with
   | nil=>intro c _;rw [ruL];exact ⟨Nat.le_add_right _ _,Nat.le_refl _⟩
   | cons x r ih2 =>
    intro c hm
    rw [Tm.ncL] at hm
    have h1:=ih x c (by omega)
    have h2:=ih2 (x.ru N c).2 (by omega)
    rw [ruL]
    dsimp only
    rw [Tm.wgs,Tm.wgs,Tm.ncL,Tm.ncL,Tm.ntL,Nat.add_mul];omega
  have hC : ∀ (l : List Cs) (c : Int),Cs.ncL l≤M→Cs.wgs (ruC (Tm.ru N) l c).1≤Cs.wgs l + Cs.ntL l * (1 + M)∧Cs.ncL (ruC (Tm.ru N) l c).1≤Cs.ncL l:=by
   intro l
   induction l with
   | nil=>intro c _;rw [ruC];exact ⟨Nat.le_add_right _ _,Nat.le_refl _⟩
   | cons x r ih2 =>
    intro c hm
    obtain ⟨t,ws,y⟩:=x
    rw [Cs.ncL,Cs.nc] at hm
    have h1:=ih y c (by omega)
    have h2:=ih2 (y.ru N c).2 (by omega)
    rw [ruC]
    dsimp only
    rw [Cs.wgs,Cs.wgs,Cs.ncL,Cs.ncL,Cs.ntL,Cs.wg,Cs.wg,Cs.nc,Cs.nc,Cs.nt,Nat.add_mul];omega
  rw [Tm.nc] at hM
  rw [Tm.ru]
  split
  ·rename_i hk
   obtain ⟨rfl,hf⟩:=hk
   cases xs with
   | nil=>simp [Tm.fitH] at hf
   | cons x r =>
    have hp:=put_wg (kNm (wr (c + 1))) vs.length x.sz x (Nat.le_refl _)
    have hpn:=(put_r (kNm (wr (c + 1))) vs.length x.sz x (Nat.le_refl _)).nt
    rw [Tm.ncL] at hM
    have h1:=hX (Tm.G5 (kNm (wr (c + 1))) vs.length (x :: r)) (wr (c + 1)) (by rw [Tm.G5,Tm.ncL,hp.2];omega)
    generalize (ruL (Tm.ru N) (Tm.G5 (kNm (wr (c + 1))) vs.length (x :: r)) (wr (c + 1))).1 = Z at h1
    rw [Tm.G5,Tm.wgs,Tm.ncL,Tm.ntL,hpn,hp.2] at h1
    dsimp only
    rw [Tm.wg,if_pos (.inr rfl),Tm.wg,if_pos (.inl rfl),Tm.nc,Tm.nc,Tm.nt,if_pos rfl,Tm.wgs,Tm.ncL,Tm.ntL,Cs.wgs,Cs.ncL]
    have e : (1 + (x.nt + Tm.ntL r + Cs.ntL cs)) * (1 + M) = (1 + M) + (x.nt + Tm.ntL r) * (1 + M) + Cs.ntL cs * (1 + M):=by rw [Nat.add_mul,Nat.one_mul,Nat.add_mul];omega
    rw [e]
    omega
  ·have h1:=hX xs c (by omega)
   have h2:=hC cs (ruL (Tm.ru N) xs c).2 (by omega)
   dsimp only
   rw [Tm.wg,Tm.wg,Tm.nc,Tm.nc,Tm.nt]
   have e : ((if k = 10 then 1 else 0) + (Tm.ntL xs + Cs.ntL cs)) * (1 + M) = (if k = 10 then 1 else 0) * (1 + M) + Tm.ntL xs * (1 + M) + Cs.ntL cs * (1 + M):=by rw [Nat.add_mul,Nat.add_mul];omega
   rw [e]
   omega
theorem ru_ok : ∀ (N : Nat) (t : Tm) (c : Int),t.Ok→(t.ru N c).1.Ok:=by
 intro N
 induction N with
 | zero=>intro t c h;rw [Tm.ru];exact h
 | succ N ih =>
  intro t c hO
  obtain ⟨k,n,a,b,vs,xs,cs⟩:=t
  obtain ⟨⟨o1,o2,o3⟩,⟨o4,o5,o6⟩,o7,o8⟩:=hO
  have hXl : ∀ (l : List Tm) (c : Int),(ruL (Tm.ru N) l c).1.length = l.length:=by
   intro l
   induction l with
   | nil=>intro c;rfl
   | cons x r ih2=>intro c;rw [ruL];simp [ih2]
  have hCl : ∀ (l : List Cs) (c : Int),(ruC (Tm.ru N) l c).1.length = l.length:=by
   intro l
   induction l with
   | nil=>intro c;rfl
   | cons x r ih2=>intro c;obtain ⟨t,ws,y⟩:=x;rw [ruC];simp [ih2]
  have hX : ∀ (l : List Tm) (c : Int),(∀ x∈l,x.Ok)→∀ x∈(ruL (Tm.ru N) l c).1,x.Ok:=by
   intro l
   induction l with
   | nil=>intro c _ x hx;cases hx
   | cons y r ih2 =>
    intro c hm x hx
    rw [ruL] at hx
    rcases List.mem_cons.1 hx with rfl | hx
    ·exact ih y c (hm y (by simp))
    ·exact ih2 _ (fun z hz=>hm z (by simp [hz])) x hx
  have hC : ∀ (l : List Cs) (c : Int),(∀ x∈l,x.Ok)→∀ x∈(ruC (Tm.ru N) l c).1,x.Ok:=by
   intro l
   induction l with
   | nil=>intro c _ x hx;cases hx
   | cons y r ih2 =>
    intro c hm x hx
    obtain ⟨t,ws,y⟩:=y
    rw [ruC] at hx
    rcases List.mem_cons.1 hx with rfl | hx
    ·obtain ⟨k1,k2,k3⟩:=hm (.mk t ws y) (by simp)
     exact ⟨k1,k2,ih y c k3⟩
    ·exact ih2 _ (fun z hz=>hm z (by simp [hz])) x hx
  have o7':=Tm.Zq.1 o7
  have o8':=Cs.Zq.1 o8
  rw [Tm.ru]
  split
  ·have hks : (kNm (wr (c + 1))).size≤140737488355328:=by
    have:=Nz (wr_in (c + 1))
    unfold kNm
    simp only [ByteArray.size_append]
    have e : (⟨#[107]⟩ : ByteArray).size = 1:=rfl
    omega
   have hp : ∀ x∈Tm.G5 (kNm (wr (c + 1))) vs.length xs,x.Ok:=by
    cases xs with
    | nil=>intro x hx;cases hx
    | cons y r =>
     intro x hx
     rw [Tm.G5] at hx
     rcases List.mem_cons.1 hx with rfl | hx
     ·exact G9 _ _ hks y.sz y (Nat.le_refl _) (o7' y (by simp))
     ·exact o7' x (by simp [hx])
   have hpl : (Tm.G5 (kNm (wr (c + 1))) vs.length xs).length = xs.length:=by cases xs <;> rfl
   exact ⟨⟨o1,hks,o3⟩,⟨o4,by rw [hXl,hpl];exact o5,by simp⟩,Tm.Zq.2 (hX _ _ hp),Cs.Zq.2 (by simp)⟩
  ·exact ⟨⟨o1,o2,o3⟩,⟨o4,by rw [hXl];exact o5,by rw [hCl];exact o6⟩,Tm.Zq.2 (hX _ _ o7'),Cs.Zq.2 (hC _ _ o8')⟩
structure Atl (f : Fn) : Prop where
 ok : f.body.Ok
 par : f.params.length≤6
 wg : f.body.wg≤10000000
 lin : f.lin = 0
 nd : f.params.Nodup
theorem mk_wg {l : List Fn} (hl : Gv l) (hc : Y8 l = 0) : (∀ f∈mk0 l,f.body.wg≤4000000)∧(∀ f∈mk1 l,f.body.wg≤5000000)∧(∀ f∈mk2 l,f.body.wg≤10000000):=by
 have h0 : ∀ f∈mk0 l,f.body.wg≤4000000∧f.body.nc≤1200∧f.body.nt = 0:=fun f hf=>by
  unfold mk0 at hf
  obtain ⟨g,hg,rfl⟩:=List.mem_map.1 hf
  have hPt:=Bj hl hc g hg
  obtain ⟨x,hx,rfl⟩:=List.mem_map.1 hg
  have hR:=(Qj6 hc).2.2.2 x hx
  have hr:=(Tx hl hc x hx).2.1
  obtain ⟨-,hrt,-⟩:=pl_body hl hc x.pl hg
  have hz:=hR.sz
  have h1:=Tm.rn_sz x.body
  have hsz : x.pl.body.sz≤1200:=by
   have e1 : x.rn.body.sz≤400:=(hR.rn hr).sz
   have e2:=Tm.pl_sz x.rn.body 0
   show (x.rn.body.pl 0).1.sz≤1200
   omega
  have h2:=ow_wg 1231 175 x.pl.body x.pl.params hrt (by have:=hPt.par;omega)
  obtain ⟨-,e1,e2⟩:=rt_nt 175 x.pl.body x.pl.params hrt
  have hnc:=x.pl.body.nc_sz
  refine ⟨?_,?_,e1⟩
  ·show (x.pl.body.ow x.pl.params).wg≤_
   have : x.pl.body.sz * (2 * 1231 + 64)≤1200 * (2 * 1231 + 64):=Nat.mul_le_mul_right _ hsz
   omega
  ·show (x.pl.body.ow x.pl.params).nc≤_
   rw [e2];omega
 have h1 : ∀ f∈mk1 l,f.body.wg≤5000000∧f.body.nc≤1200∧f.body.nt≤1200:=fun f hf=>by
  unfold mk1 at hf
  obtain ⟨g,hg,rfl⟩:=List.mem_map.1 hf
  obtain ⟨k1,k2,k3⟩:=h0 g hg
  obtain ⟨k4,k5⟩:=fu_wg g.body.sz g.body (Nat.le_refl _) (Aw hl hc g hg).2.1
  have k6:=fu_nt g.body.sz g.body (Nat.le_refl _) (lv0 hl hc g hg).1.shp.s1
  exact ⟨by show g.body.fu.wg≤_;omega,by show g.body.fu.nc≤_;omega,by show g.body.fu.nt≤_;omega⟩
 refine ⟨fun f hf=>(h0 f hf).1,fun f hf=>(h1 f hf).1,fun f hf=>?_⟩
 unfold mk2 at hf
 obtain ⟨g,hg,rfl⟩:=List.mem_map.1 hf
 obtain ⟨k1,k2,k3⟩:=h1 g hg
 have k4:=(ru_wg 1200 g.body.dp g.body 0 k2).1
 show (g.body.ru g.body.dp 0).1.wg≤_
 have : g.body.nt * (1 + 1200)≤1200 * (1 + 1200):=Nat.mul_le_mul_right _ k3
 omega
theorem mk_at {l : List Fn} (hl : Gv l) (hc : Y8 l = 0) : (∀ f∈mk0 l,Atl f)∧(∀ f∈mk1 l,Atl f)∧∀ f∈mk2 l,Atl f:=by
 obtain ⟨w0,w1,w2⟩:=mk_wg hl hc
 refine ⟨fun f hf=>?_,fun f hf=>?_,fun f hf=>?_⟩
 ·obtain ⟨k1,-,k3⟩:=Aw hl hc f hf
  have h:=(lv0 hl hc f hf).1
  exact ⟨k1,k3,by have:=w0 f hf;omega,h.lin,h.nd⟩
 ·obtain ⟨k1,-,k3⟩:=mk1_fits hl hc f hf
  have h:=lv1 hl hc f hf
  exact ⟨k1,k3,by have:=w1 f hf;omega,h.lin,h.nd⟩
 ·obtain ⟨h1,h2⟩:=lv2 hl hc f hf
  have hw:=w2 f hf
  unfold mk2 at hf
  obtain ⟨g,hg,rfl⟩:=List.mem_map.1 hf
  obtain ⟨k1,-,k3⟩:=mk1_fits hl hc g hg
  exact ⟨ru_ok _ _ _ k1,k3,hw,h1,h2⟩
end Go.Proofs.YtjpldhjgehoffaaDoor
namespace Go.Proofs.YtjpldhjgehoffaaDoor
open Go.RowKit
attribute [local simp] Cq mkRc ldOf stOf Qz4 Fq M4 Rq K7 V3 Yv K4 J7 Y9 L9 evA Kv G8 Value.oneCell' Zj Q4 Z7 Iz Vz Z0 AS.after Z8 K8 Jv AV.ids Mq Qz.ids Qj3 F9 Wv U9 G6 Y0 Y5 Kk V9 V7 Yz Ov T9 setAt Vj Cj Gq Pj R9 Pk binI AV.cells J9 Jz R8 U1 AV.kill Qz.kill AV.has AV.K9 Op.operands Call.operands Gj Hw Zv Oz Zz Xz Tk moQ M6 Uz Yw AV.ren Tj Qz.ren Qz.like kept X8 M5 AV.frz Pz Cw Ex H9 F3 AS.frz Mv Uw Qz.frz Rx Rj bleF Nat.ble_eq R4 Ww K3 D.Yx F5 Uv Vx Vq phO Px Gz Wx U0 K6 Low Sq
set_option linter.unusedVariables false
set_option linter.unusedSimpArgs false
def nmT (s : ByteArray) : Tm:=.mk 1 0 s .empty [] [] []
def drT (s : ByteArray) (t : Tm) : Tm:=.mk 9 0 s .empty [] [t] []
def fnT (t : Tm) : Fn:=⟨⟨#[102]⟩,[⟨#[120]⟩,⟨#[121]⟩],t⟩
theorem nmT_ok {s : ByteArray} (h : s.size≤10) : (nmT s).Ok:=⟨⟨by omega,by decide,by simp⟩,⟨by simp,by simp,by simp⟩,trivial,trivial⟩
theorem drT_ok {s : ByteArray} {t : Tm} (h : s.size≤10) (ht : t.Ok) : (drT s t).Ok:=⟨⟨by omega,by decide,by simp⟩,⟨by simp,by simp,by simp⟩,⟨ht,trivial⟩,trivial⟩
set_option maxRecDepth 20000 in
set_option maxHeartbeats 16000000 in
theorem sp_name7 (s : ByteArray) : Qw Tryd.prog 55 [.d (.str s)] (fun _=>Xw (nmT s)) none:=by
 unfold nmT
 refine Qw.of Tryd.func55 rfl rfl rfl (Nat.le_of_ble_eq_true rfl) ?_
 show AWp _ _ (Zk _ Tryd.f55 _ _ _) (Z7 5 _)
 refine AWp.rg [] [] ?_
 refine AWp.rg [] [] ?_
 refine AWp.ret ?_
 try dsimp only [Qq,Q8]
 apply Zk.ret
 ·rfl
 ·conv=>lhs;simp [Q9,Tryd.results55]
 first | rfl | simp [Z6]
set_option maxRecDepth 20000 in
set_option maxHeartbeats 16000000 in
theorem Qz6 (tk tn : Int) (ta tb : ByteArray) (tvs : List ByteArray) (txs : List Tm) (tcs : List Cs) : Qw Tryd.prog 53 [Xw (.mk tk tn ta tb tvs txs tcs)] (fun _=>W9 (fnT (.mk tk tn ta tb tvs txs tcs))) none:=by
 unfold fnT
 refine Qw.of Tryd.func53 rfl rfl rfl (Nat.le_of_ble_eq_true rfl) ?_
 show AWp _ _ (Zk _ Tryd.f53 _ _ _) (Z7 6 _)
 refine AWp.rg [] [] ?_ (hr:=by conv=>lhs;simp [Tm.row,Tm.Q3,Cs.Q3])
 refine AWp.rg [0] [] ?_ (hr:=by conv=>lhs;simp [Tm.row,Tm.Q3,Cs.Q3])
 refine AWp.ret ?_
 try dsimp only [Qq,Q8]
 apply Zk.ret
 ·rfl
 ·conv=>lhs;simp [Q9,Tryd.results53]
 first | rfl | simp [Z6,Q7,Zw]
set_option maxRecDepth 20000 in
set_option maxHeartbeats 16000000 in
theorem sp_alive72 (s : ByteArray) (tk tn : Int) (ta tb : ByteArray) (tvs : List ByteArray) (txs : List Tm) (tcs : List Cs) : Qw Tryd.prog 54 [.d (.str s),Xw (.mk tk tn ta tb tvs txs tcs)] (fun _=>Xw (drT s (.mk tk tn ta tb tvs txs tcs))) none:=by
 unfold drT
 refine Qw.of Tryd.func54 rfl rfl rfl (Nat.le_of_ble_eq_true rfl) ?_
 show AWp _ _ (Zk _ Tryd.f54 _ _ _) (Z7 9 _)
 refine AWp.rg [] [] ?_ (hr:=by conv=>lhs;simp [Tm.row,Tm.Q3,Cs.Q3])
 refine AWp.rg [2] [] ?_ (hr:=by conv=>lhs;simp [Tm.row,Tm.Q3,Cs.Q3])
 refine AWp.ret ?_
 try dsimp only [Qq,Q8]
 apply Zk.ret
 ·rfl
 ·conv=>lhs;simp [Q9,Tryd.results54]
 first | rfl | simp [Z6,AV.J3,U3,Xw,Q7,Tm.row,Tm.Q3,Cs.Q3]
theorem al_a : Fn.lin (fnT (drT ⟨#[121]⟩ (nmT ⟨#[120]⟩))) = 0:=by kernel_rfl
theorem al_b : Fn.lin (fnT (nmT ⟨#[120]⟩)) = 15:=by kernel_rfl
theorem al_c : Fn.lin (fnT (drT ⟨#[121]⟩ (drT ⟨#[120]⟩ (nmT ⟨#[120]⟩)))) = 16:=by kernel_rfl
theorem al_d : Fn.lin (fnT (nmT ⟨#[122]⟩)) = 6:=by kernel_rfl
set_option maxRecDepth 20000 in
set_option maxHeartbeats 16000000 in
theorem sp_alive7 : Qw Tryd.prog 24 [] (fun _=>.d (.bool true)) none:=by
 have hx:=sp_name7 ⟨#[120]⟩
 have hz:=sp_name7 ⟨#[122]⟩
 have h1 : Qw Tryd.prog 54 [.d (.str ⟨#[121]⟩),Xw (nmT ⟨#[120]⟩)] (fun _=>Xw (drT ⟨#[121]⟩ (nmT ⟨#[120]⟩))) none:=sp_alive72 _ _ _ _ _ _ _ _
 have h2 : Qw Tryd.prog 54 [.d (.str ⟨#[120]⟩),Xw (nmT ⟨#[120]⟩)] (fun _=>Xw (drT ⟨#[120]⟩ (nmT ⟨#[120]⟩))) none:=sp_alive72 _ _ _ _ _ _ _ _
 have h3 : Qw Tryd.prog 54 [.d (.str ⟨#[121]⟩),Xw (drT ⟨#[120]⟩ (nmT ⟨#[120]⟩))] (fun _=>Xw (drT ⟨#[121]⟩ (drT ⟨#[120]⟩ (nmT ⟨#[120]⟩)))) none:=sp_alive72 _ _ _ _ _ _ _ _
 have f1 : Qw Tryd.prog 53 [Xw (drT ⟨#[121]⟩ (nmT ⟨#[120]⟩))] (fun _=>W9 (fnT (drT ⟨#[121]⟩ (nmT ⟨#[120]⟩)))) none:=Qz6 _ _ _ _ _ _ _
 have f2 : Qw Tryd.prog 53 [Xw (nmT ⟨#[120]⟩)] (fun _=>W9 (fnT (nmT ⟨#[120]⟩))) none:=Qz6 _ _ _ _ _ _ _
 have f3 : Qw Tryd.prog 53 [Xw (drT ⟨#[121]⟩ (drT ⟨#[120]⟩ (nmT ⟨#[120]⟩)))] (fun _=>W9 (fnT (drT ⟨#[121]⟩ (drT ⟨#[120]⟩ (nmT ⟨#[120]⟩))))) none:=Qz6 _ _ _ _ _ _ _
 have f4 : Qw Tryd.prog 53 [Xw (nmT ⟨#[122]⟩)] (fun _=>W9 (fnT (nmT ⟨#[122]⟩))) none:=Qz6 _ _ _ _ _ _ _
 have k1 : (⟨#[120]⟩ : ByteArray).size≤10:=by decide
 have k2 : (⟨#[121]⟩ : ByteArray).size≤10:=by decide
 have k3 : (⟨#[122]⟩ : ByteArray).size≤10:=by decide
 have c1:=Tq (fnT (drT ⟨#[121]⟩ (nmT ⟨#[120]⟩))) (drT_ok k2 (nmT_ok k1)) (by decide) (by decide) (by decide)
 have c2:=Tq (fnT (nmT ⟨#[120]⟩)) (nmT_ok k1) (by decide) (by decide) (by decide)
 have c3:=Tq (fnT (drT ⟨#[121]⟩ (drT ⟨#[120]⟩ (nmT ⟨#[120]⟩)))) (drT_ok k2 (drT_ok k1 (nmT_ok k1))) (by decide) (by decide) (by decide)
 have c4:=Tq (fnT (nmT ⟨#[122]⟩)) (nmT_ok k3) (by decide) (by decide) (by decide)
 rw [al_a] at c1
 rw [al_b] at c2
 rw [al_c] at c3
 rw [al_d] at c4
 clear k1 k2 k3
 refine Qw.of Tryd.func24 rfl rfl rfl (Nat.le_of_ble_eq_true rfl) ?_
 show AWp _ _ (Zk _ Tryd.f24 _ _ _) (Z7 35 _)
 refine AWp.rg [] [] ?_
 refine AWp.rg [] [] ?_
 refine AWp.rg [] [] ?_
 repeat (first | refine AWp.seq ?_ | refine AWp.block ?_)
 apply AWp.reg [] [.p (fun _=>Xw (nmT ⟨#[120]⟩)) none,.p (fun _=>Xw (drT ⟨#[121]⟩ (nmT ⟨#[120]⟩))) none,.p (fun _=>W9 (fnT (drT ⟨#[121]⟩ (nmT ⟨#[120]⟩)))) none,.p (fun _=>.d (.int 0)) none,.p (fun _=>Xw (nmT ⟨#[120]⟩)) none,.p (fun _=>W9 (fnT (nmT ⟨#[120]⟩))) none,.p (fun _=>.d (.int 15)) none,.p (fun _=>Xw (nmT ⟨#[120]⟩)) none,.p (fun _=>Xw (drT ⟨#[120]⟩ (nmT ⟨#[120]⟩))) none,.p (fun _=>Xw (drT ⟨#[121]⟩ (drT ⟨#[120]⟩ (nmT ⟨#[120]⟩)))) none,.p (fun _=>W9 (fnT (drT ⟨#[121]⟩ (drT ⟨#[120]⟩ (nmT ⟨#[120]⟩))))) none,.p (fun _=>.d (.int 16)) none,.p (fun _=>Xw (nmT ⟨#[122]⟩)) none,.p (fun _=>W9 (fnT (nmT ⟨#[122]⟩))) none,.p (fun _=>.d (.int 6)) none]
 ·conv=>lhs;simp
 ·(repeat' apply And.intro) <;> first | assumption | trivial
 refine AWp.ret ?_
 try dsimp only [Qq,Q8]
 apply Zk.ret
 ·rfl
 ·conv=>lhs;simp [Q9,Tryd.results24]
 rfl
theorem map_at {F : Fn→Fn} {L : List Fn} {k : Nat} {g : Fn} (h : (L.map F)[k]? = some g) : ∃ u,L[k]? = some u∧F u = g:=by
 rw [List.getElem?_map] at h
 exact Option.map_eq_some_iff.1 h
theorem made_at (l : List Fn) (hl : Gv l) (hc : Y8 l = 0) (v : Int) (h0 : ¬ v < 0) (h2 : ¬ 2 < v) : ∃ M : List Fn,Qw Tryd.prog 10 [D7 l,.d (.int v)] (fun _=>D7 M) none∧M.length = l.length∧(∀ f∈M,Atl f)∧(∀ f∈M,Lf f)∧∀ (k : Nat) (f g : Fn),l[k]? = some f→M[k]? = some g→g.params = J5 f.params 0:=by
 obtain ⟨a0,a1,a2⟩:=mk_at hl hc
 have hp : ∀ (k : Nat) (f g : Fn),l[k]? = some f→(l.map fun f=>f.pl)[k]? = some g→g.params = J5 f.params 0:=fun k f g h1 h2=>by
  rw [List.getElem?_map,h1] at h2
  obtain rfl:=Option.some.inj h2
  rfl
 have e : v = 0∨v = 1∨v = 2:=by omega
 rcases e with rfl | rfl | rfl
 ·refine ⟨mk0 l,sp_Made0 l hl hc,by unfold mk0;simp,a0,lf0 hl hc,fun k f g h1 h2=>?_⟩
  obtain ⟨u,hu,rfl⟩:=map_at h2
  exact hp k f u h1 hu
 ·refine ⟨mk1 l,sp_Made1 l hl hc,by unfold mk1 mk0;simp,a1,lf1 hl hc,fun k f g h1 h2=>?_⟩
  obtain ⟨u,hu,rfl⟩:=map_at h2
  obtain ⟨u2,hu2,rfl⟩:=map_at hu
  exact hp k f u2 h1 hu2
 ·refine ⟨mk2 l,sp_Made2 l hl hc,by unfold mk2 mk1 mk0;simp,a2,lf2 hl hc,fun k f g h1 h2=>?_⟩
  obtain ⟨u,hu,rfl⟩:=map_at h2
  obtain ⟨u2,hu2,rfl⟩:=map_at hu
  obtain ⟨u3,hu3,rfl⟩:=map_at hu2
  exact hp k f u3 h1 hu3
end Go.Proofs.YtjpldhjgehoffaaDoor
