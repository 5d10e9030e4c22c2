import Derived.Test.YtjpldhjgehoffaaDoorLinF
import Derived.Test.YtjpldhjgehoffaaDoorCheckA
import Derived.Test.YtjpldhjgehoffaaDoorParseE
import Derived.Test.YtjpldhjgehoffaaDoorPlainW
import Derived.Test.YtjpldhjgehoffaaDoorFuseQ
import Derived.Test.YtjpldhjgehoffaaDoorShowP
import Derived.Lib.AtoiAllCases
import Derived.Lib.AtoiErrMem
import Derived.Test.YtjpldhjgehoffaaDoorCheckD
namespace Go.Proofs.YtjpldhjgehoffaaDoor
open Go.RowKit
attribute [local simp] Cq mkRc ldOf stOf Qz4 Fq M4 Rq K7 V3 Yv K4 J7 Y9 L9 evA Kv G8 Value.oneCell' Zj Q4 Z7 Iz Vz Z0 AS.after Z8 K8 Jv AV.ids Mq Qz.ids Qj3 F9 Wv U9 G6 Y0 Y5 Kk V9 V7 Yz Ov T9 setAt Vj Cj Gq Pj R9 Pk binI AV.cells J9 Jz R8 U1 AV.kill Qz.kill AV.has AV.K9 Op.operands Call.operands Gj Hw Zv Oz Zz Xz Tk moQ M6 Uz Yw AV.ren Tj Qz.ren Qz.like kept X8 M5 AV.frz Pz Cw Ex H9 F3 AS.frz Mv Uw Qz.frz Rx Rj bleF Nat.ble_eq R4 Ww K3 D.Yx F5 Uv Vx Vq phO Px Gz Wx U0 K6 Low Sq
set_option linter.unusedVariables false
set_option linter.unusedSimpArgs false
abbrev lsO : Qz:=.blk 109 [.mp 1001,.mp 1002,.mp 1003]
abbrev lcO (l : List (ByteArray×Int)) : Qz:=.map true false 1 (Qk l)
abbrev liO (l : List (ByteArray×ByteArray)) : Qz:=.map true false 1 (J4 l)
def LS.Bd (s : LS) (N : Int) : Prop:=∀ n,0≤s.c n∧s.c n≤N
theorem LS.Bd.at {s : LS} {N : Int} (h : s.Bd N) {n : ByteArray} {k : Int} (hk : lkA s.ct n = some k) : 0≤k∧k≤N:=by
 have:=h n
 unfold LS.c at this
 rwa [hk] at this
theorem LS.Bd.mono {s : LS} {N M : Int} (h : s.Bd N) (hm : N≤M) : s.Bd M:=fun n=>by have:=h n;omega
theorem LS.Bd.use {s : LS} {N : Int} (h : s.Bd N) (n : ByteArray) : (s.Yj n).2.Bd N:=by
 unfold LS.Yj
 split
 ·exact h
 ·rename_i k hk
  split
  ·exact h
  ·intro m
   have h1:=h m
   have h2:=h.at hk
   rw [LS.O4]
   split <;> omega
theorem LS.Bd.inc {s : LS} {N : Int} (h : s.Bd N) (n : ByteArray) : (s.inc n).Bd (N + 1):=fun m=>by
 have h1:=h m
 have h2:=h n
 unfold LS.inc
 rw [LS.O4]
 split <;> omega
theorem LS.Pv (c : List (ByteArray×Int)) (inn : List (ByteArray×ByteArray)) (tk : List (ByteArray×Int)) (n : ByteArray) : ∃ e c2,LS.Yj ⟨c,inn,tk⟩ n = (e,⟨c2,inn,tk⟩):=by
 unfold LS.Yj
 split
 ·exact ⟨_,_,rfl⟩
 ·split <;> exact ⟨_,_,rfl⟩
theorem LS.useE_tk (s : LS) (n : ByteArray) : (s.Yj n).2.tk = s.tk∧(s.Yj n).2.inn = s.inn:=by
 unfold LS.Yj
 split
 ·exact ⟨rfl,rfl⟩
 ·split <;> exact ⟨rfl,rfl⟩
set_option maxRecDepth 20000 in
set_option maxHeartbeats 16000000 in
theorem cs_luse (s : LS) (n : ByteArray) (hB : s.Bd 4611686018427387904) : X3 Tryd.prog 89 [.ptr 1000 0,.d (.str n)] [(1000,lsO),(1001,lcO s.ct),(1002,liO s.inn),(1003,lcO s.tk)] (.d (.int (s.Yj n).1)) [(1000,lsO),(1001,lcO (s.Yj n).2.ct),(1002,liO (s.Yj n).2.inn),(1003,lcO (s.Yj n).2.tk)]:=by
 obtain ⟨ct,inn,tk⟩:=s
 cases hk : lkA ct n with
 | none =>
  have hkg : D.Xk (.str n) (Qk ct) = none:=by rw [X4,hk];rfl
  rw [show LS.Yj ⟨ct,inn,tk⟩ n = (6,⟨ct,inn,tk⟩) by unfold LS.Yj;rw [hk]]
  refine X3.of Tryd.func89 rfl rfl (Nat.le_of_ble_eq_true rfl) ?_
  show AWp _ _ (Qv _ Tryd.f89 _ _) (X8 29 _ _)
  refine AWp.rg [] [] ?_ (hr:=by conv=>lhs;simp [Q5,hkg])
  refine AWp.rg [] [] ?_ (hr:=by conv=>lhs;simp [Q5,hkg])
  refine AWp.rg [] [] ?_ (hr:=by conv=>lhs;simp [Q5,hkg])
  refine AWp.cy ?_
  refine AWp.rg [] [] ?_ (hr:=by conv=>lhs;simp [Q5,hkg])
  refine AWp.ret ?_
  try dsimp only [Qq,Q8]
  apply Qv.ret
  ·rfl
  ·conv=>lhs;simp [Q9,Tryd.results89]
  ·first | rfl | simp
  ·simp [Qj,Q4]
 | some k =>
  have hkg : D.Xk (.str n) (Qk ct) = some [.int k]:=by rw [X4,hk];rfl
  have hkb:=hB.at hk
  by_cases h1 : k < 1
  ·rw [show LS.Yj ⟨ct,inn,tk⟩ n = (16,⟨ct,inn,tk⟩) by unfold LS.Yj;rw [hk];exact if_pos h1]
   refine X3.of Tryd.func89 rfl rfl (Nat.le_of_ble_eq_true rfl) ?_
   show AWp _ _ (Qv _ Tryd.f89 _ _) (X8 29 _ _)
   refine AWp.rg [] [] ?_ (hr:=by conv=>lhs;simp [Q5,hkg,h1])
   refine AWp.rg [] [] ?_ (hr:=by conv=>lhs;simp [Q5,hkg,h1])
   refine AWp.rg [] [] ?_ (hr:=by conv=>lhs;simp [Q5,hkg,h1])
   refine AWp.cn ?_
   refine AWp.rg [] [] ?_ (hr:=by conv=>lhs;simp [Q5,hkg,h1])
   refine AWp.cy ?_
   refine AWp.rg [] [] ?_ (hr:=by conv=>lhs;simp [Q5,hkg,h1])
   refine AWp.ret ?_
   try dsimp only [Qq,Q8]
   apply Qv.ret
   ·rfl
   ·conv=>lhs;simp [Q9,Tryd.results89]
   ·first | rfl | simp
   ·simp [Qj,Q4]
  rw [show LS.Yj ⟨ct,inn,tk⟩ n = (0,⟨X5 ct n (k - 1),inn,tk⟩) by unfold LS.Yj;rw [hk];exact if_neg h1]
  refine X3.of Tryd.func89 rfl rfl (Nat.le_of_ble_eq_true rfl) ?_
  show AWp _ _ (Qv _ Tryd.f89 _ _) (X8 29 _ _)
  refine AWp.rg [] [] ?_ (hr:=by conv=>lhs;simp [Q5,hkg,h1])
  refine AWp.rg [] [] ?_ (hr:=by conv=>lhs;simp [Q5,hkg,h1])
  refine AWp.rg [] [] ?_ (hr:=by conv=>lhs;simp [Q5,hkg,h1])
  refine AWp.cn ?_
  refine AWp.rg [] [] ?_ (hr:=by conv=>lhs;simp [Q5,hkg,h1])
  refine AWp.cn ?_
  refine AWp.skip ?_
  refine AWp.rg [] [] ?_ (hr:=by conv=>lhs;simp [Q5,hkg,h1])
  refine AWp.rg [] [] ?_ (hr:=by conv=>lhs;simp [Q5,hkg,h1])
  refine AWp.ret ?_
  try dsimp only [Qq,Q8]
  apply Qv.ret
  ·rfl
  ·conv=>lhs;simp [Q9,Tryd.results89]
  ·first | rfl | simp
  ·simp [Qj,Q4]
set_option maxRecDepth 20000 in
set_option maxHeartbeats 16000000 in
theorem cs_lthere (s : LS) (n : ByteArray) (hB : s.Bd 4611686018427387904) : X3 Tryd.prog 124 [.ptr 1000 0,.d (.str n)] [(1000,lsO),(1001,lcO s.ct),(1002,liO s.inn),(1003,lcO s.tk)] (.d (.bool (s.there n))) [(1000,lsO),(1001,lcO s.ct),(1002,liO s.inn),(1003,lcO s.tk)]:=by
 obtain ⟨ct,inn,tk⟩:=s
 obtain ⟨R,hR⟩ : ∃ R,R = LS.there ⟨ct,inn,tk⟩ n:=⟨_,rfl⟩
 rw [← hR]
 refine X3.of Tryd.func124 rfl rfl (Nat.le_of_ble_eq_true rfl) ?_
 show AWp _ _ (Qv _ Tryd.f124 _ _) (X8 33 _ _)
 refine AWp.rg [] [] ?_
 cases hk : lkA ct n with
 | none =>
  have hkg : D.Xk (.str n) (Qk ct) = none:=by rw [X4,hk];rfl
  refine AWp.rg [] [] ?_ (hr:=by conv=>lhs;simp [hkg])
  refine AWp.cn ?_
  refine AWp.skip ?_
  cases hi : lkA inn n with
  | none =>
   have hig : D.Xk (.str n) (J4 inn) = none:=by rw [Ev,hi];rfl
   refine AWp.rg [] [] ?_ (hr:=by conv=>lhs;simp [hkg,hig])
   refine AWp.rg [] [] ?_ (hr:=by conv=>lhs;simp [hkg,hig])
   refine AWp.ret ?_
   obtain rfl : R = false:=by rw [hR];simp [LS.there,LS.c,hk,hi]
   try dsimp only [Qq,Q8]
   apply Qv.ret
   ·rfl
   ·conv=>lhs;simp [Q9,Tryd.results124]
   ·first | rfl | simp
   ·simp [Qj,Q4]
  | some up =>
   have hig : D.Xk (.str n) (J4 inn) = some [.str up]:=by rw [Ev,hi];rfl
   cases hu : lkA ct up with
   | none =>
    have hug : D.Xk (.str up) (Qk ct) = none:=by rw [X4,hu];rfl
    refine AWp.rg [] [] ?_ (hr:=by conv=>lhs;simp [hkg,hig,hug])
    refine AWp.rg [] [] ?_ (hr:=by conv=>lhs;simp [hkg,hig,hug])
    refine AWp.ret ?_
    obtain rfl : R = false:=by rw [hR];simp [LS.there,LS.c,hk,hi,hu]
    try dsimp only [Qq,Q8]
    apply Qv.ret
    ·rfl
    ·conv=>lhs;simp [Q9,Tryd.results124]
    ·first | rfl | simp
    ·simp [Qj,Q4]
   | some u =>
    have hug : D.Xk (.str up) (Qk ct) = some [.int u]:=by rw [X4,hu];rfl
    have hub:=hB.at hu
    refine AWp.rg [] [] ?_ (hr:=by conv=>lhs;simp [hkg,hig,hug])
    refine AWp.rg [] [] ?_ (hr:=by conv=>lhs;simp [hkg,hig,hug])
    refine AWp.ret ?_
    obtain rfl : R = (decide (0 < u)):=by rw [hR];simp [LS.there,LS.c,hk,hi,hu]
    try dsimp only [Qq,Q8]
    apply Qv.ret
    ·rfl
    ·conv=>lhs;simp [Q9,Tryd.results124]
    ·first | rfl | simp
    ·simp [Qj,Q4]
 | some k =>
  have hkg : D.Xk (.str n) (Qk ct) = some [.int k]:=by rw [X4,hk];rfl
  have hkb:=hB.at hk
  by_cases q1 : 0 < k
  ·refine AWp.rg [] [] ?_ (hr:=by conv=>lhs;simp [hkg,q1])
   refine AWp.cy ?_
   refine AWp.rg [] [] ?_ (hr:=by conv=>lhs;simp [hkg,q1])
   refine AWp.ret ?_
   obtain rfl : R = true:=by rw [hR];simp [LS.there,LS.c,hk,q1]
   try dsimp only [Qq,Q8]
   apply Qv.ret
   ·rfl
   ·conv=>lhs;simp [Q9,Tryd.results124]
   ·first | rfl | simp
   ·simp [Qj,Q4]
  refine AWp.rg [] [] ?_ (hr:=by conv=>lhs;simp [hkg,q1])
  refine AWp.cn ?_
  refine AWp.skip ?_
  cases hi : lkA inn n with
  | none =>
   have hig : D.Xk (.str n) (J4 inn) = none:=by rw [Ev,hi];rfl
   refine AWp.rg [] [] ?_ (hr:=by conv=>lhs;simp [hkg,hig,q1])
   refine AWp.rg [] [] ?_ (hr:=by conv=>lhs;simp [hkg,hig,q1])
   refine AWp.ret ?_
   obtain rfl : R = false:=by rw [hR];simp [LS.there,LS.c,hk,hi,q1]
   try dsimp only [Qq,Q8]
   apply Qv.ret
   ·rfl
   ·conv=>lhs;simp [Q9,Tryd.results124]
   ·first | rfl | simp
   ·simp [Qj,Q4]
  | some up =>
   have hig : D.Xk (.str n) (J4 inn) = some [.str up]:=by rw [Ev,hi];rfl
   cases hu : lkA ct up with
   | none =>
    have hug : D.Xk (.str up) (Qk ct) = none:=by rw [X4,hu];rfl
    refine AWp.rg [] [] ?_ (hr:=by conv=>lhs;simp [hkg,hig,hug,q1])
    refine AWp.rg [] [] ?_ (hr:=by conv=>lhs;simp [hkg,hig,hug,q1])
    refine AWp.ret ?_
    obtain rfl : R = false:=by rw [hR];simp [LS.there,LS.c,hk,hi,hu,q1]
    try dsimp only [Qq,Q8]
    apply Qv.ret
    ·rfl
    ·conv=>lhs;simp [Q9,Tryd.results124]
    ·first | rfl | simp
    ·simp [Qj,Q4]
   | some u =>
    have hug : D.Xk (.str up) (Qk ct) = some [.int u]:=by rw [X4,hu];rfl
    have hub:=hB.at hu
    refine AWp.rg [] [] ?_ (hr:=by conv=>lhs;simp [hkg,hig,hug,q1])
    refine AWp.rg [] [] ?_ (hr:=by conv=>lhs;simp [hkg,hig,hug,q1])
    refine AWp.ret ?_
    obtain rfl : R = (decide (0 < u)):=by rw [hR];simp [LS.there,LS.c,hk,hi,hu,q1]
    try dsimp only [Qq,Q8]
    apply Qv.ret
    ·rfl
    ·conv=>lhs;simp [Q9,Tryd.results124]
    ·first | rfl | simp
    ·simp [Qj,Q4]
set_option maxRecDepth 20000 in
set_option maxHeartbeats 16000000 in
theorem cs_lown (s : LS) : X3 Tryd.prog 123 [.ptr 1000 0] [(1000,lsO),(1001,lcO s.ct),(1002,liO s.inn),(1003,lcO s.tk),(500,.arr 0 1 []),(501,.arr 0 1 []),(502,.arr 0 1 []),(503,.arr 0 1 [])] (.ptr 500 0)
  [(1000,lsO),(1001,lcO s.ct),(1002,liO s.inn),(1003,lcO s.tk),(500,.blk 109 [.mp 501,.mp 502,.mp 503]),(501,lcO s.ct),(502,liO s.inn),(503,lcO s.tk)]:=by
 obtain ⟨ct,inn,tk⟩:=s
 have h1:=cs_CloneI (Qk ct)
 have h2:=cs_CloneS (J4 inn)
 have h3:=cs_CloneI (Qk tk)
 refine X3.of Tryd.func123 rfl rfl (Nat.le_of_ble_eq_true rfl) ?_
 show AWp _ _ (Qv _ Tryd.f123 _ _) (X8 20 _ _)
 refine AWp.rg [] [] ?_
 refine AWp.dw [] [.n [(1000,1001),(500,401)] [.mp 1000] [(1000,.map true false 1 (Qk ct))] (.mp 500) [(1000,.map true false 1 (Qk ct)),(500,.map true false 1 (Qk ct))] [500],.n [(1000,1002),(500,402)] [.mp 1000] [(1000,.map true false 1 (J4 inn))] (.mp 500) [(1000,.map true false 1 (J4 inn)),(500,.map true false 1 (J4 inn))] [500],.n [(1000,1003),(500,403)] [.mp 1000] [(1000,.map true false 1 (Qk tk))] (.mp 500) [(1000,.map true false 1 (Qk tk)),(500,.map true false 1 (Qk tk))] [500]] mixed ?_
 refine AWp.ret ?_
 try dsimp only [Qq,Q8]
 apply Qv.le (Le.keep _ [2] [19,401,402,403,1000,1001,1002,1003])
 apply Qv.le (Le.give _ 19 500 rfl rfl rfl)
 apply Qv.le (Le.give _ 401 501 rfl rfl rfl)
 apply Qv.le (Le.give _ 402 502 rfl rfl rfl)
 apply Qv.le (Le.give _ 403 503 rfl rfl rfl)
 try dsimp only [Qq,Q8]
 apply Qv.ret
 ·rfl
 ·conv=>lhs;simp [Q9,Tryd.results123,AS.swap,swN,Gj,Hw]
 ·rfl
 ·simp [Qj,Q4,AS.swap,swN,Gj,Hw]
set_option maxRecDepth 20000 in
set_option maxHeartbeats 16000000 in
theorem cs_lleft (s : LS) (hT : s.tk.length≤4611686018427387904) : X3 Tryd.prog 120 [.ptr 500 0] [(500,.blk 109 [.mp 501,.mp 502,.mp 503]),(501,lcO s.ct),(502,liO s.inn),(503,lcO s.tk)] (.d (.bool s.left)) []:=by
 obtain ⟨ct,inn,tk⟩:=s
 obtain ⟨R,hR⟩ : ∃ R,R = LS.left ⟨ct,inn,tk⟩:=⟨_,rfl⟩
 rw [← hR]
 dsimp only at hT
 have hmt : Tryd.prog.underlying 38 = some (.map 9 3):=by kernel_rfl
 refine X3.of Tryd.func120 rfl rfl (Nat.le_of_ble_eq_true rfl) ?_
 show AWp _ _ (Qv _ Tryd.f120 _ _) (X8 22 _ _)
 refine AWp.rg [] [] ?_
 repeat (first | refine AWp.seq ?_ | refine AWp.block ?_)
 refine AWp.U6 501 rfl fun b1 ck1 be1 hp1 hn1=>?_
 refine AWp.ops ?_
 apply U8.run (l1:=[_,_,_,_]) (l2:=[_]) (k:=0) [] []
 ·conv=>lhs;simp
 ·(repeat' apply And.intro) <;> first | omega | assumption | trivial | (intros;subst_vars;rfl) | (intro i r h;rcases i with _ | i <;> simp at h;subst h;rfl) | (simp [inI,maxLen];done) | (simp [inI,maxLen];omega)
 refine U8.range rfl rfl rfl (Nat.le_of_ble_eq_true rfl) rfl (i:=501) rfl rfl hmt ?_
 refine U8.nil ?_
 repeat (first | refine AWp.seq ?_ | refine AWp.block ?_)
 refine AWp.loop (σ:=fun u : {u : List Nat // ∀ p∈be1,p.1∈u→∀ n k,p.2 = (.str n,[.int k])→k≤0}=>⟨22,[(0,.ptr 500 0),(9,.ptr 9 0)],[(500,some (.blk 109 [.mp 501,.mp 502,.mp 503])),(501,some (.raw (.U6 b1 true false 1 ck1 be1))),(502,some (liO inn)),(503,some (lcO tk)),(9,some (.raw (.iter b1 ck1 u.1)))]⟩)
  (μ:=fun u=>unseen be1 u.1) ⟨[],by simp⟩ (Le.sub (by simp) (by simp)) (fun ⟨seen,hs⟩=>?_)
 dsimp only
 repeat (first | refine AWp.seq ?_ | refine AWp.block ?_)
 refine AWp.ops ?_
 refine U8.next (i:=9) (j:=501) rfl rfl rfl (Nat.le_of_ble_eq_true rfl) rfl rfl rfl (fun hall=>?_) (fun p hp hns=>?_)
 rotate_left
 ·obtain ⟨q,hq,hqe⟩:=List.mem_map.1 (hp1.mem_iff.1 (List.mem_map.2 ⟨p,hp,rfl⟩))
  have hmu:=unseen_lt hp hns
  obtain ⟨k,key,row⟩:=p
  obtain ⟨nm,v⟩:=q
  dsimp only at hqe
  obtain ⟨rfl,rfl⟩:=Prod.mk.inj hqe
  apply U8.run (l1:=[_]) (l2:=[]) (k:=0) [] []
  ·conv=>lhs;simp
  ·(repeat' apply And.intro) <;> first | omega | assumption | trivial | (intros;subst_vars;rfl) | (intro i r h;rcases i with _ | i <;> simp at h;subst h;rfl) | (simp [inI,maxLen];done) | (simp [inI,maxLen];omega)
  refine U8.nil ?_
  refine AWp.cy ?_
  refine AWp.skip ?_
  repeat (first | refine AWp.seq ?_ | refine AWp.block ?_)
  refine AWp.ops ?_
  refine U8.entry (i:=9) (j:=501) rfl rfl rfl (Nat.le_of_ble_eq_true rfl) rfl rfl rfl hp ?_
  apply U8.run (l1:=[_,_]) (l2:=[]) (k:=0) [] []
  ·conv=>lhs;simp
  ·(repeat' apply And.intro) <;> first | omega | assumption | trivial | (intros;subst_vars;rfl) | (intro i r h;rcases i with _ | i <;> simp at h;subst h;rfl) | (simp [inI,maxLen];done) | (simp [inI,maxLen];omega)
  refine U8.nil ?_
  by_cases h0 : 0 < v
  ·have hR1 : R = true:=by
    rw [hR];unfold LS.left
    have : ct.any (fun p=>decide (0 < p.2)) = true:=List.any_eq_true.2 ⟨_,hq,by simpa using h0⟩
    rw [this];rfl
   rw [hR1]
   refine AWp.rg [] [] ?_ (hr:=by conv=>lhs;simp [h0])
   refine AWp.cy ?_
   refine AWp.rg [] [] ?_
   refine AWp.ret ?_
   try dsimp only [Qq,Q8]
   apply Qv.ret
   ·rfl
   ·conv=>lhs;simp [Q9,Tryd.results120]
   ·rfl
   ·simp [Qj,Q4]
  refine AWp.rg [] [] ?_ (hr:=by conv=>lhs;simp [h0])
  refine AWp.cn ?_
  refine AWp.skip ?_
  refine ⟨⟨seen ++ [k],fun p hp' hps n z hpz=>?_⟩,hmu,?_⟩
  ·rcases List.mem_append.1 hps with hps | hps
   ·exact hs p hp' hps n z hpz
   ·rw [List.mem_singleton] at hps
    obtain ⟨i1,hi1⟩:=List.mem_iff_getElem?.1 hp'
    obtain ⟨i2,hi2⟩:=List.mem_iff_getElem?.1 hp
    have e1 : (be1.map (·.1))[i1]? = some k:=by rw [List.getElem?_map,hi1];simp [hps]
    have e2 : (be1.map (·.1))[i2]? = some k:=by rw [List.getElem?_map,hi2];rfl
    have e3 : i1 = i2:=(List.getElem?_inj (List.getElem?_eq_some_iff.1 e1).1 hn1).1 (e1.trans e2.symm)
    rw [e3,hi2] at hi1
    have e4:=Option.some.inj hi1
    rw [← e4] at hpz
    simp only [Prod.mk.injEq,D.str.injEq,List.cons.injEq,D.int.injEq,and_true] at hpz
    omega
  ·dsimp only
   exact Le.sub (by simp) (by simp)
 apply U8.run (l1:=[_]) (l2:=[]) (k:=0) [] []
 ·conv=>lhs;simp
 ·(repeat' apply And.intro) <;> first | omega | assumption | trivial | (intros;subst_vars;rfl) | (intro i r h;rcases i with _ | i <;> simp at h;subst h;rfl) | (simp [inI,maxLen];done) | (simp [inI,maxLen];omega)
 refine U8.nil ?_
 refine AWp.cn ?_
 refine AWp.exit ?_
 have hR1 : R = decide (0 < (Qk tk).length):=by
  have h1 : ct.any (fun p=>decide (0 < p.2)) = false:=by
   rw [List.any_eq_false]
   intro q hq
   obtain ⟨p,hp,hpe⟩:=List.mem_map.1 (hp1.mem_iff.2 (List.mem_map.2 ⟨q,hq,rfl⟩))
   have:=hs p hp (hall p hp) q.1 q.2 hpe
   simp;omega
  rw [hR];unfold LS.left Qk
  rw [h1]
  cases tk with
  | nil=>rfl
  | cons a r=>simp
 rw [hR1]
 repeat (first | refine AWp.seq ?_ | refine AWp.block ?_)
 apply AWp.reg [] []
 ·conv=>lhs;simp
 ·first | trivial | (unfold Qk;simp [inI];omega)
 refine AWp.ret ?_
 try dsimp only [Qq,Q8]
 apply Qv.ret
 ·rfl
 ·conv=>lhs;simp [Q9,Tryd.results120]
 ·rfl
 ·simp [Qj,Q4]
set_option maxRecDepth 20000 in
set_option maxHeartbeats 16000000 in
theorem cs_lend (s : LS) (e : Int) (hT : s.tk.length≤4611686018427387904) : X3 Tryd.prog 88 [.ptr 500 0,.d (.int e)] [(500,.blk 109 [.mp 501,.mp 502,.mp 503]),(501,lcO s.ct),(502,liO s.inn),(503,lcO s.tk)] (.d (.int (s.Nj e))) []:=by
 have hle:=cs_lleft s hT
 obtain ⟨R,hR⟩ : ∃ R,R = s.Nj e:=⟨_,rfl⟩
 rw [← hR]
 obtain ⟨q,hq⟩ : ∃ q,q = s.left:=⟨_,rfl⟩
 rw [← hq] at hle
 replace hq:=hq.symm
 obtain ⟨ct,inn,tk⟩:=s
 refine X3.of Tryd.func88 rfl rfl (Nat.le_of_ble_eq_true rfl) ?_
 show AWp _ _ (Qv _ Tryd.f88 _ _) (X8 12 _ _)
 refine AWp.rg [] [] ?_
 by_cases he : e = 0
 ·subst he
  cases q with
  | true =>
   refine AWp.rg [] [.c [] [.ptr 500 0] [(500,.blk 109 [.mp 501,.mp 502,.mp 503]),(501,.map true false 1 (Qk ct)),(502,.map true false 1 (J4 inn)),(503,.map true false 1 (Qk tk))] (.d (.bool true)) []] ?_
   refine AWp.cy ?_
   refine AWp.rg [] [] ?_
   refine AWp.ret ?_
   obtain rfl : R = 15:=by rw [hR];simp [LS.Nj,hq]
   try dsimp only [Qq,Q8]
   apply Qv.ret
   ·rfl
   ·conv=>lhs;simp [Q9,Tryd.results88]
   ·first | rfl | simp
   ·simp [Qj,Q4]
  | false =>
   refine AWp.rg [] [.c [] [.ptr 500 0] [(500,.blk 109 [.mp 501,.mp 502,.mp 503]),(501,.map true false 1 (Qk ct)),(502,.map true false 1 (J4 inn)),(503,.map true false 1 (Qk tk))] (.d (.bool false)) []] ?_
   refine AWp.cn ?_
   refine AWp.skip ?_
   refine AWp.rg [] [] ?_
   refine AWp.ret ?_
   obtain rfl : R = 0:=by rw [hR];simp [LS.Nj,hq]
   try dsimp only [Qq,Q8]
   apply Qv.ret
   ·rfl
   ·conv=>lhs;simp [Q9,Tryd.results88]
   ·first | rfl | simp
   ·simp [Qj,Q4]
 refine AWp.rg [] [] ?_ (hr:=by conv=>lhs;simp [he])
 refine AWp.cn ?_
 refine AWp.skip ?_
 refine AWp.rg [] [] ?_ (hr:=by conv=>lhs;simp [he])
 refine AWp.ret ?_
 obtain rfl : R = e:=by rw [hR];simp [LS.Nj,he]
 try dsimp only [Qq,Q8]
 apply Qv.ret
 ·rfl
 ·conv=>lhs;simp [Q9,Tryd.results88]
 ·first | rfl | simp
 ·simp [Qj,Q4]
set_option maxRecDepth 20000 in
set_option maxHeartbeats 16000000 in
theorem cs_lall (s : LS) (xs : List Tm) (hl : xs.length≤1172812402961) (hB : s.Bd 4611686018427387904) : X3 Tryd.prog 90 [.ptr 1000 0,.d (.sl (xs.map Tm.row))] [(1000,lsO),(1001,lcO s.ct),(1002,liO s.inn),(1003,lcO s.tk)] (.d (.int (s.Vv xs).1)) [(1000,lsO),(1001,lcO (s.Vv xs).2.ct),(1002,liO (s.Vv xs).2.inn),(1003,lcO (s.Vv xs).2.tk)]:=by
 obtain ⟨ct,inn,tk⟩:=s
 obtain ⟨R,hR⟩ : ∃ R,R = LS.Vv ⟨ct,inn,tk⟩ xs:=⟨_,rfl⟩
 rw [← hR]
 refine X3.of Tryd.func90 rfl rfl (Nat.le_of_ble_eq_true rfl) ?_
 show AWp _ _ (Qv _ Tryd.f90 _ _) (X8 25 _ _)
 refine AWp.rg [] [] ?_
 refine AWp.rg [] [] ?_
 repeat (first | refine AWp.seq ?_ | refine AWp.block ?_)
 refine AWp.loop (σ:=fun u : {u : Nat×List (ByteArray×Int) // u.1≤xs.length∧(R = LS.Vv ⟨u.2,inn,tk⟩ (xs.drop u.1)∧LS.Bd ⟨u.2,inn,tk⟩ 4611686018427387904)}=>⟨25,[(0,.ptr 1000 0),(8,.d (.sl (xs.map Tm.row))),(9,.d (.int (xs.length : Int))),(10,.d (.int (u.1.1 : Int)))],[(1000,some (.blk 109 [.mp 1001,.mp 1002,.mp 1003])),(1001,some (.map true false 1 (Qk u.1.2))),(1002,some (.map true false 1 (J4 inn))),(1003,some (.map true false 1 (Qk tk)))]⟩)
  (μ:=fun u=>xs.length - u.1.1) ⟨(0,ct),⟨Nat.zero_le _,⟨by rw [hR];rfl,hB⟩⟩⟩ (Le.sub (by simp) (by simp)) (fun ⟨(i,c),⟨hi2,hw⟩⟩=>?_)
 dsimp only at hi2 hw ⊢
 refine AWp.rg [] [] ?_
 repeat (first | refine AWp.seq ?_ | refine AWp.block ?_)
 refine AWp.cond rfl (fun hc=>?_) (fun hc=>?_)
 ·have hi1 : i < xs.length:=by have:=of_decide_eq_true hc;omega
  clear hc
  have h1y : xs[i]? = some xs[i]:=List.getElem?_eq_getElem hi1
  have hmy : xs[i]∈xs:=List.getElem_mem hi1
  have hdy : xs.drop i = xs[i] :: xs.drop (i + 1):=List.drop_eq_getElem_cons hi1
  generalize xs[i] = y at h1y hmy hdy
  obtain ⟨yk,yn,ya,yb,yvs,yxs,ycs⟩:=y
  obtain ⟨hw,hcb⟩:=hw
  rw [hdy,LS.Vv] at hw
  change R = if yk≠1 then (2,(⟨c,inn,tk⟩ : LS)) else if (LS.Yj ⟨c,inn,tk⟩ ya).1≠0 then LS.Yj ⟨c,inn,tk⟩ ya else (LS.Yj ⟨c,inn,tk⟩ ya).2.Vv (xs.drop (i + 1)) at hw
  have hu:=cs_luse ⟨c,inn,tk⟩ ya hcb
  have hcb2:=hcb.use ya
  obtain ⟨e,c2,hue⟩ : ∃ e c2,LS.Yj ⟨c,inn,tk⟩ ya = (e,⟨c2,inn,tk⟩):=by
   exact LS.Pv c inn tk ya
  rw [hue] at hu hw hcb2
  dsimp only at hu hw hcb2
  refine AWp.skip ?_
  refine AWp.rg [] [] ?_ (hr:=by conv=>lhs;simp [h1y,Tm.row,Tm.Q3,Cs.Q3])
  by_cases q1 : yk = 1
  ·refine AWp.rg [] [] ?_ (hr:=by conv=>lhs;simp [h1y,Tm.row,Tm.Q3,Cs.Q3,q1])
   refine AWp.cn ?_
   refine AWp.skip ?_
   refine AWp.rg [] [.c [] [.ptr 1000 0,.d (.str ya)] [(1000,.blk 109 [.mp 1001,.mp 1002,.mp 1003]),(1001,.map true false 1 (Qk c)),(1002,.map true false 1 (J4 inn)),(1003,.map true false 1 (Qk tk))] (.d (.int e)) [(1000,.blk 109 [.mp 1001,.mp 1002,.mp 1003]),(1001,.map true false 1 (Qk c2)),(1002,.map true false 1 (J4 inn)),(1003,.map true false 1 (Qk tk))]] ?_ (hr:=by conv=>lhs;simp [h1y,Tm.row,Tm.Q3,Cs.Q3,q1])
   by_cases q2 : e = 0
   ·refine AWp.rg [] [] ?_ (hr:=by conv=>lhs;simp [h1y,Tm.row,Tm.Q3,Cs.Q3,q1,q2])
    refine AWp.cn ?_
    refine AWp.skip ?_
    refine AWp.rg [] [] ?_ (hr:=by conv=>lhs;simp [h1y,Tm.row,Tm.Q3,Cs.Q3,q1,q2])
    rw [if_neg (fun h=>h q1),if_neg (fun h=>h q2)] at hw
    refine ⟨⟨(i + 1,c2),hi1,⟨hw,hcb2⟩⟩,by simp;omega,?_⟩
    dsimp only
    exact Le.sub (by simp) (by simp)
   refine AWp.rg [] [] ?_ (hr:=by conv=>lhs;simp [h1y,Tm.row,Tm.Q3,Cs.Q3,q1,q2])
   refine AWp.cy ?_
   refine AWp.rg [] [] ?_ (hr:=by conv=>lhs;simp [h1y,Tm.row,Tm.Q3,Cs.Q3,q1,q2])
   refine AWp.ret ?_
   rw [if_neg (fun h=>h q1),if_pos q2] at hw
   rw [hw]
   try dsimp only [Qq,Q8]
   apply Qv.ret
   ·rfl
   ·conv=>lhs;simp [Q9,Tryd.results90]
   ·first | rfl | simp
   ·simp [Qj,Q4]
  refine AWp.rg [] [] ?_ (hr:=by conv=>lhs;simp [h1y,Tm.row,Tm.Q3,Cs.Q3,q1])
  refine AWp.cy ?_
  refine AWp.rg [] [] ?_ (hr:=by conv=>lhs;simp [h1y,Tm.row,Tm.Q3,Cs.Q3,q1])
  refine AWp.ret ?_
  rw [if_pos q1] at hw
  rw [hw]
  try dsimp only [Qq,Q8]
  apply Qv.ret
  ·rfl
  ·conv=>lhs;simp [Q9,Tryd.results90]
  ·first | rfl | simp
  ·simp [Qj,Q4]
 have hi1 : i = xs.length:=by have:=of_decide_eq_false hc;omega
 subst hi1
 clear hc
 rw [List.drop_length] at hw
 obtain ⟨hw,-⟩:=hw
 refine AWp.exit ?_
 refine AWp.rg [] [] ?_
 refine AWp.ret ?_
 rw [LS.Vv] at hw
 rw [hw]
 try dsimp only [Qq,Q8]
 apply Qv.ret
 ·rfl
 ·conv=>lhs;simp [Q9,Tryd.results90]
 ·first | rfl | simp
 ·simp [Qj,Q4]
theorem LS.openE_nil (s : LS) (nm : ByteArray) : s.Xv nm [] = s.Yj nm:=by
 unfold LS.Xv LS.Kj
 rw [if_neg (by simp)]
theorem LS.openE_cons (s : LS) (nm v : ByteArray) (r : List ByteArray) : s.Xv nm (v :: r) = if (lkA s.inn v).getD .empty≠nm then (2,s) else (s.inc v).Xv nm r:=by
 unfold LS.Xv
 rw [LS.Kj]
 by_cases h : (lkA s.inn v).getD .empty≠nm
 ·rw [if_pos h,if_pos h];rfl
 ·rw [if_neg h,if_neg h]
set_option maxRecDepth 20000 in
set_option maxHeartbeats 16000000 in
theorem cs_lopen (s : LS) (tk tn : Int) (ta tb : ByteArray) (tvs : List ByteArray) (txs : List Tm) (tcs : List Cs) (N : Int) (hl : tvs.length≤8796093022208) (hB : s.Bd N) (hN : N + tvs.length≤4611686018427387904) : X3 Tryd.prog 125 [.ptr 1000 0,.d (.ptr [.int tk,.int tn,.str ta,.str tb,Q7 tvs,.sl (txs.map Tm.row),.sl (tcs.map Cs.row)])] [(1000,lsO),(1001,lcO s.ct),(1002,liO s.inn),(1003,lcO s.tk)] (.d (.int (s.Xv ta tvs).1)) [(1000,lsO),(1001,lcO (s.Xv ta tvs).2.ct),(1002,liO (s.Xv ta tvs).2.inn),(1003,lcO (s.Xv ta tvs).2.tk)]:=by
 obtain ⟨ct,inn,tok⟩:=s
 obtain ⟨R,hR⟩ : ∃ R,R = LS.Xv ⟨ct,inn,tok⟩ ta tvs:=⟨_,rfl⟩
 rw [← hR]
 refine X3.of Tryd.func125 rfl rfl (Nat.le_of_ble_eq_true rfl) ?_
 show AWp _ _ (Qv _ Tryd.f125 _ _) (X8 41 _ _)
 refine AWp.rg [] [] ?_ (hr:=by conv=>lhs;simp [Q5,Tm.row,Tm.Q3,Cs.Q3])
 refine AWp.rg [] [] ?_ (hr:=by conv=>lhs;simp [Q5,Tm.row,Tm.Q3,Cs.Q3])
 repeat (first | refine AWp.seq ?_ | refine AWp.block ?_)
 refine AWp.loop (σ:=fun u : {u : Nat×List (ByteArray×Int) // u.1≤tvs.length∧(R = LS.Xv ⟨u.2,inn,tok⟩ ta (tvs.drop u.1)∧LS.Bd ⟨u.2,inn,tok⟩ (N + (u.1 : Nat)))}=>⟨41,[(0,.ptr 1000 0),(1,.d (.ptr [.int tk,.int tn,.str ta,.str tb,Q7 tvs,.sl (txs.map Tm.row),.sl (tcs.map Cs.row)])),(10,.d (Q7 tvs)),(11,.d (.int (tvs.length : Int))),(12,.d (.int (u.1.1 : Int)))],[(1000,some (.blk 109 [.mp 1001,.mp 1002,.mp 1003])),(1001,some (.map true false 1 (Qk u.1.2))),(1002,some (.map true false 1 (J4 inn))),(1003,some (.map true false 1 (Qk tok)))]⟩)
  (μ:=fun u=>tvs.length - u.1.1) ⟨(0,ct),⟨Nat.zero_le _,⟨by rw [hR];rfl,by simpa using hB⟩⟩⟩ (Le.sub (by simp) (by simp)) (fun ⟨(i,c),⟨hi2,hw⟩⟩=>?_)
 dsimp only at hi2 hw ⊢
 refine AWp.rg [] [] ?_ (hr:=by conv=>lhs;simp [Q5,Tm.row,Tm.Q3,Cs.Q3])
 repeat (first | refine AWp.seq ?_ | refine AWp.block ?_)
 refine AWp.cond rfl (fun hc=>?_) (fun hc=>?_)
 ·have hi1 : i < tvs.length:=by have:=of_decide_eq_true hc;omega
  clear hc
  have h1v : tvs[i]? = some tvs[i]:=List.getElem?_eq_getElem hi1
  have hmv : tvs[i]∈tvs:=List.getElem_mem hi1
  have hdv : tvs.drop i = tvs[i] :: tvs.drop (i + 1):=List.drop_eq_getElem_cons hi1
  generalize tvs[i] = v at h1v hmv hdv
  obtain ⟨hw,hcb⟩:=hw
  rw [hdv,LS.openE_cons] at hw
  dsimp only at hw
  refine AWp.skip ?_
  refine AWp.rg [] [] ?_ (hr:=by conv=>lhs;simp [Q5,Tm.row,Tm.Q3,Cs.Q3,h1v])
  cases hi : lkA inn v with
  | none =>
   have hig : D.Xk (.str v) (J4 inn) = none:=by rw [Ev,hi];rfl
   rw [hi] at hw
   change R = if ByteArray.empty≠ta then (2,(⟨c,inn,tok⟩ : LS)) else _ at hw
   by_cases q1 : ByteArray.empty = ta
   ·have q1t:=eq_true q1
    refine AWp.dw [] [] mixed ?_ (hr:=by conv=>lhs;simp [Q5,Tm.row,Tm.Q3,Cs.Q3,h1v,hig,q1t])
    refine AWp.cn ?_
    refine AWp.skip ?_
    cases hk : lkA c v with
    | none =>
     have hkg : D.Xk (.str v) (Qk c) = none:=by rw [X4,hk];rfl
     have hin : LS.inc ⟨c,inn,tok⟩ v = ⟨X5 c v 1,inn,tok⟩:=by unfold LS.inc LS.c;rw [hk];rfl
     refine AWp.rg [] [] ?_ (hr:=by conv=>lhs;simp [Q5,Tm.row,Tm.Q3,Cs.Q3,h1v,hig,hkg,q1t])
     refine AWp.rg [] [] ?_ (hr:=by conv=>lhs;simp [Q5,Tm.row,Tm.Q3,Cs.Q3,h1v,hig,hkg,q1t])
     rw [if_neg (fun h=>h q1),hin] at hw
     have hcb2:=hcb.inc v
     rw [hin,show N + (i : Int) + 1 = N + ((i + 1 : Nat) : Int) by omega] at hcb2
     refine ⟨⟨(i + 1,X5 c v 1),hi1,⟨hw,hcb2⟩⟩,by simp;omega,?_⟩
     dsimp only
     exact Le.sub (by simp) (by simp)
    | some k =>
     have hkg : D.Xk (.str v) (Qk c) = some [.int k]:=by rw [X4,hk];rfl
     have hkb:=hcb.at hk
     have hin : LS.inc ⟨c,inn,tok⟩ v = ⟨X5 c v (k + 1),inn,tok⟩:=by unfold LS.inc LS.c;rw [hk];rfl
     refine AWp.rg [] [] ?_ (hr:=by conv=>lhs;simp [Q5,Tm.row,Tm.Q3,Cs.Q3,h1v,hig,hkg,q1t])
     refine AWp.rg [] [] ?_ (hr:=by conv=>lhs;simp [Q5,Tm.row,Tm.Q3,Cs.Q3,h1v,hig,hkg,q1t])
     rw [if_neg (fun h=>h q1),hin] at hw
     have hcb2:=hcb.inc v
     rw [hin,show N + (i : Int) + 1 = N + ((i + 1 : Nat) : Int) by omega] at hcb2
     refine ⟨⟨(i + 1,X5 c v (k + 1)),hi1,⟨hw,hcb2⟩⟩,by simp;omega,?_⟩
     dsimp only
     exact Le.sub (by simp) (by simp)
   refine AWp.dw [] [] mixed ?_ (hr:=by conv=>lhs;simp [Q5,Tm.row,Tm.Q3,Cs.Q3,h1v,hig,q1])
   refine AWp.cy ?_
   refine AWp.rg [] [] ?_ (hr:=by conv=>lhs;simp [Q5,Tm.row,Tm.Q3,Cs.Q3,h1v,hig,q1])
   refine AWp.ret ?_
   rw [if_pos q1] at hw
   rw [hw]
   try dsimp only [Qq,Q8]
   apply Qv.ret
   ·rfl
   ·conv=>lhs;simp [Q9,Tryd.results125]
   ·first | rfl | simp
   ·simp [Qj,Q4]
  | some wv =>
   have hig : D.Xk (.str v) (J4 inn) = some [.str wv]:=by rw [Ev,hi];rfl
   rw [hi] at hw
   change R = if wv≠ta then (2,(⟨c,inn,tok⟩ : LS)) else _ at hw
   by_cases q2 : wv = ta
   ·refine AWp.dw [] [] mixed ?_ (hr:=by conv=>lhs;simp [Q5,Tm.row,Tm.Q3,Cs.Q3,h1v,hig,q2])
    refine AWp.cn ?_
    refine AWp.skip ?_
    cases hk : lkA c v with
    | none =>
     have hkg : D.Xk (.str v) (Qk c) = none:=by rw [X4,hk];rfl
     have hin : LS.inc ⟨c,inn,tok⟩ v = ⟨X5 c v 1,inn,tok⟩:=by unfold LS.inc LS.c;rw [hk];rfl
     refine AWp.rg [] [] ?_ (hr:=by conv=>lhs;simp [Q5,Tm.row,Tm.Q3,Cs.Q3,h1v,hig,hkg,q2])
     refine AWp.rg [] [] ?_ (hr:=by conv=>lhs;simp [Q5,Tm.row,Tm.Q3,Cs.Q3,h1v,hig,hkg,q2])
     rw [if_neg (fun h=>h q2),hin] at hw
     have hcb2:=hcb.inc v
     rw [hin,show N + (i : Int) + 1 = N + ((i + 1 : Nat) : Int) by omega] at hcb2
     refine ⟨⟨(i + 1,X5 c v 1),hi1,⟨hw,hcb2⟩⟩,by simp;omega,?_⟩
     dsimp only
     exact Le.sub (by simp) (by simp)
    | some k =>
     have hkg : D.Xk (.str v) (Qk c) = some [.int k]:=by rw [X4,hk];rfl
     have hkb:=hcb.at hk
     have hin : LS.inc ⟨c,inn,tok⟩ v = ⟨X5 c v (k + 1),inn,tok⟩:=by unfold LS.inc LS.c;rw [hk];rfl
     refine AWp.rg [] [] ?_ (hr:=by conv=>lhs;simp [Q5,Tm.row,Tm.Q3,Cs.Q3,h1v,hig,hkg,q2])
     refine AWp.rg [] [] ?_ (hr:=by conv=>lhs;simp [Q5,Tm.row,Tm.Q3,Cs.Q3,h1v,hig,hkg,q2])
     rw [if_neg (fun h=>h q2),hin] at hw
     have hcb2:=hcb.inc v
     rw [hin,show N + (i : Int) + 1 = N + ((i + 1 : Nat) : Int) by omega] at hcb2
     refine ⟨⟨(i + 1,X5 c v (k + 1)),hi1,⟨hw,hcb2⟩⟩,by simp;omega,?_⟩
     dsimp only
     exact Le.sub (by simp) (by simp)
   refine AWp.dw [] [] mixed ?_ (hr:=by conv=>lhs;simp [Q5,Tm.row,Tm.Q3,Cs.Q3,h1v,hig,q2])
   refine AWp.cy ?_
   refine AWp.rg [] [] ?_ (hr:=by conv=>lhs;simp [Q5,Tm.row,Tm.Q3,Cs.Q3,h1v,hig,q2])
   refine AWp.ret ?_
   rw [if_pos q2] at hw
   rw [hw]
   try dsimp only [Qq,Q8]
   apply Qv.ret
   ·rfl
   ·conv=>lhs;simp [Q9,Tryd.results125]
   ·first | rfl | simp
   ·simp [Qj,Q4]
 have hi1 : i = tvs.length:=by have:=of_decide_eq_false hc;omega
 subst hi1
 clear hc
 rw [List.drop_length,LS.openE_nil] at hw
 obtain ⟨hw,hcb⟩:=hw
 have hcb:=hcb.mono hN
 have hu:=cs_luse ⟨c,inn,tok⟩ ta hcb
 obtain ⟨e,c2,hue⟩:=LS.Pv c inn tok ta
 rw [hue] at hu hw
 dsimp only at hu
 refine AWp.exit ?_
 refine AWp.rg [] [.c [] [.ptr 1000 0,.d (.str ta)] [(1000,.blk 109 [.mp 1001,.mp 1002,.mp 1003]),(1001,.map true false 1 (Qk c)),(1002,.map true false 1 (J4 inn)),(1003,.map true false 1 (Qk tok))] (.d (.int e)) [(1000,.blk 109 [.mp 1001,.mp 1002,.mp 1003]),(1001,.map true false 1 (Qk c2)),(1002,.map true false 1 (J4 inn)),(1003,.map true false 1 (Qk tok))]] ?_ (hr:=by conv=>lhs;simp [Q5,Tm.row,Tm.Q3,Cs.Q3])
 refine AWp.ret ?_
 rw [hw]
 try dsimp only [Qq,Q8]
 apply Qv.ret
 ·rfl
 ·conv=>lhs;simp [Q9,Tryd.results125]
 ·first | rfl | simp
 ·simp [Qj,Q4]
@[simp] theorem le_maxLen30y : 30≤maxLen:=by decide
@[simp] theorem le_maxLen37y : 37≤maxLen:=by decide
def Rw : List ByteArray→List (D×List D)
 | []=>[]
 | x :: r=>D.Nk (.str x) [.bool true] (Rw r)
@[simp] theorem sawD_nil : Rw [] = []:=rfl
theorem saw_has : ∀ (l : List ByteArray) (s : ByteArray),D.Xk (.str s) (Rw l) = if hasB l s then some [.bool true] else none
 | [],s=>rfl
 | x :: r,s=>by
  rw [Rw]
  by_cases h : x = s
  ·subst h
   rw [aput_same,if_pos (Zx.2 (List.mem_cons_self ..))]
  ·rw [aput_other h,saw_has r s]
   have : hasB (x :: r) s = hasB r s:=by
    rw [Bool.eq_iff_iff,Zx,Zx,List.mem_cons]
    exact ⟨fun h'=>h'.resolve_left fun e=>h e.symm,.inr⟩
   rw [this]
mutual
theorem Tm.st_len : ∀ t : Tm,t.stN.length≤t.sz∧t.stT.length≤t.sz
 | .mk k n a b vs xs cs=>by
  have h1:=Tm.stL_len xs
  have h2:=Cs.stL_len cs
  rw [Tm.stN,Tm.stT,Tm.sz]
  simp only [List.length_append]
  constructor <;> split <;> simp <;> omega
theorem Tm.stL_len : ∀ l : List Tm,(Tm.J6 l).length≤Tm.szs l∧(Tm.J2 l).length≤Tm.szs l
 | []=>by simp [Tm.J6,Tm.J2]
 | x :: r=>by
  have h1:=Tm.st_len x
  have h2:=Tm.stL_len r
  rw [Tm.J6,Tm.J2,Tm.szs]
  simp only [List.length_append]
  omega
theorem Cs.stL_len : ∀ l : List Cs,(Cs.J6 l).length≤Cs.szs l∧(Cs.J2 l).length≤Cs.szs l
 | []=>by simp [Cs.J6,Cs.J2]
 | x :: r=>by
  have h1:=Cs.st_len x
  have h2:=Cs.stL_len r
  rw [Cs.J6,Cs.J2,Cs.szs]
  simp only [List.length_append]
  omega
theorem Cs.st_len : ∀ c : Cs,c.stN.length≤c.sz∧c.stT.length≤c.sz
 | .mk t ws y=>by
  have h1:=Tm.st_len y
  rw [Cs.stN,Cs.stT,Cs.sz]
  exact h1
end
def Tm.ndN (t : Tm) : List ByteArray:=(Qz0 (srtB t.stN)).filter fun s=>!hasB t.Xx s
def Tm.ndT (t : Tm) : List ByteArray:=(Qz0 (srtB t.stT)).filter fun s=>!hasB t.Xx (excl s)
theorem Tm.ndN_mem (t : Tm) (s : ByteArray) : s∈t.ndN↔t.Fx s = true:=by
 unfold Tm.ndN Tm.Fx
 rw [List.mem_filter,cmpB_mem,(Qq0 _).mem_iff,Bool.and_eq_true,Zx]
theorem Tm.ndT_mem (t : Tm) (s : ByteArray) : s∈t.ndT↔t.U7 s = true:=by
 unfold Tm.ndT Tm.U7
 rw [List.mem_filter,cmpB_mem,(Qq0 _).mem_iff,Bool.and_eq_true,Zx]
theorem Tm.ndN_nodup (t : Tm) : t.ndN.Nodup:=(List.filter_sublist).nodup (cmpB_nodup (srtB_sorted _))
theorem Tm.ndT_nodup (t : Tm) : t.ndT.Nodup:=(List.filter_sublist).nodup (cmpB_nodup (srtB_sorted _))
set_option maxRecDepth 20000 in
set_option maxHeartbeats 16000000 in
theorem cs_need2 (o : List ByteArray) (s : ByteArray) : X3 Tryd.prog 143 [.d (.str s),.ptr 1000 0] [(1000,.blk 191 [.mp 1002]),(1002,.map true false 1 (Rw o))] (.d (.bool (hasB o s))) [(1000,.blk 191 [.mp 1002]),(1002,.map true false 1 (Rw o))]:=by
 refine X3.of Tryd.func143 rfl rfl (Nat.le_of_ble_eq_true rfl) ?_
 show AWp _ _ (Qv _ Tryd.f143 _ _) (X8 7 _ _)
 refine AWp.rg [] [] ?_
 cases hq : hasB o s with
 | true =>
  have hg:=saw_has o s
  rw [hq,if_pos rfl] at hg
  refine AWp.rg [] [] ?_ (hr:=by conv=>lhs;simp [hg])
  refine AWp.ret ?_
  try dsimp only [Qq,Q8]
  apply Qv.ret
  ·rfl
  ·conv=>lhs;simp [Q9,Tryd.results143]
  ·first | rfl | simp
  ·simp [Qj,Q4]
 | false =>
  have hg:=saw_has o s
  rw [hq,if_neg (by simp)] at hg
  refine AWp.rg [] [] ?_ (hr:=by conv=>lhs;simp [hg])
  refine AWp.ret ?_
  try dsimp only [Qq,Q8]
  apply Qv.ret
  ·rfl
  ·conv=>lhs;simp [Q9,Tryd.results143]
  ·first | rfl | simp
  ·simp [Qj,Q4]
set_option maxRecDepth 20000 in
set_option maxHeartbeats 16000000 in
theorem cs_need3 (o : List ByteArray) (s : ByteArray) (hs : s.size≤140737488355328) : X3 Tryd.prog 144 [.d (.str s),.ptr 1000 0] [(1000,.blk 191 [.mp 1002]),(1002,.map true false 1 (Rw o))] (.d (.bool (hasB o (excl s)))) [(1000,.blk 191 [.mp 1002]),(1002,.map true false 1 (Rw o))]:=by
 refine X3.of Tryd.func144 rfl rfl (Nat.le_of_ble_eq_true rfl) ?_
 show AWp _ _ (Qv _ Tryd.f144 _ _) (X8 8 _ _)
 refine AWp.rg [] [] ?_
 cases hq : hasB o (excl s) with
 | true =>
  have hg:=saw_has o (excl s)
  rw [hq,if_pos rfl] at hg
  rw [show excl s = ⟨#[33]⟩ ++ s from rfl] at hg
  refine AWp.rg [] [] ?_ (hr:=by conv=>lhs;simp [hg])
  refine AWp.ret ?_
  try dsimp only [Qq,Q8]
  apply Qv.ret
  ·rfl
  ·conv=>lhs;simp [Q9,Tryd.results144]
  ·first | rfl | simp
  ·simp [Qj,Q4]
 | false =>
  have hg:=saw_has o (excl s)
  rw [hq,if_neg (by simp)] at hg
  rw [show excl s = ⟨#[33]⟩ ++ s from rfl] at hg
  refine AWp.rg [] [] ?_ (hr:=by conv=>lhs;simp [hg])
  refine AWp.ret ?_
  try dsimp only [Qq,Q8]
  apply Qv.ret
  ·rfl
  ·conv=>lhs;simp [Q9,Tryd.results144]
  ·first | rfl | simp
  ·simp [Qj,Q4]
def NeedN (N : Nat) : Prop:=∀ t : Tm,t.sz≤N→t.Ok→∀ hs ts os : List ByteArray,hs.length + t.sz≤8000000000→ts.length + t.sz≤8000000000 →
 X3 Tryd.prog 139 [.d (.ptr t.row),.ptr 1000 0,.ptr 1001 0,.ptr 1003 0,.ptr 1004 0] [(1000,.blk 28 [.arr 500 0 hs.length]),(1001,.blk 191 [.mp 1002]),(1002,.map true false 1 (Rw os)),(1003,.blk 28 [.arr 501 0 ts.length]),(1004,.blk 192 [.clo 139 [.ptr 1000 0,.ptr 1001 0,.ptr 1003 0,.ptr 1004 0]]),(500,.arr 9 1 (hs.map Zw)),(501,.arr 9 1 (ts.map Zw))] (.tuple []) [(1000,.blk 28 [.arr 500 0 ((hs ++ t.stN).length)]),(1001,.blk 191 [.mp 1002]),(1002,.map true false 1 (Rw (t.Xx.reverse ++ os))),(1003,.blk 28 [.arr 501 0 ((ts ++ t.stT).length)]),(1004,.blk 192 [.clo 139 [.ptr 1000 0,.ptr 1001 0,.ptr 1003 0,.ptr 1004 0]]),(500,.arr 9 1 ((hs ++ t.stN).map Zw)),(501,.arr 9 1 ((ts ++ t.stT).map Zw))]
set_option maxRecDepth 20000 in
set_option maxHeartbeats 16000000 in
theorem need_step (N : Nat) (ih : NeedN N) : NeedN (N + 1):=by
 intro t hsz hOk hs ts os hz1 hz2
 obtain ⟨H,hH⟩ : ∃ H,H = hs ++ t.stN:=⟨_,rfl⟩
 obtain ⟨T,hT⟩ : ∃ T,T = ts ++ t.stT:=⟨_,rfl⟩
 obtain ⟨O,hO⟩ : ∃ O,O = t.Xx.reverse ++ os:=⟨_,rfl⟩
 rw [← hH,← hT,← hO]
 obtain ⟨tk,tn,ta,tb,tvs,txs,tcs⟩:=t
 rw [Tm.stN] at hH
 rw [Tm.stT] at hT
 rw [Tm.Xx] at hO
 simp only [Tm.sz] at hsz hz1 hz2
 have hxO : ∀ x∈txs,x.Ok:=fun x hx=>Tm.Zq.1 hOk.2.2.1 x hx
 have hcO : ∀ x∈tcs,x.Ok:=fun x hx=>Cs.Zq.1 hOk.2.2.2 x hx
 obtain ⟨o1,o2,o3,o4,o5⟩:=hOk.vars
 obtain ⟨h0,hh0⟩ : ∃ z,z = hs ++ (if tk = 1∨tk = 8∨tk = 9∨tk = 10∨tk = 11 then [ta] else []):=⟨_,rfl⟩
 obtain ⟨u0,hu0⟩ : ∃ z,z = ts ++ (if tk = 12∨tk = 13 then [tb] else []):=⟨_,rfl⟩
 obtain ⟨o0,ho0⟩ : ∃ z,z = (if tk = 11 then [excl tb] else []) ++ ((if tk = 6 then [ta] else []) ++ os):=⟨_,rfl⟩
 rw [← List.append_assoc,← hh0] at hH
 rw [← List.append_assoc,← hu0] at hT
 have hO : O = (Tm.Jq txs ++ Cs.Jq tcs).reverse ++ o0:=by
  rw [hO,ho0]
  simp only [List.reverse_append,List.append_assoc]
  congr 3
  ·split <;> rfl
  ·split <;> rfl
 have hb1 : h0.length + (Tm.szs txs + Cs.szs tcs)≤8000000000:=by rw [hh0,List.length_append];split <;> simp <;> omega
 have hb2 : u0.length + (Tm.szs txs + Cs.szs tcs)≤8000000000:=by rw [hu0,List.length_append];split <;> simp <;> omega
 refine X3.of Tryd.func139 rfl rfl (Nat.le_of_ble_eq_true rfl) ?_
 show AWp _ _ (Qv _ Tryd.f139 _ _) (X8 106 _ _)
 refine AWp.seqJP2 (True) ⟨106,[(0,.d (.ptr [.int tk,.int tn,.str ta,.str tb,Q7 tvs,.sl (txs.map Tm.row),.sl (tcs.map Cs.row)])),(1,.ptr 1000 0),(2,.ptr 1001 0),(3,.ptr 1003 0),(4,.ptr 1004 0)],[(1000,some (.blk 28 [.arr 500 0 h0.length])),(1001,some (.blk 191 [.mp 1002])),(1002,some (.map true false 1 (Rw o0))),(1003,some (.blk 28 [.arr 501 0 u0.length])),(1004,some (.blk 192 [.clo 139 [.ptr 1000 0,.ptr 1001 0,.ptr 1003 0,.ptr 1004 0]])),(500,some (.arr 9 1 (h0.map Zw))),(501,some (.arr 9 1 (u0.map Zw)))]⟩ (fun hφ=>?_) (fun W hW=>?_)
 rotate_left
 ·refine AWp.rg [] [] ?_ (hr:=by conv=>lhs;simp [Tm.row,Tm.Q3,Cs.Q3])
  by_cases q1 : tk = 1
  ·refine AWp.rg [] [] ?_ (hr:=by conv=>lhs;simp [Tm.row,Tm.Q3,Cs.Q3,q1])
   refine AWp.cy ?_
   refine AWp.skip ?_
   refine AWp.cy ?_
   refine AWp.dw [] [] mixed ?_ (hr:=by conv=>lhs;simp [Tm.row,Tm.Q3,Cs.Q3,q1])
   refine AWp.rg [] [] ?_ (hr:=by conv=>lhs;simp [Tm.row,Tm.Q3,Cs.Q3,q1])
   refine AWp.cn ?_
   refine AWp.skip ?_
   have e0 : h0 = hs ++ [ta]:=by rw [hh0];simp [q1]
   have e1 : u0 = ts:=by rw [hu0];simp [q1]
   have e2 : o0 = os:=by rw [ho0];simp [q1]
   exact hW trivial _ (Le.sub (by simp [Tm.row,Tm.Q3,Cs.Q3,q1]) (by simp [e0,e1,e2,Rw,Zw,excl]))
  refine AWp.rg [] [] ?_ (hr:=by conv=>lhs;simp [Tm.row,Tm.Q3,Cs.Q3,q1])
  refine AWp.cn ?_
  by_cases q2 : tk = 8
  ·refine AWp.rg [] [] ?_ (hr:=by conv=>lhs;simp [Tm.row,Tm.Q3,Cs.Q3,q1,q2])
   refine AWp.cy ?_
   refine AWp.skip ?_
   refine AWp.cy ?_
   refine AWp.dw [] [] mixed ?_ (hr:=by conv=>lhs;simp [Tm.row,Tm.Q3,Cs.Q3,q1,q2])
   refine AWp.rg [] [] ?_ (hr:=by conv=>lhs;simp [Tm.row,Tm.Q3,Cs.Q3,q1,q2])
   refine AWp.cn ?_
   refine AWp.skip ?_
   have e0 : h0 = hs ++ [ta]:=by rw [hh0];simp [q1,q2]
   have e1 : u0 = ts:=by rw [hu0];simp [q1,q2]
   have e2 : o0 = os:=by rw [ho0];simp [q1,q2]
   exact hW trivial _ (Le.sub (by simp [Tm.row,Tm.Q3,Cs.Q3,q2]) (by simp [e0,e1,e2,Rw,Zw,excl]))
  refine AWp.rg [] [] ?_ (hr:=by conv=>lhs;simp [Tm.row,Tm.Q3,Cs.Q3,q1,q2])
  refine AWp.cn ?_
  by_cases q3 : tk = 9
  ·refine AWp.rg [] [] ?_ (hr:=by conv=>lhs;simp [Tm.row,Tm.Q3,Cs.Q3,q1,q2,q3])
   refine AWp.cy ?_
   refine AWp.skip ?_
   refine AWp.cy ?_
   refine AWp.dw [] [] mixed ?_ (hr:=by conv=>lhs;simp [Tm.row,Tm.Q3,Cs.Q3,q1,q2,q3])
   refine AWp.rg [] [] ?_ (hr:=by conv=>lhs;simp [Tm.row,Tm.Q3,Cs.Q3,q1,q2,q3])
   refine AWp.cn ?_
   refine AWp.skip ?_
   have e0 : h0 = hs ++ [ta]:=by rw [hh0];simp [q1,q2,q3]
   have e1 : u0 = ts:=by rw [hu0];simp [q1,q2,q3]
   have e2 : o0 = os:=by rw [ho0];simp [q1,q2,q3]
   exact hW trivial _ (Le.sub (by simp [Tm.row,Tm.Q3,Cs.Q3,q3]) (by simp [e0,e1,e2,Rw,Zw,excl]))
  refine AWp.rg [] [] ?_ (hr:=by conv=>lhs;simp [Tm.row,Tm.Q3,Cs.Q3,q1,q2,q3])
  refine AWp.cn ?_
  by_cases q4 : tk = 10
  ·refine AWp.rg [] [] ?_ (hr:=by conv=>lhs;simp [Tm.row,Tm.Q3,Cs.Q3,q1,q2,q3,q4])
   refine AWp.cy ?_
   refine AWp.skip ?_
   refine AWp.cy ?_
   refine AWp.dw [] [] mixed ?_ (hr:=by conv=>lhs;simp [Tm.row,Tm.Q3,Cs.Q3,q1,q2,q3,q4])
   refine AWp.rg [] [] ?_ (hr:=by conv=>lhs;simp [Tm.row,Tm.Q3,Cs.Q3,q1,q2,q3,q4])
   refine AWp.cn ?_
   refine AWp.skip ?_
   have e0 : h0 = hs ++ [ta]:=by rw [hh0];simp [q1,q2,q3,q4]
   have e1 : u0 = ts:=by rw [hu0];simp [q1,q2,q3,q4]
   have e2 : o0 = os:=by rw [ho0];simp [q1,q2,q3,q4]
   exact hW trivial _ (Le.sub (by simp [Tm.row,Tm.Q3,Cs.Q3,q4]) (by simp [e0,e1,e2,Rw,Zw,excl]))
  refine AWp.rg [] [] ?_ (hr:=by conv=>lhs;simp [Tm.row,Tm.Q3,Cs.Q3,q1,q2,q3,q4])
  refine AWp.cn ?_
  by_cases q5 : tk = 11
  ·refine AWp.rg [] [] ?_ (hr:=by conv=>lhs;simp [Tm.row,Tm.Q3,Cs.Q3,q1,q2,q3,q4,q5])
   refine AWp.cy ?_
   refine AWp.dw [] [] mixed ?_ (hr:=by conv=>lhs;simp [Tm.row,Tm.Q3,Cs.Q3,q1,q2,q3,q4,q5])
   refine AWp.rg [] [] ?_ (hr:=by conv=>lhs;simp [Tm.row,Tm.Q3,Cs.Q3,q1,q2,q3,q4,q5])
   refine AWp.cy ?_
   refine AWp.dw [] [] mixed ?_ (hr:=by conv=>lhs;simp [Tm.row,Tm.Q3,Cs.Q3,q1,q2,q3,q4,q5])
   have e0 : h0 = hs ++ [ta]:=by rw [hh0];simp [q1,q2,q3,q4,q5]
   have e1 : u0 = ts:=by rw [hu0];simp [q1,q2,q3,q4,q5]
   have e2 : o0 = excl tb :: os:=by rw [ho0];simp [q1,q2,q3,q4,q5]
   exact hW trivial _ (Le.sub (by simp [Tm.row,Tm.Q3,Cs.Q3,q5]) (by simp [e0,e1,e2,Rw,Zw,excl]))
  refine AWp.rg [] [] ?_ (hr:=by conv=>lhs;simp [Tm.row,Tm.Q3,Cs.Q3,q1,q2,q3,q4,q5])
  refine AWp.cn ?_
  by_cases q6 : tk = 6
  ·refine AWp.rg [] [] ?_ (hr:=by conv=>lhs;simp [Tm.row,Tm.Q3,Cs.Q3,q1,q2,q3,q4,q5,q6])
   refine AWp.cy ?_
   refine AWp.dw [] [] mixed ?_ (hr:=by conv=>lhs;simp [Tm.row,Tm.Q3,Cs.Q3,q1,q2,q3,q4,q5,q6])
   refine AWp.rg [] [] ?_ (hr:=by conv=>lhs;simp [Tm.row,Tm.Q3,Cs.Q3,q1,q2,q3,q4,q5,q6])
   refine AWp.cn ?_
   refine AWp.skip ?_
   have e0 : h0 = hs:=by rw [hh0];simp [q1,q2,q3,q4,q5,q6]
   have e1 : u0 = ts:=by rw [hu0];simp [q1,q2,q3,q4,q5,q6]
   have e2 : o0 = ta :: os:=by rw [ho0];simp [q1,q2,q3,q4,q5,q6]
   exact hW trivial _ (Le.sub (by simp [Tm.row,Tm.Q3,Cs.Q3,q6]) (by simp [e0,e1,e2,Rw,Zw,excl]))
  refine AWp.rg [] [] ?_ (hr:=by conv=>lhs;simp [Tm.row,Tm.Q3,Cs.Q3,q1,q2,q3,q4,q5,q6])
  refine AWp.cn ?_
  by_cases q7 : tk = 12
  ·refine AWp.rg [] [] ?_ (hr:=by conv=>lhs;simp [Tm.row,Tm.Q3,Cs.Q3,q1,q2,q3,q4,q5,q6,q7])
   refine AWp.cy ?_
   refine AWp.skip ?_
   refine AWp.cy ?_
   refine AWp.dw [] [] mixed ?_ (hr:=by conv=>lhs;simp [Tm.row,Tm.Q3,Cs.Q3,q1,q2,q3,q4,q5,q6,q7])
   refine AWp.rg [] [] ?_ (hr:=by conv=>lhs;simp [Tm.row,Tm.Q3,Cs.Q3,q1,q2,q3,q4,q5,q6,q7])
   refine AWp.cn ?_
   refine AWp.skip ?_
   have e0 : h0 = hs:=by rw [hh0];simp [q1,q2,q3,q4,q5,q6,q7]
   have e1 : u0 = ts ++ [tb]:=by rw [hu0];simp [q1,q2,q3,q4,q5,q6,q7]
   have e2 : o0 = os:=by rw [ho0];simp [q1,q2,q3,q4,q5,q6,q7]
   exact hW trivial _ (Le.sub (by simp [Tm.row,Tm.Q3,Cs.Q3,q7]) (by simp [e0,e1,e2,Rw,Zw,excl]))
  refine AWp.rg [] [] ?_ (hr:=by conv=>lhs;simp [Tm.row,Tm.Q3,Cs.Q3,q1,q2,q3,q4,q5,q6,q7])
  refine AWp.cn ?_
  by_cases q8 : tk = 13
  ·refine AWp.rg [] [] ?_ (hr:=by conv=>lhs;simp [Tm.row,Tm.Q3,Cs.Q3,q1,q2,q3,q4,q5,q6,q7,q8])
   refine AWp.cy ?_
   refine AWp.dw [] [] mixed ?_ (hr:=by conv=>lhs;simp [Tm.row,Tm.Q3,Cs.Q3,q1,q2,q3,q4,q5,q6,q7,q8])
   refine AWp.rg [] [] ?_ (hr:=by conv=>lhs;simp [Tm.row,Tm.Q3,Cs.Q3,q1,q2,q3,q4,q5,q6,q7,q8])
   refine AWp.cn ?_
   refine AWp.skip ?_
   have e0 : h0 = hs:=by rw [hh0];simp [q1,q2,q3,q4,q5,q6,q7,q8]
   have e1 : u0 = ts ++ [tb]:=by rw [hu0];simp [q1,q2,q3,q4,q5,q6,q7,q8]
   have e2 : o0 = os:=by rw [ho0];simp [q1,q2,q3,q4,q5,q6,q7,q8]
   exact hW trivial _ (Le.sub (by simp [Tm.row,Tm.Q3,Cs.Q3,q8]) (by simp [e0,e1,e2,Rw,Zw,excl]))
  refine AWp.rg [] [] ?_ (hr:=by conv=>lhs;simp [Tm.row,Tm.Q3,Cs.Q3,q1,q2,q3,q4,q5,q6,q7,q8])
  refine AWp.cn ?_
  refine AWp.skip ?_
  refine AWp.rg [] [] ?_ (hr:=by conv=>lhs;simp [Tm.row,Tm.Q3,Cs.Q3,q1,q2,q3,q4,q5,q6,q7,q8])
  refine AWp.cn ?_
  refine AWp.skip ?_
  have e0 : h0 = hs:=by rw [hh0];simp [q1,q2,q3,q4,q5,q6,q7,q8]
  have e1 : u0 = ts:=by rw [hu0];simp [q1,q2,q3,q4,q5,q6,q7,q8]
  have e2 : o0 = os:=by rw [ho0];simp [q1,q2,q3,q4,q5,q6,q7,q8]
  exact hW trivial _ (Le.sub (by simp [Tm.row,Tm.Q3,Cs.Q3]) (by simp [e0,e1,e2,Rw,Zw,excl]))
 refine AWp.rg [] [] ?_ (hr:=by conv=>lhs;simp [Tm.row,Tm.Q3,Cs.Q3])
 repeat (first | refine AWp.seq ?_ | refine AWp.block ?_)
 refine AWp.loop (σ:=fun u : {u : Nat×List ByteArray×List ByteArray×List ByteArray // u.1≤txs.length∧(H = u.2.1 ++ (Tm.J6 (txs.drop u.1) ++ Cs.J6 tcs)∧T = u.2.2.1 ++ (Tm.J2 (txs.drop u.1) ++ Cs.J2 tcs)∧O = (Tm.Jq (txs.drop u.1) ++ Cs.Jq tcs).reverse ++ u.2.2.2∧u.2.1.length + (Tm.szs (txs.drop u.1) + Cs.szs tcs)≤8000000000∧u.2.2.1.length + (Tm.szs (txs.drop u.1) + Cs.szs tcs)≤8000000000)}=>⟨106,[(0,.d (.ptr [.int tk,.int tn,.str ta,.str tb,Q7 tvs,.sl (txs.map Tm.row),.sl (tcs.map Cs.row)])),(2,.ptr 1001 0),(4,.ptr 1004 0),(59,.d (.int (txs.length : Int))),(60,.d (.int (u.1.1 : Int)))],[(500,some (.arr 9 1 (u.1.2.1.map Zw))),(501,some (.arr 9 1 (u.1.2.2.1.map Zw))),(1000,some (.blk 28 [.arr 500 0 u.1.2.1.length])),(1001,some (.blk 191 [.mp 1002])),(1002,some (.map true false 1 (Rw u.1.2.2.2))),(1003,some (.blk 28 [.arr 501 0 u.1.2.2.1.length])),(1004,some (.blk 192 [.clo 139 [.ptr 1000 0,.ptr 1001 0,.ptr 1003 0,.ptr 1004 0]]))]⟩)
  (μ:=fun u=>txs.length - u.1.1) ⟨(0,h0,u0,o0),⟨Nat.zero_le _,⟨by rw [List.drop_zero];exact hH,by rw [List.drop_zero];exact hT,by rw [List.drop_zero];exact hO,by rw [List.drop_zero];exact hb1,by rw [List.drop_zero];exact hb2⟩⟩⟩ (Le.sub (by simp) (by simp)) (fun ⟨(i,h,u,o),⟨hi15,hw⟩⟩=>?_)
 dsimp only at hi15 hw ⊢
 refine AWp.rg [] [] ?_ (hr:=by conv=>lhs;simp [Tm.row,Tm.Q3,Cs.Q3])
 repeat (first | refine AWp.seq ?_ | refine AWp.block ?_)
 refine AWp.cond rfl (fun hc=>?_) (fun hc=>?_)
 ·have hi1 : i < txs.length:=by have:=of_decide_eq_true hc;omega
  clear hc
  have h1y : txs[i]? = some txs[i]:=List.getElem?_eq_getElem hi1
  have hmy : txs[i]∈txs:=List.getElem_mem hi1
  have hdy : txs.drop i = txs[i] :: txs.drop (i + 1):=List.drop_eq_getElem_cons hi1
  generalize txs[i] = y at h1y hmy hdy
  obtain ⟨hH,hT,hO,hb1,hb2⟩:=hw
  rw [hdy,Tm.J6,List.append_assoc,← List.append_assoc] at hH
  rw [hdy,Tm.J2,List.append_assoc,← List.append_assoc] at hT
  rw [hdy,Tm.Jq,List.append_assoc,List.reverse_append,List.append_assoc] at hO
  rw [hdy,Tm.szs] at hb1 hb2
  have hx:=ih y (by have:=Tm.Z4 hmy;omega) (hxO y hmy) h u o (by omega) (by omega)
  have hst:=y.st_len
  obtain ⟨h2,hh2⟩ : ∃ z,z = h ++ y.stN:=⟨_,rfl⟩
  obtain ⟨u2,hu2⟩ : ∃ z,z = u ++ y.stT:=⟨_,rfl⟩
  obtain ⟨o2,ho2⟩ : ∃ z,z = y.Xx.reverse ++ o:=⟨_,rfl⟩
  have hl1 : h2.length≤h.length + y.sz:=by rw [hh2,List.length_append];omega
  have hl2 : u2.length≤u.length + y.sz:=by rw [hu2,List.length_append];omega
  rw [← hh2] at hx hH
  rw [← hu2] at hx hT
  rw [← ho2] at hx hO
  obtain ⟨yk,yn,ya,yb,yvs,yxs,ycs⟩:=y
  simp only [Tm.row,Tm.Q3,Cs.Q3] at hx
  refine AWp.skip ?_
  refine AWp.rg [] [] ?_ (hr:=by conv=>lhs;simp [Tm.row,Tm.Q3,Cs.Q3,h1y])
  refine AWp.dw [] [.c [] [.d (.ptr [.int yk,.int yn,.str ya,.str yb,Q7 yvs,.sl (yxs.map Tm.row),.sl (ycs.map Cs.row)]),.ptr 1000 0,.ptr 1001 0,.ptr 1003 0,.ptr 1004 0] [(1000,.blk 28 [.arr 500 0 h.length]),(1001,.blk 191 [.mp 1002]),(1002,.map true false 1 (Rw o)),(1003,.blk 28 [.arr 501 0 u.length]),(1004,.blk 192 [.clo 139 [.ptr 1000 0,.ptr 1001 0,.ptr 1003 0,.ptr 1004 0]]),(500,.arr 9 1 (h.map Zw)),(501,.arr 9 1 (u.map Zw))] (.tuple []) [(1000,.blk 28 [.arr 500 0 h2.length]),(1001,.blk 191 [.mp 1002]),(1002,.map true false 1 (Rw o2)),(1003,.blk 28 [.arr 501 0 u2.length]),(1004,.blk 192 [.clo 139 [.ptr 1000 0,.ptr 1001 0,.ptr 1003 0,.ptr 1004 0]]),(500,.arr 9 1 (h2.map Zw)),(501,.arr 9 1 (u2.map Zw))]] mixed ?_ (hr:=by conv=>lhs;simp [Tm.row,Tm.Q3,Cs.Q3,h1y])
  refine AWp.rg [] [] ?_ (hr:=by conv=>lhs;simp [Tm.row,Tm.Q3,Cs.Q3,h1y])
  refine ⟨⟨(i + 1,h2,u2,o2),hi1,⟨hH,hT,hO,by dsimp only;omega,by dsimp only;omega⟩⟩,by simp;omega,?_⟩
  dsimp only
  exact Le.sub (by simp) (by simp)
 have hi1 : i = txs.length:=by have:=of_decide_eq_false hc;omega
 subst hi1
 clear hc
 rw [List.drop_length] at hw
 simp only [Tm.J6,Tm.J2,Tm.Jq,Tm.szs,List.nil_append,Nat.zero_add] at hw
 obtain ⟨hH,hT,hO,hb1,hb2⟩:=hw
 refine AWp.exit ?_
 refine AWp.rg [] [] ?_ (hr:=by conv=>lhs;simp [Tm.row,Tm.Q3,Cs.Q3])
 repeat (first | refine AWp.seq ?_ | refine AWp.block ?_)
 refine AWp.loop (σ:=fun u : {u : Nat×List ByteArray×List ByteArray×List ByteArray // u.1≤tcs.length∧(H = u.2.1 ++ Cs.J6 (tcs.drop u.1)∧T = u.2.2.1 ++ Cs.J2 (tcs.drop u.1)∧O = (Cs.Jq (tcs.drop u.1)).reverse ++ u.2.2.2∧u.2.1.length + Cs.szs (tcs.drop u.1)≤8000000000∧u.2.2.1.length + Cs.szs (tcs.drop u.1)≤8000000000)}=>⟨106,[(0,.d (.ptr [.int tk,.int tn,.str ta,.str tb,Q7 tvs,.sl (txs.map Tm.row),.sl (tcs.map Cs.row)])),(2,.ptr 1001 0),(4,.ptr 1004 0),(76,.d (.int (tcs.length : Int))),(77,.d (.int (u.1.1 : Int)))],[(500,some (.arr 9 1 (u.1.2.1.map Zw))),(501,some (.arr 9 1 (u.1.2.2.1.map Zw))),(1000,some (.blk 28 [.arr 500 0 u.1.2.1.length])),(1001,some (.blk 191 [.mp 1002])),(1002,some (.map true false 1 (Rw u.1.2.2.2))),(1003,some (.blk 28 [.arr 501 0 u.1.2.2.1.length])),(1004,some (.blk 192 [.clo 139 [.ptr 1000 0,.ptr 1001 0,.ptr 1003 0,.ptr 1004 0]]))]⟩)
  (μ:=fun u=>tcs.length - u.1.1) ⟨(0,h,u,o),⟨Nat.zero_le _,⟨by rw [List.drop_zero];exact hH,by rw [List.drop_zero];exact hT,by rw [List.drop_zero];exact hO,by rw [List.drop_zero];exact hb1,by rw [List.drop_zero];exact hb2⟩⟩⟩ (Le.sub (by simp) (by simp)) (fun ⟨(j,g,v,p),⟨hi20,hw2⟩⟩=>?_)
 dsimp only at hi20 hw2 ⊢
 refine AWp.rg [] [] ?_ (hr:=by conv=>lhs;simp [Tm.row,Tm.Q3,Cs.Q3])
 repeat (first | refine AWp.seq ?_ | refine AWp.block ?_)
 refine AWp.cond rfl (fun hc=>?_) (fun hc=>?_)
 ·have hi1 : j < tcs.length:=by have:=of_decide_eq_true hc;omega
  clear hc
  have h1d : tcs[j]? = some tcs[j]:=List.getElem?_eq_getElem hi1
  have hmd : tcs[j]∈tcs:=List.getElem_mem hi1
  have hdd : tcs.drop j = tcs[j] :: tcs.drop (j + 1):=List.drop_eq_getElem_cons hi1
  generalize tcs[j] = d at h1d hmd hdd
  obtain ⟨hH,hT,hO,hb1,hb2⟩:=hw2
  have hdO:=hcO d hmd
  have hdz:=Cs.Z4 hmd
  obtain ⟨dt,dws,y⟩:=d
  rw [hdd,Cs.J6,Cs.stN,← List.append_assoc] at hH
  rw [hdd,Cs.J2,Cs.stT,← List.append_assoc] at hT
  rw [hdd,Cs.Jq,Cs.Xx,List.reverse_append,List.append_assoc,List.reverse_append,List.append_assoc] at hO
  rw [hdd,Cs.szs,Cs.sz] at hb1 hb2
  rw [Cs.sz] at hdz
  have hst:=y.st_len
  obtain ⟨q,hq⟩ : ∃ q,q = dws.reverse ++ p:=⟨_,rfl⟩
  rw [← hq] at hO
  have hx:=ih y (by omega) hdO.2.2 g v q (by omega) (by omega)
  obtain ⟨h2,hh2⟩ : ∃ z,z = g ++ y.stN:=⟨_,rfl⟩
  obtain ⟨u2,hu2⟩ : ∃ z,z = v ++ y.stT:=⟨_,rfl⟩
  obtain ⟨o2,ho2⟩ : ∃ z,z = y.Xx.reverse ++ q:=⟨_,rfl⟩
  have hl1 : h2.length≤g.length + y.sz:=by rw [hh2,List.length_append];omega
  have hl2 : u2.length≤v.length + y.sz:=by rw [hu2,List.length_append];omega
  rw [← hh2] at hx hH
  rw [← hu2] at hx hT
  rw [← ho2] at hx hO
  obtain ⟨hd1,hd2,-⟩:=hdO
  obtain ⟨yk,yn,ya,yb,yvs,yxs,ycs⟩:=y
  simp only [Tm.row,Tm.Q3,Cs.Q3] at hx
  refine AWp.skip ?_
  refine AWp.rg [] [] ?_ (hr:=by conv=>lhs;simp [Tm.row,Tm.Q3,Cs.Q3,h1d,Cs.row])
  refine AWp.rg [] [] ?_ (hr:=by conv=>lhs;simp [Tm.row,Tm.Q3,Cs.Q3,h1d,Cs.row])
  repeat (first | refine AWp.seq ?_ | refine AWp.block ?_)
  refine AWp.loop (σ:=fun u : {u : Nat×List ByteArray // u.1≤dws.length∧q = (dws.drop u.1).reverse ++ u.2}=>⟨106,[(0,.d (.ptr [.int tk,.int tn,.str ta,.str tb,Q7 tvs,.sl (txs.map Tm.row),.sl (tcs.map Cs.row)])),(2,.ptr 1001 0),(4,.ptr 1004 0),(7,.d (.int (j : Int))),(76,.d (.int (tcs.length : Int))),(77,.d (.int (j : Int))),(87,.d (Q7 dws)),(88,.d (.int (dws.length : Int))),(89,.d (.int (u.1.1 : Int)))],[(500,some (.arr 9 1 (g.map Zw))),(501,some (.arr 9 1 (v.map Zw))),(1000,some (.blk 28 [.arr 500 0 g.length])),(1001,some (.blk 191 [.mp 1002])),(1002,some (.map true false 1 (Rw u.1.2))),(1003,some (.blk 28 [.arr 501 0 v.length])),(1004,some (.blk 192 [.clo 139 [.ptr 1000 0,.ptr 1001 0,.ptr 1003 0,.ptr 1004 0]]))]⟩)
   (μ:=fun u=>dws.length - u.1.1) ⟨(0,p),⟨Nat.zero_le _,by rw [List.drop_zero];exact hq⟩⟩ (Le.sub (by simp) (by simp)) (fun ⟨(m,c),⟨hi23,hw3⟩⟩=>?_)
  dsimp only at hi23 hw3 ⊢
  refine AWp.rg [] [] ?_ (hr:=by conv=>lhs;simp [Tm.row,Tm.Q3,Cs.Q3,h1d,Cs.row])
  repeat (first | refine AWp.seq ?_ | refine AWp.block ?_)
  refine AWp.cond rfl (fun hc=>?_) (fun hc=>?_)
  ·have hi1 : m < dws.length:=by have:=of_decide_eq_true hc;omega
   clear hc
   have h1s : dws[m]? = some dws[m]:=List.getElem?_eq_getElem hi1
   have hms : dws[m]∈dws:=List.getElem_mem hi1
   have hds : dws.drop m = dws[m] :: dws.drop (m + 1):=List.drop_eq_getElem_cons hi1
   generalize dws[m] = s at h1s hms hds
   rw [hds,List.reverse_cons,List.append_assoc] at hw3
   refine AWp.skip ?_
   refine AWp.rg [] [] ?_ (hr:=by conv=>lhs;simp [Tm.row,Tm.Q3,Cs.Q3,h1d,Cs.row,h1s])
   have hput : D.Nk (.str s) [.bool true] (Rw c) = Rw (s :: c):=rfl
   refine AWp.rg [] [] ?_ (hr:=by conv=>lhs;simp [Tm.row,Tm.Q3,Cs.Q3,h1d,Cs.row,h1s,hput])
   refine AWp.rg [] [] ?_ (hr:=by conv=>lhs;simp [Tm.row,Tm.Q3,Cs.Q3,h1d,Cs.row,h1s])
   refine ⟨⟨(m + 1,s :: c),hi1,hw3⟩,by simp;omega,?_⟩
   dsimp only
   exact Le.sub (by simp) (by simp)
  have hi1 : m = dws.length:=by have:=of_decide_eq_false hc;omega
  subst hi1
  clear hc
  rw [List.drop_length,List.reverse_nil,List.nil_append] at hw3
  subst hw3
  refine AWp.exit ?_
  refine AWp.dw [] [.c [] [.d (.ptr [.int yk,.int yn,.str ya,.str yb,Q7 yvs,.sl (yxs.map Tm.row),.sl (ycs.map Cs.row)]),.ptr 1000 0,.ptr 1001 0,.ptr 1003 0,.ptr 1004 0] [(1000,.blk 28 [.arr 500 0 g.length]),(1001,.blk 191 [.mp 1002]),(1002,.map true false 1 (Rw q)),(1003,.blk 28 [.arr 501 0 v.length]),(1004,.blk 192 [.clo 139 [.ptr 1000 0,.ptr 1001 0,.ptr 1003 0,.ptr 1004 0]]),(500,.arr 9 1 (g.map Zw)),(501,.arr 9 1 (v.map Zw))] (.tuple []) [(1000,.blk 28 [.arr 500 0 h2.length]),(1001,.blk 191 [.mp 1002]),(1002,.map true false 1 (Rw o2)),(1003,.blk 28 [.arr 501 0 u2.length]),(1004,.blk 192 [.clo 139 [.ptr 1000 0,.ptr 1001 0,.ptr 1003 0,.ptr 1004 0]]),(500,.arr 9 1 (h2.map Zw)),(501,.arr 9 1 (u2.map Zw))]] mixed ?_ (hr:=by conv=>lhs;simp [Tm.row,Tm.Q3,Cs.Q3,h1d,Cs.row])
  refine AWp.rg [] [] ?_ (hr:=by conv=>lhs;simp [Tm.row,Tm.Q3,Cs.Q3,h1d,Cs.row])
  refine ⟨⟨(j + 1,h2,u2,o2),hi1,⟨hH,hT,hO,by dsimp only;omega,by dsimp only;omega⟩⟩,by simp;omega,?_⟩
  dsimp only
  exact Le.sub (by simp) (by simp)
 have hi1 : j = tcs.length:=by have:=of_decide_eq_false hc;omega
 subst hi1
 clear hc
 rw [List.drop_length] at hw2
 simp only [Cs.J6,Cs.J2,Cs.Jq,List.reverse_nil,List.nil_append,List.append_nil] at hw2
 obtain ⟨hH,hT,hO,-,-⟩:=hw2
 refine AWp.exit ?_
 rw [hH,hT,hO]
 try dsimp only [Qq,Q8]
 apply Qv.normal
 ·rfl
 ·conv=>lhs;simp [Q9,Tryd.results139]
 ·rfl
 ·simp [Qj,Q4]
theorem need_all : ∀ N,NeedN N
 | 0=>fun t h=>by obtain ⟨tk,tn,ta,tb,tvs,txs,tcs⟩:=t;simp only [Tm.sz] at h;omega
 | N + 1=>need_step N (need_all N)
set_option maxHeartbeats 1000000 in
theorem cs_IndexFuncM (l : List ByteArray) (hl : l.length≤8796093022208) (p : ByteArray→Bool) (K : Nat) (t : TypeId) (E : List (D×List D))
  (hk : ∀ s∈l,X3 Tryd.prog K [.d (.str s),.ptr 1000 0] [(1000,.blk t [.mp 1002]),(1002,.map true false 1 E)] (.d (.bool (p s))) [(1000,.blk t [.mp 1002]),(1002,.map true false 1 E)]) :
  X3 Tryd.prog 160 [.arr 1001 0 l.length,.clo K [.ptr 1000 0]] [(1000,.blk t [.mp 1002]),(1002,.map true false 1 E),(1001,.arr 9 1 (l.map Zw))] (.d (.int (indexI l p))) [(1000,.blk t [.mp 1002]),(1002,.map true false 1 E),(1001,.arr 9 1 (l.map Zw))]:=by
 refine X3.of Tryd.func160 rfl rfl (Nat.le_of_ble_eq_true rfl) ?_
 show AWp _ _ (Qv _ Tryd.f160 _ _) (X8 19 _ _)
 repeat (first | refine AWp.seq ?_ | refine AWp.block ?_)
 apply AWp.reg [] []
 ·conv=>lhs;simp
 ·trivial
 repeat (first | refine AWp.seq ?_ | refine AWp.block ?_)
 apply AWp.reg [] []
 ·conv=>lhs;simp
 ·trivial
 repeat (first | refine AWp.seq ?_ | refine AWp.block ?_)
 refine AWp.loop (σ:=fun u : {i : Nat // i≤l.length∧∀ y∈l.take i,p y = false}=>⟨19,[(0,.arr 1001 0 l.length),(1,.clo K [.ptr 1000 0]),(7,.d (.int l.length)),(8,.d (.int u.1))],[(1000,some (.blk t [.mp 1002])),(1002,some (.map true false 1 E)),(1001,some (.arr 9 1 (l.map Zw)))]⟩)
  (μ:=fun u=>l.length - u.1) ⟨0,Nat.zero_le _,by simp⟩ (Le.sub (by simp) (by simp)) (fun ⟨i,hi,ht⟩=>?_)
 dsimp only
 repeat (first | refine AWp.seq ?_ | refine AWp.block ?_)
 apply AWp.reg [] []
 ·conv=>lhs;simp
 ·trivial
 repeat (first | refine AWp.seq ?_ | refine AWp.block ?_)
 refine AWp.cond rfl (fun h=>?_) (fun h=>?_)
 ·have hi1 : i < l.length:=by have:=of_decide_eq_true h;omega
  have h1 : l[i]? = some l[i]:=List.getElem?_eq_getElem hi1
  have hmem : l[i]∈l:=List.getElem_mem hi1
  generalize l[i] = y at h1 hmem
  have hc:=hk y hmem
  obtain ⟨B,hB⟩ : ∃ B,B = p y:=⟨_,rfl⟩
  rw [← hB] at hc
  refine AWp.skip ?_
  repeat (first | refine AWp.seq ?_ | refine AWp.block ?_)
  apply AWp.reg [] []
  ·conv=>lhs;simp
  ·trivial
  cases B with
  | true =>
   repeat (first | refine AWp.seq ?_ | refine AWp.block ?_)
   apply AWp.reg [] [.c [] [.d (.str y),.ptr 1000 0] [(1000,.blk t [.mp 1002]),(1002,.map true false 1 E)] (.d (.bool true)) [(1000,.blk t [.mp 1002]),(1002,.map true false 1 E)]]
   ·conv=>lhs;simp [h1]
   ·exact ⟨by omega,hc⟩
   repeat (first | refine AWp.seq ?_ | refine AWp.block ?_)
   refine AWp.cond rfl (fun h2=>?_) (fun h2=>?_)
   ·repeat (first | refine AWp.seq ?_ | refine AWp.block ?_)
    apply AWp.reg [] []
    ·conv=>lhs;simp
    ·trivial
    refine AWp.ret ?_
    try dsimp only [Qq,Q8]
    apply Qv.ret
    ·rfl
    ·conv=>lhs;simp [Q9,Tryd.results160]
    ·rw [indexI_some h1 ht hB.symm];rfl
    ·simp [Qj,Q4]
   ·simp at h2
  | false =>
   repeat (first | refine AWp.seq ?_ | refine AWp.block ?_)
   apply AWp.reg [] [.c [] [.d (.str y),.ptr 1000 0] [(1000,.blk t [.mp 1002]),(1002,.map true false 1 E)] (.d (.bool false)) [(1000,.blk t [.mp 1002]),(1002,.map true false 1 E)]]
   ·conv=>lhs;simp [h1]
   ·exact ⟨by omega,hc⟩
   repeat (first | refine AWp.seq ?_ | refine AWp.block ?_)
   refine AWp.cond rfl (fun h2=>?_) (fun h2=>?_)
   ·simp at h2
   refine AWp.skip ?_
   refine AWp.rg [] [] ?_
   refine ⟨⟨i + 1,hi1,take_all_snoc h1 ht hB.symm⟩,by simp;omega,Le.sub (by simp) (by simp)⟩
 have hi1 : i = l.length:=by have:=of_decide_eq_false h;omega
 subst hi1
 rw [List.take_length] at ht
 refine AWp.exit ?_
 repeat (first | refine AWp.seq ?_ | refine AWp.block ?_)
 apply AWp.reg [] []
 ·conv=>lhs;simp
 ·trivial
 refine AWp.ret ?_
 try dsimp only [Qq,Q8]
 apply Qv.ret
 ·rfl
 ·conv=>lhs;simp [Q9,Tryd.results160]
 ·rw [indexI_none ht];rfl
 ·simp [Qj,Q4]
set_option maxRecDepth 20000 in
set_option maxHeartbeats 4000000 in
theorem cs_DeleteFuncM (l : List ByteArray) (hl : l.length≤8796093022208) (p : ByteArray→Bool) (K : Nat) (t : TypeId) (E : List (D×List D))
  (hk : ∀ s∈l,X3 Tryd.prog K [.d (.str s),.ptr 1000 0] [(1000,.blk t [.mp 1002]),(1002,.map true false 1 E)] (.d (.bool (p s))) [(1000,.blk t [.mp 1002]),(1002,.map true false 1 E)]) :
  X3 Tryd.prog 141 [.arr 1001 0 l.length,.clo K [.ptr 1000 0]] [(1000,.blk t [.mp 1002]),(1002,.map true false 1 E),(1001,.arr 9 1 (l.map Zw))] (.arr 1001 0 (l.filter fun s=>!p s).length) [(1000,.blk t [.mp 1002]),(1002,.map true false 1 E),(1001,.arr 9 1 (Sz l p))]:=by
 have hix:=cs_IndexFuncM l hl p K t E hk
 refine X3.of Tryd.func141 rfl rfl (Nat.le_of_ble_eq_true rfl) ?_
 show AWp _ _ (Qv _ Tryd.f141 _ _) (X8 42 _ _)
 repeat (first | refine AWp.seq ?_ | refine AWp.block ?_)
 apply AWp.reg [] []
 ·conv=>lhs;simp
 ·trivial
 by_cases hno : ∀ y∈l,p y = false
 ·rw [indexI_none hno] at hix
  have hf : (l.filter fun s=>!p s) = l:=List.filter_eq_self.2 fun y hy=>by simp [hno y hy]
  repeat (first | refine AWp.seq ?_ | refine AWp.block ?_)
  apply AWp.reg [] [.c [] [.arr 1001 0 l.length,.clo K [.ptr 1000 0]] [(1000,.blk t [.mp 1002]),(1002,.map true false 1 E),(1001,.arr 9 1 (l.map Zw))] (.d (.int (-1))) [(1000,.blk t [.mp 1002]),(1002,.map true false 1 E),(1001,.arr 9 1 (l.map Zw))]]
  ·conv=>lhs;simp
  ·exact hix
  repeat (first | refine AWp.seq ?_ | refine AWp.block ?_)
  apply AWp.reg [] []
  ·conv=>lhs;simp
  ·trivial
  repeat (first | refine AWp.seq ?_ | refine AWp.block ?_)
  refine AWp.cond rfl (fun h=>?_) (fun h=>?_)
  ·repeat (first | refine AWp.seq ?_ | refine AWp.block ?_)
   apply AWp.reg [] []
   ·conv=>lhs;simp
   ·trivial
   refine AWp.ret ?_
   try dsimp only [Qq,Q8]
   apply Qv.ret
   ·rfl
   ·conv=>lhs;simp [Q9,Tryd.results141]
   ·rw [hf];rfl
   ·simp [Qj,Q4,Sz,hf]
  ·simp at h
 obtain ⟨i0,y0,hy0,hp0,hbefore⟩ : ∃ i0 y0,l[i0]? = some y0∧p y0 = true∧∀ y∈l.take i0,p y = false:=by
  have : ∃ i,l.findIdx? p = some i:=by
   cases hf : l.findIdx? p with
   | none=>exact absurd (List.findIdx?_eq_none_iff.1 hf) hno
   | some i=>exact ⟨i,rfl⟩
  obtain ⟨i,hi⟩:=this
  rw [List.findIdx?_eq_some_iff_getElem] at hi
  obtain ⟨h1,h2,h3⟩:=hi
  refine ⟨i,l[i],List.getElem?_eq_getElem h1,h2,fun y hy=>?_⟩
  obtain ⟨j,hj⟩:=List.mem_iff_getElem?.1 hy
  rw [List.getElem?_take] at hj
  split at hj
  ·rename_i hji
   have:=h3 j hji
   rw [List.getElem?_eq_getElem (by omega)] at hj
   cases hj
   simpa using this
  ·cases hj
 rw [indexI_some hy0 hbefore hp0] at hix
 have hi0 : i0 < l.length:=(List.getElem?_eq_some_iff.1 hy0).1
 have hne : ¬ ((i0 : Int) = -1):=by omega
 repeat (first | refine AWp.seq ?_ | refine AWp.block ?_)
 apply AWp.reg [] [.c [] [.arr 1001 0 l.length,.clo K [.ptr 1000 0]] [(1000,.blk t [.mp 1002]),(1002,.map true false 1 E),(1001,.arr 9 1 (l.map Zw))] (.d (.int i0)) [(1000,.blk t [.mp 1002]),(1002,.map true false 1 E),(1001,.arr 9 1 (l.map Zw))]]
 ·conv=>lhs;simp
 ·exact hix
 repeat (first | refine AWp.seq ?_ | refine AWp.block ?_)
 apply AWp.reg [] []
 ·conv=>lhs;simp [hne]
 ·trivial
 repeat (first | refine AWp.seq ?_ | refine AWp.block ?_)
 refine AWp.cond rfl (fun h=>?_) (fun h=>?_)
 ·simp at h
 refine AWp.skip ?_
 repeat (first | refine AWp.seq ?_ | refine AWp.block ?_)
 apply AWp.reg [] []
 ·conv=>lhs;simp
 ·simp [inI];omega
 repeat (first | refine AWp.seq ?_ | refine AWp.block ?_)
 have hk0 : ((l.take (i0 + 1)).filter fun s=>!p s) = l.take i0:=by
  rw [List.take_add_one,hy0,List.filter_append]
  simp [hp0]
  exact fun y hy=>by simpa using hbefore y hy
 refine AWp.loop (σ:=fun u : {q : Nat×List ByteArray // q.1≤l.length∧((l.take q.1).filter fun s=>!p s).length + q.2.length = q.1}=>⟨42,[(0,.arr 1001 0 l.length),(1,.clo K [.ptr 1000 0]),(5,.d (.int ((l.take u.1.1).filter fun s=>!p s).length)),(6,.d (.int u.1.1))],
   [(1000,some (.blk t [.mp 1002])),(1002,some (.map true false 1 E)),(1001,some (.arr 9 1 ((((l.take u.1.1).filter fun s=>!p s) ++ (u.1.2 ++ l.drop u.1.1)).map Zw)))]⟩)
  (μ:=fun u=>l.length - u.1.1) ⟨(i0 + 1,[y0]),hi0,by rw [hk0];simp;omega⟩ ?_ (fun ⟨⟨j,mid⟩,hj,hlen⟩=>?_)
 ·dsimp only
  rw [hk0]
  have e : l.take i0 ++ ([y0] ++ l.drop (i0 + 1)) = l:=by
   have h2:=List.drop_eq_getElem_cons hi0
   rw [List.getElem?_eq_getElem hi0] at hy0
   cases hy0
   rw [List.singleton_append,← h2,List.take_append_drop]
  rw [e]
  have e2 : (l.take i0).length = i0:=by simp;omega
  rw [e2]
  exact Le.sub (by simp) (by simp)
 dsimp only at hj hlen ⊢
 have hKl : ((l.take j).filter fun s=>!p s).length≤j:=by omega
 obtain ⟨kp,hkp⟩ : ∃ kp,kp = (l.take j).filter fun s=>!p s:=⟨_,rfl⟩
 rw [← hkp] at hlen hKl ⊢
 obtain ⟨R,hR⟩ : ∃ R,R = kp ++ (mid ++ l.drop j):=⟨_,rfl⟩
 have hRl : R.length = l.length:=by rw [hR];simp;omega
 rw [← hR]
 repeat (first | refine AWp.seq ?_ | refine AWp.block ?_)
 apply AWp.reg [] []
 ·conv=>lhs;simp
 ·trivial
 repeat (first | refine AWp.seq ?_ | refine AWp.block ?_)
 refine AWp.cond rfl (fun h=>?_) (fun h=>?_)
 ·have hj1 : j < l.length:=by have:=of_decide_eq_true h;omega
  have hv : l[j]? = some l[j]:=List.getElem?_eq_getElem hj1
  have hmem : l[j]∈l:=List.getElem_mem hj1
  have hd : l.drop j = l[j] :: l.drop (j + 1):=List.drop_eq_getElem_cons hj1
  generalize l[j] = v at hv hmem hd
  have hc:=hk v hmem
  obtain ⟨B,hB⟩ : ∃ B,B = p v:=⟨_,rfl⟩
  have ht : (l.take (j + 1)).filter (fun s=>!p s) = kp ++ (if B then [] else [v]):=by
   rw [List.take_add_one,hv,List.filter_append,← hkp,hB]
   cases hp : p v <;> simp [hp]
  rw [← hB] at hc
  have hRj : R[j]? = some v:=by
   rw [hR,hd,List.getElem?_append_right (by omega),List.getElem?_append_right (by omega)]
   rw [show j - kp.length - mid.length = 0 from by omega]
   rfl
  refine AWp.skip ?_
  refine AWp.rg [] [] ?_ (hr:=by conv=>lhs;simp [hRj,hRl])
  cases B with
  | true =>
   repeat (first | refine AWp.seq ?_ | refine AWp.block ?_)
   apply AWp.reg [] [.c [] [.d (.str v),.ptr 1000 0] [(1000,.blk t [.mp 1002]),(1002,.map true false 1 E)] (.d (.bool true)) [(1000,.blk t [.mp 1002]),(1002,.map true false 1 E)]]
   ·conv=>lhs;simp
   ·exact hc
   repeat (first | refine AWp.seq ?_ | refine AWp.block ?_)
   refine AWp.cond rfl (fun h2=>?_) (fun h2=>?_)
   ·simp at h2
   refine AWp.skip ?_
   refine AWp.rg [] [] ?_
   refine ⟨⟨(j + 1,mid ++ [v]),hj1,by dsimp only;rw [ht];simp;omega⟩,by simp;omega,?_⟩
   dsimp only
   rw [ht]
   simp only [if_true,List.append_nil]
   have e : kp ++ (mid ++ [v] ++ l.drop (j + 1)) = R:=by rw [hR,hd];simp
   rw [e]
   exact Le.sub (by simp) (by simp)
  | false =>
   repeat (first | refine AWp.seq ?_ | refine AWp.block ?_)
   apply AWp.reg [] [.c [] [.d (.str v),.ptr 1000 0] [(1000,.blk t [.mp 1002]),(1002,.map true false 1 E)] (.d (.bool false)) [(1000,.blk t [.mp 1002]),(1002,.map true false 1 E)]]
   ·conv=>lhs;simp
   ·exact hc
   obtain ⟨m',hm',hset⟩:=set_mid kp mid (l.drop (j + 1)) v
   rw [← hd,← hR] at hset
   have hRk : R[kp.length]? = some R[kp.length]:=List.getElem?_eq_getElem (by omega)
   generalize R[kp.length] = r at hRk
   repeat (first | refine AWp.seq ?_ | refine AWp.block ?_)
   refine AWp.cond rfl (fun h2=>?_) (fun h2=>?_)
   ·refine AWp.rg [] [] ?_ (hr:=by conv=>lhs;simp [hRk,hRl])
    refine AWp.rg [] [] ?_
    refine AWp.rg [] [] ?_
    refine ⟨⟨(j + 1,m'),hj1,by dsimp only;rw [ht];simp;omega⟩,by simp;omega,?_⟩
    dsimp only
    rw [ht]
    have e : kp ++ (if false = true then [] else [v]) ++ (m' ++ l.drop (j + 1)) = R.set kp.length v:=by rw [hset];simp
    rw [e]
    exact Le.sub (by simp) (by simp [List.map_set])
   ·simp at h2
 have hj1 : j = l.length:=by have:=of_decide_eq_false h;omega
 subst hj1
 rw [List.take_length] at hkp
 rw [List.drop_length,List.append_nil] at hR
 refine AWp.exit ?_
 have hmem : List.take kp.length (List.map Zw R) ++ (List.replicate (l.length - kp.length) [D.str ByteArray.empty] ++ List.drop (kp.length + (l.length - kp.length)) (List.map Zw R)) = Sz l p:=by
  rw [Sz,← hkp,hR,List.map_append,List.take_append_of_le_length (by simp),List.take_of_length_le (by simp),List.drop_eq_nil_of_le (by simp;omega),List.append_nil]
 refine AWp.rg [] [] ?_ (hr:=by conv=>lhs;simp [hRl])
 refine AWp.rg [] [] ?_ (hr:=by conv=>lhs;simp [hRl])
 rw [hmem]
 refine AWp.ret ?_
 try dsimp only [Qq,Q8]
 apply Qv.ret
 ·rfl
 ·conv=>lhs;simp [Q9,Tryd.results141]
 ·rw [hkp];rfl
 ·simp [Qj,Q4]
theorem hasB_rev (l : List ByteArray) (s : ByteArray) : hasB l.reverse s = hasB l s:=by
 rw [Bool.eq_iff_iff,Zx,Zx,List.mem_reverse]
mutual
theorem Tm.stT_ok : ∀ t : Tm,t.Ok→∀ s∈t.stT,s.size≤140737488355328
 | .mk k n a b vs xs cs,hO,s,hs=>by
  obtain ⟨o1,o2,o3,o4,o5⟩:=hO.vars
  rw [Tm.stT] at hs
  rcases List.mem_append.1 hs with hs | hs
  ·split at hs
   ·rw [List.mem_singleton.1 hs];exact o5
   ·cases hs
  ·rcases List.mem_append.1 hs with hs | hs
   ·exact Tm.stTL_ok xs (fun x hx=>Tm.Zq.1 hO.2.2.1 x hx) s hs
   ·exact Cs.stTL_ok cs (fun x hx=>Cs.Zq.1 hO.2.2.2 x hx) s hs
theorem Tm.stTL_ok : ∀ l : List Tm,(∀ x∈l,x.Ok)→∀ s∈Tm.J2 l,s.size≤140737488355328
 | [],_,s,hs=>by cases hs
 | x :: r,h,s,hs=>by
  rw [Tm.J2] at hs
  rcases List.mem_append.1 hs with hs | hs
  ·exact Tm.stT_ok x (h x (List.mem_cons_self ..)) s hs
  ·exact Tm.stTL_ok r (fun y hy=>h y (List.mem_cons_of_mem _ hy)) s hs
theorem Cs.stTL_ok : ∀ l : List Cs,(∀ x∈l,x.Ok)→∀ s∈Cs.J2 l,s.size≤140737488355328
 | [],_,s,hs=>by cases hs
 | x :: r,h,s,hs=>by
  rw [Cs.J2] at hs
  rcases List.mem_append.1 hs with hs | hs
  ·exact Cs.stT_ok x (h x (List.mem_cons_self ..)) s hs
  ·exact Cs.stTL_ok r (fun y hy=>h y (List.mem_cons_of_mem _ hy)) s hs
theorem Cs.stT_ok : ∀ c : Cs,c.Ok→∀ s∈c.stT,s.size≤140737488355328
 | .mk t ws y,hO,s,hs=>Tm.stT_ok y hO.2.2 s hs
end
set_option maxRecDepth 20000 in
set_option maxHeartbeats 16000000 in
theorem sp_needs (t : Tm) (hO : t.Ok) (hz : t.sz≤8000000000) : Qw Tryd.prog 122 [Xw t] (fun _=>.tuple [X6 t.ndN,X6 t.ndT]) none:=by
 have hlk:=need_all t.sz t (Nat.le_refl _) hO [] [] [] (by simpa using hz) (by simpa using hz)
 obtain ⟨z1,z2⟩:=t.st_len
 have hto:=t.stT_ok hO
 obtain ⟨LN,hLN⟩ : ∃ L,L = t.ndN:=⟨_,rfl⟩
 obtain ⟨LT,hLT⟩ : ∃ L,L = t.ndT:=⟨_,rfl⟩
 rw [← hLN,← hLT]
 unfold Tm.ndN at hLN
 unfold Tm.ndT at hLT
 obtain ⟨O,hOd⟩ : ∃ O,O = t.Xx.reverse:=⟨_,rfl⟩
 have hOh : ∀ s,hasB t.Xx s = hasB O s:=fun s=>by rw [hOd,hasB_rev]
 simp only [hOh] at hLN hLT
 simp only [List.nil_append,List.append_nil,sawD_nil,List.map_nil,List.length_nil,← hOd] at hlk
 generalize t.stN = N at *
 generalize t.stT = T at *
 have hsN:=cs_Sort N (by omega)
 have hsT:=cs_Sort T (by omega)
 have hN1:=srtB_len N
 have hT1:=srtB_len T
 have hT1m : ∀ s∈srtB T,s.size≤140737488355328:=fun s hs=>hto s ((Qq0 T).mem_iff.1 hs)
 generalize srtB N = N1 at *
 generalize srtB T = T1 at *
 have hcN:=cs_Compact N1 (by omega)
 have hcT:=cs_Compact T1 (by omega)
 have hlN:=cmpB_len N1
 have hlT:=cmpB_len T1
 have hCm : ∀ s∈Qz0 T1,s.size≤140737488355328:=fun s hs=>hT1m s ((cmpB_mem T1 s).1 hs)
 generalize Qz0 N1 = CN at *
 generalize Qz0 T1 = CT at *
 obtain ⟨RN,hRNd⟩ : ∃ R,R = (CN ++ List.replicate (N1.length - CN.length) ByteArray.empty).map Zw:=⟨_,rfl⟩
 obtain ⟨RT,hRTd⟩ : ∃ R,R = (CT ++ List.replicate (T1.length - CT.length) ByteArray.empty).map Zw:=⟨_,rfl⟩
 have hRNl : RN.length = N1.length:=by rw [hRNd];simp;omega
 have hRTl : RT.length = T1.length:=by rw [hRTd];simp;omega
 have hRN : RN.take CN.length = CN.map Zw:=by rw [hRNd,List.map_append,List.take_append_of_le_length (by simp),List.take_of_length_le (by simp)]
 have hRT : RT.take CT.length = CT.map Zw:=by rw [hRTd,List.map_append,List.take_append_of_le_length (by simp),List.take_of_length_le (by simp)]
 have hCN : CN.length≤RN.length:=by omega
 have hCT : CT.length≤RT.length:=by omega
 rw [← hRNd,hN1] at hcN
 rw [← hRTd,hT1] at hcT
 have hdN:=cs_DeleteFuncM CN (by omega) (hasB O) 143 191 (Rw O) (fun s _=>by simpa using cs_need2 O s)
 have hdT:=cs_DeleteFuncM CT (by omega) (fun s=>hasB O (excl s)) 144 191 (Rw O) (fun s hs=>by simpa using cs_need3 O s (hCm s hs))
 obtain ⟨QN,hQNd⟩ : ∃ Q,Q = Sz CN (hasB O):=⟨_,rfl⟩
 obtain ⟨QT,hQTd⟩ : ∃ Q,Q = Sz CT (fun s=>hasB O (excl s)):=⟨_,rfl⟩
 obtain ⟨nN,hnN⟩ : ∃ n,n = LN.length:=⟨_,rfl⟩
 obtain ⟨nT,hnT⟩ : ∃ n,n = LT.length:=⟨_,rfl⟩
 have hQN : QN.take nN = LN.map Zw:=by rw [hQNd,hnN,hLN,Sz,List.take_append_of_le_length (by simp),List.take_of_length_le (by simp)]
 have hQT : QT.take nT = LT.map Zw:=by rw [hQTd,hnT,hLT,Sz,List.take_append_of_le_length (by simp),List.take_of_length_le (by simp)]
 have hQNl : CN.length≤QN.length:=by
  have:=List.length_filter_le (fun s=>!hasB O s) CN
  rw [hQNd,Sz];simp;omega
 have hQTl : CT.length≤QT.length:=by
  have:=List.length_filter_le (fun s=>!hasB O (excl s)) CT
  rw [hQTd,Sz];simp;omega
 rw [← hQNd,← hLN,← hnN] at hdN
 rw [← hQTd,← hLT,← hnT] at hdT
 obtain ⟨tk,tn,ta,tb,tvs,txs,tcs⟩:=t
 simp only [Tm.row,Tm.Q3,Cs.Q3] at hlk
 clear hOh hOd
 refine Qw.of Tryd.func122 rfl rfl rfl (Nat.le_of_ble_eq_true rfl) ?_
 show AWp _ _ (Zk _ Tryd.f122 _ _ _) (Z7 24 _)
 refine AWp.rg [0] [] ?_ (hr:=by conv=>lhs;simp [Tm.row,Tm.Q3,Cs.Q3])
 refine AWp.rg [] [] ?_ (hr:=by conv=>lhs;simp [Tm.row,Tm.Q3,Cs.Q3])
 refine AWp.rg [] [] ?_ (hr:=by conv=>lhs;simp [Tm.row,Tm.Q3,Cs.Q3])
 refine AWp.rg [] [] ?_ (hr:=by conv=>lhs;simp [Tm.row,Tm.Q3,Cs.Q3])
 repeat (first | refine AWp.seq ?_ | refine AWp.block ?_)
 refine AWp.le (Le.low [400,401] [] (fr:=[(1,.d (.ptr [.int tk,.int tn,.str ta,.str tb,Q7 tvs,.sl (txs.map Tm.row),.sl (tcs.map Cs.row)])),(2,.ptr 2 0),(3,.ptr 3 0),(4,.ptr 4 0),(5,.ptr 5 0)]) (mem:=[(2,some (.blk 28 [.arr 400 0 0])),(3,some (.blk 28 [.arr 401 0 0])),(4,some (.blk 191 [.mp 6])),(5,some (.blk 192 [.clo 139 [.ptr 2 0,.ptr 4 0,.ptr 3 0,.ptr 5 0]])),(6,some (.map true false 1 ([]))),(400,some (.arr 9 1 ([]))),(401,some (.arr 9 1 ([])))]) rfl (by simp) (by simp)) ?_
 refine AWp.rg [] [.c [(1000,2),(1001,4),(1002,6),(1003,3),(1004,5),(500,400),(501,401)] [.d (.ptr [.int tk,.int tn,.str ta,.str tb,Q7 tvs,.sl (txs.map Tm.row),.sl (tcs.map Cs.row)]),.ptr 1000 0,.ptr 1001 0,.ptr 1003 0,.ptr 1004 0] [(1000,.blk 28 [.arr 500 0 0]),(1001,.blk 191 [.mp 1002]),(1002,.map true false 1 ([])),(1003,.blk 28 [.arr 501 0 0]),(1004,.blk 192 [.clo 139 [.ptr 1000 0,.ptr 1001 0,.ptr 1003 0,.ptr 1004 0]]),(500,.arr 9 1 ([])),(501,.arr 9 1 ([]))] (.tuple []) [(1000,.blk 28 [.arr 500 0 N.length]),(1001,.blk 191 [.mp 1002]),(1002,.map true false 1 (Rw O)),(1003,.blk 28 [.arr 501 0 T.length]),(1004,.blk 192 [.clo 139 [.ptr 1000 0,.ptr 1001 0,.ptr 1003 0,.ptr 1004 0]]),(500,.arr 9 1 (N.map Zw)),(501,.arr 9 1 (T.map Zw))]] ?_ (hr:=by conv=>lhs;simp [Tm.row,Tm.Q3,Cs.Q3])
 refine AWp.rg [] [.c [(1000,400)] [.arr 1000 0 N.length] [(1000,.arr 9 1 (N.map Zw))] (.tuple []) [(1000,.arr 9 1 (N1.map Zw))]] ?_ (hr:=by conv=>lhs;simp [Tm.row,Tm.Q3,Cs.Q3])
 refine AWp.rg [] [.c [(1000,401)] [.arr 1000 0 T.length] [(1000,.arr 9 1 (T.map Zw))] (.tuple []) [(1000,.arr 9 1 (T1.map Zw))]] ?_ (hr:=by conv=>lhs;simp [Tm.row,Tm.Q3,Cs.Q3])
 repeat (first | refine AWp.seq ?_ | refine AWp.block ?_)
 refine AWp.ops ?_
 apply U8.run (l1:=[_,_]) (l2:=[_,_,_]) (k:=0) [] [.c [(1000,400)] [.arr 1000 0 N.length] [(1000,.arr 9 1 (N1.map Zw))] (.arr 1000 0 CN.length) [(1000,.arr 9 1 RN)]]
 ·conv=>lhs;simp [Tm.row,Tm.Q3,Cs.Q3]
 ·(repeat' apply And.intro) <;> first | omega | assumption | trivial | (intros;subst_vars;rfl) | (intro i r h;rcases i with _ | i <;> simp at h;subst h;rfl) | (simp [inI,maxLen];done) | (simp [inI,maxLen];omega)
 refine U8.le (Le.low [] [] (fr:=[(2,.ptr 2 0),(3,.ptr 3 0),(4,.ptr 4 0),(15,.arr 400 0 CN.length)]) (mem:=[(2,some (.blk 28 [.any])),(3,some (.blk 28 [.arr 401 0 T.length])),(4,some (.blk 191 [.mp 6])),(6,some (.map true false 1 (Rw O))),(400,some (.arr 9 1 RN)),(401,some (.arr 9 1 (T1.map Zw)))]) rfl (by simp) (by simp)) ?_
 refine U8.le (Le.cut 400 CN.length rfl hRN hCN (by simp [frInK,AV.inK,AV.inKL]) (by simp [memInK,AV.inK,AV.inKL])) ?_
 apply U8.run (l1:=[_,_,_]) (l2:=[]) (k:=2) [] [.c [(1000,4),(1002,6),(1001,400)] [.arr 1001 0 CN.length,.clo 143 [.ptr 1000 0]] [(1000,.blk 191 [.mp 1002]),(1002,.map true false 1 (Rw O)),(1001,.arr 9 1 (CN.map Zw))] (.arr 1001 0 nN) [(1000,.blk 191 [.mp 1002]),(1002,.map true false 1 (Rw O)),(1001,.arr 9 1 QN)]]
 ·conv=>lhs;simp [Tm.row,Tm.Q3,Cs.Q3]
 ·(repeat' apply And.intro) <;> first | omega | assumption | trivial | (intros;subst_vars;rfl) | (intro i r h;rcases i with _ | i <;> simp at h;subst h;rfl) | (simp [inI,maxLen];done) | (simp [inI,maxLen];omega)
 refine U8.nil ?_
 repeat (first | refine AWp.seq ?_ | refine AWp.block ?_)
 refine AWp.ops ?_
 apply U8.run (l1:=[_,_]) (l2:=[_,_,_]) (k:=0) [] [.c [(1000,401)] [.arr 1000 0 T.length] [(1000,.arr 9 1 (T1.map Zw))] (.arr 1000 0 CT.length) [(1000,.arr 9 1 RT)]]
 ·conv=>lhs;simp [Tm.row,Tm.Q3,Cs.Q3]
 ·(repeat' apply And.intro) <;> first | omega | assumption | trivial | (intros;subst_vars;rfl) | (intro i r h;rcases i with _ | i <;> simp at h;subst h;rfl) | (simp [inI,maxLen];done) | (simp [inI,maxLen];omega)
 refine U8.le (Le.low [] [] (fr:=[(2,.ptr 2 0),(3,.ptr 3 0),(4,.ptr 4 0),(19,.arr 401 0 CT.length)]) (mem:=[(2,some (.blk 28 [.arr 400 0 nN])),(3,some (.blk 28 [.any])),(4,some (.blk 191 [.mp 6])),(6,some (.map true false 1 (Rw O))),(400,some (.arr 9 1 QN)),(401,some (.arr 9 1 RT))]) rfl (by simp) (by simp)) ?_
 refine U8.le (Le.cut 401 CT.length rfl hRT hCT (by simp [frInK,AV.inK,AV.inKL]) (by simp [memInK,AV.inK,AV.inKL])) ?_
 apply U8.run (l1:=[_,_,_]) (l2:=[]) (k:=2) [] [.c [(1000,4),(1002,6),(1001,401)] [.arr 1001 0 CT.length,.clo 144 [.ptr 1000 0]] [(1000,.blk 191 [.mp 1002]),(1002,.map true false 1 (Rw O)),(1001,.arr 9 1 (CT.map Zw))] (.arr 1001 0 nT) [(1000,.blk 191 [.mp 1002]),(1002,.map true false 1 (Rw O)),(1001,.arr 9 1 QT)]]
 ·conv=>lhs;simp [Tm.row,Tm.Q3,Cs.Q3]
 ·(repeat' apply And.intro) <;> first | omega | assumption | trivial | (intros;subst_vars;rfl) | (intro i r h;rcases i with _ | i <;> simp at h;subst h;rfl) | (simp [inI,maxLen];done) | (simp [inI,maxLen];omega)
 refine U8.nil ?_
 refine AWp.dw [] [] mixed ?_ (hr:=by conv=>lhs;simp [Tm.row,Tm.Q3,Cs.Q3])
 refine AWp.ret ?_
 try dsimp only [Qq,Q8]
 apply Zk.Qq1 [400,401]
 ·rfl
 ·conv=>lhs;simp
 ·conv=>lhs;simp [Q9,Tryd.results122]
 simp [Z6,AV.J3,hQN,hQT]
end Go.Proofs.YtjpldhjgehoffaaDoor
