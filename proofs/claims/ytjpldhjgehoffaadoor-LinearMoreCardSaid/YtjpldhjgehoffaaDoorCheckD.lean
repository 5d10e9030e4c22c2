import Derived.Test.YtjpldhjgehoffaaDoorParseE
import Derived.Test.YtjpldhjgehoffaaDoorCheckA
namespace Go.Proofs.YtjpldhjgehoffaaDoor
open Go.RowKit
attribute [local simp] Cq mkRc ldOf stOf Qz4 Fq M4 Rq K7 V3 Yv K4 J7 Y9 L9 evA Kv G8 Value.oneCell' Zj Q4 Z7 Iz Vz Z0 AS.after Z8 K8 Jv AV.ids Mq Qz.ids Qj3 F9 Wv U9 G6 Y0 Y5 Kk V9 V7 Yz Ov T9 setAt Vj Cj Gq Pj R9 Pk binI AV.cells J9 Jz R8 U1 AV.kill Qz.kill AV.has AV.K9 Op.operands Call.operands Gj Hw Zv Oz Zz Xz Tk moQ M6 Uz Yw AV.ren Tj Qz.ren Qz.like kept X8 M5 AV.frz Pz Cw Ex H9 F3 AS.frz Mv Uw Qz.frz Rx Rj bleF Nat.ble_eq R4 Ww K3 D.Yx F5 Uv Vx Vq phO Px Gz Wx U0 K6 Low Sq
set_option linter.unusedVariables false
set_option linter.unusedSimpArgs false
def arD (f : Y3) : List (D×List D):=f.map fun x=>(.str x.1,[.int x.2])
theorem Kw (f : Y3) (s : ByteArray) : D.Xk (.str s) (arD f) = (f.get s).map fun n=>[.int n]:=by
 unfold arD Y3.get
 induction f with
 | nil=>simp [D.Xk]
 | cons x r ih =>
  simp only [List.map_cons,List.find?_cons]
  by_cases h : x.1 = s
  ·simp [D.Xk,D.keq,h]
  ·have h' : ¬ s = x.1:=fun e=>h e.symm
   simp only [h,decide_false]
   rw [← ih]
   simp [D.Xk,D.keq,h]
theorem Tm.Ok.names {k n : Int} {a b : ByteArray} {vs : List ByteArray} {xs : List Tm} {cs : List Cs} (h : (Tm.mk k n a b vs xs cs).Ok) : ∀ {t : Int} {ws : List ByteArray} {x : Tm},Cs.mk t ws x∈cs→∀ s∈ws,s.size≤140737488355328 :=
 fun hm=>(h.case hm).sizes
def csObj (g : Int) (ws : List ByteArray) (k n : Int) (a b : ByteArray) (vs : List ByteArray) (xs : List Tm) (cs : List Cs) : Option Qz:=some (.blk 42 (.d (.int g) :: .d (Q7 ws) :: tmCells k n a b vs xs cs))
abbrev Nw (f : Y3) : Qz:=fnsObj (arD f)
set_option maxRecDepth 20000 in
set_option maxHeartbeats 16000000 in
theorem cs_Wrong_at (f : Y3) : ∀ (N : Nat) (t : Tm) (names : List ByteArray) (deep : Int),t.sz < N→t.Ok→0≤deep→deep≤25→(names.length : Int)≤1048576 + 8 * deep →
  X3 Tryd.prog 31 [.mp 1000,Xw t,X6 names,.d (.int deep)] [(1000,Nw f)] (.d (.int (t.wrong f names deep))) [(1000,Nw f)]:=by
 intro N
 induction N with
 | zero=>intro t _ _ h;omega
 | succ N ih =>
 intro t names deep hN hO hd0 hd1 hnl
 obtain ⟨k,n,a,b,vs,xs,cs⟩:=t
 obtain ⟨o1,o2,o3,o4,o5⟩:=hO.vars
 refine X3.of Tryd.func31 rfl rfl (Nat.le_of_ble_eq_true rfl) ?_
 show AWp _ _ (Qv _ Tryd.f31 _ _) (X8 235 _ _)
 repeat (first | refine AWp.seq ?_ | refine AWp.block ?_)
 apply AWp.reg [] []
 ·conv=>lhs;simp
 ·trivial
 by_cases hdeep : 24 < deep
 ·repeat (first | refine AWp.seq ?_ | refine AWp.block ?_)
  apply AWp.reg [] []
  ·conv=>lhs;simp [hdeep]
  ·trivial
  refine AWp.cy ?_
  repeat (first | refine AWp.seq ?_ | refine AWp.block ?_)
  apply AWp.reg [] []
  ·conv=>lhs;simp
  ·trivial
  refine AWp.ret ?_
  try dsimp only [Qq,Q8]
  apply Qv.ret
  ·rfl
  ·conv=>lhs;simp [Q9,Tryd.results31]
  ·simp only [Tm.wrong,if_pos hdeep];rfl
  ·simp [Qj,Q4]
 repeat (first | refine AWp.seq ?_ | refine AWp.block ?_)
 apply AWp.reg [] []
 ·conv=>lhs;simp [hdeep]
 ·trivial
 refine AWp.cn ?_
 refine AWp.skip ?_
 by_cases hk1 : k < 1
 ·repeat (first | refine AWp.seq ?_ | refine AWp.block ?_)
  apply AWp.reg [] []
  ·conv=>lhs;simp [hk1]
  ·trivial
  refine AWp.cy ?_
  repeat (first | refine AWp.seq ?_ | refine AWp.block ?_)
  apply AWp.reg [] []
  ·conv=>lhs;simp
  ·trivial
  refine AWp.ret ?_
  try dsimp only [Qq,Q8]
  apply Qv.ret
  ·rfl
  ·conv=>lhs;simp [Q9,Tryd.results31]
  ·simp only [Tm.wrong,if_neg hdeep,if_pos (Or.inl hk1 : k < 1∨7 < k)];rfl
  ·simp [Qj,Q4]
 by_cases hk7 : 7 < k
 ·repeat (first | refine AWp.seq ?_ | refine AWp.block ?_)
  apply AWp.reg [] []
  ·conv=>lhs;simp [hk1,hk7]
  ·trivial
  refine AWp.cy ?_
  repeat (first | refine AWp.seq ?_ | refine AWp.block ?_)
  apply AWp.reg [] []
  ·conv=>lhs;simp
  ·trivial
  refine AWp.ret ?_
  try dsimp only [Qq,Q8]
  apply Qv.ret
  ·rfl
  ·conv=>lhs;simp [Q9,Tryd.results31]
  ·simp only [Tm.wrong,if_neg hdeep,if_pos (Or.inr hk7 : k < 1∨7 < k)];rfl
  ·simp [Qj,Q4]
 repeat (first | refine AWp.seq ?_ | refine AWp.block ?_)
 apply AWp.reg [] []
 ·conv=>lhs;simp [hk1,hk7]
 ·trivial
 refine AWp.cn ?_
 refine AWp.skip ?_
 have hkk : ¬ (k < 1∨7 < k):=by omega
 have hk : k = 1∨k = 2∨k = 3∨k = 4∨k = 5∨k = 6∨k = 7:=by omega
 obtain ⟨A,hA⟩ : ∃ A : Int,(xs.length : Int) = A:=⟨_,rfl⟩
 obtain ⟨C,hC⟩ : ∃ C : Int,(cs.length : Int) = C:=⟨_,rfl⟩
 obtain ⟨na,hN0⟩ : ∃ na : Nat,xs.length = na:=⟨_,rfl⟩
 obtain ⟨nc,hC0⟩ : ∃ nc : Nat,cs.length = nc:=⟨_,rfl⟩
 have hA1 : A = na:=by omega
 have hC1 : C = nc:=by omega
 by_cases hm : Xq k na nc = true
 ·rcases hk with rfl | rfl | rfl | rfl | rfl | rfl | rfl
  ·refine AWp.rg [] [] ?_
   by_cases c1 : 0 < A
   ·refine AWp.rg [] [] ?_ (hr:=by conv=>lhs;simp [Qx,hA,hC,c1])
    refine AWp.cy ?_
    refine AWp.rg [] [] ?_
    refine AWp.ret ?_
    try dsimp only [Qq,Q8]
    apply Qv.ret
    ·rfl
    ·conv=>lhs;simp [Q9,Tryd.results31]
    ·simp only [Tm.wrong,if_neg hdeep,if_neg hkk,hN0,hC0,if_pos hm];rfl
    ·simp [Qj,Q4]
   by_cases c2 : A = 0
   ·have c3 : 0 < C:=by simp [Xq] at hm;omega
    refine AWp.rg [] [] ?_ (hr:=by conv=>lhs;simp [Qx,hA,hC,c1,c2,c3])
    refine AWp.cy ?_
    refine AWp.rg [] [] ?_
    refine AWp.ret ?_
    try dsimp only [Qq,Q8]
    apply Qv.ret
    ·rfl
    ·conv=>lhs;simp [Q9,Tryd.results31]
    ·simp only [Tm.wrong,if_neg hdeep,if_neg hkk,hN0,hC0,if_pos hm];rfl
    ·simp [Qj,Q4]
   refine AWp.rg [] [] ?_ (hr:=by conv=>lhs;simp [Qx,hA,hC,c1,c2])
   refine AWp.cy ?_
   refine AWp.rg [] [] ?_
   refine AWp.ret ?_
   try dsimp only [Qq,Q8]
   apply Qv.ret
   ·rfl
   ·conv=>lhs;simp [Q9,Tryd.results31]
   ·simp only [Tm.wrong,if_neg hdeep,if_neg hkk,hN0,hC0,if_pos hm];rfl
   ·simp [Qj,Q4]
  ·refine AWp.rg [] [] ?_
   by_cases c1 : 0 < A
   ·refine AWp.rg [] [] ?_ (hr:=by conv=>lhs;simp [Qx,hA,hC,c1])
    refine AWp.cy ?_
    refine AWp.rg [] [] ?_
    refine AWp.ret ?_
    try dsimp only [Qq,Q8]
    apply Qv.ret
    ·rfl
    ·conv=>lhs;simp [Q9,Tryd.results31]
    ·simp only [Tm.wrong,if_neg hdeep,if_neg hkk,hN0,hC0,if_pos hm];rfl
    ·simp [Qj,Q4]
   by_cases c2 : A = 0
   ·have c3 : 0 < C:=by simp [Xq] at hm;omega
    refine AWp.rg [] [] ?_ (hr:=by conv=>lhs;simp [Qx,hA,hC,c1,c2,c3])
    refine AWp.cy ?_
    refine AWp.rg [] [] ?_
    refine AWp.ret ?_
    try dsimp only [Qq,Q8]
    apply Qv.ret
    ·rfl
    ·conv=>lhs;simp [Q9,Tryd.results31]
    ·simp only [Tm.wrong,if_neg hdeep,if_neg hkk,hN0,hC0,if_pos hm];rfl
    ·simp [Qj,Q4]
   refine AWp.rg [] [] ?_ (hr:=by conv=>lhs;simp [Qx,hA,hC,c1,c2])
   refine AWp.cy ?_
   refine AWp.rg [] [] ?_
   refine AWp.ret ?_
   try dsimp only [Qq,Q8]
   apply Qv.ret
   ·rfl
   ·conv=>lhs;simp [Q9,Tryd.results31]
   ·simp only [Tm.wrong,if_neg hdeep,if_neg hkk,hN0,hC0,if_pos hm];rfl
   ·simp [Qj,Q4]
  ·refine AWp.rg [] [] ?_
   by_cases c1 : 6 < A
   ·refine AWp.rg [] [] ?_ (hr:=by conv=>lhs;simp [Qx,hA,hC,c1])
    refine AWp.cy ?_
    refine AWp.rg [] [] ?_
    refine AWp.ret ?_
    try dsimp only [Qq,Q8]
    apply Qv.ret
    ·rfl
    ·conv=>lhs;simp [Q9,Tryd.results31]
    ·simp only [Tm.wrong,if_neg hdeep,if_neg hkk,hN0,hC0,if_pos hm];rfl
    ·simp [Qj,Q4]
   have c3 : 0 < C:=by simp [Xq] at hm;omega
   refine AWp.rg [] [] ?_ (hr:=by conv=>lhs;simp [Qx,hA,hC,c1,c3])
   refine AWp.cy ?_
   refine AWp.rg [] [] ?_
   refine AWp.ret ?_
   try dsimp only [Qq,Q8]
   apply Qv.ret
   ·rfl
   ·conv=>lhs;simp [Q9,Tryd.results31]
   ·simp only [Tm.wrong,if_neg hdeep,if_neg hkk,hN0,hC0,if_pos hm];rfl
   ·simp [Qj,Q4]
  ·refine AWp.rg [] [] ?_
   by_cases c1 : 6 < A
   ·refine AWp.rg [] [] ?_ (hr:=by conv=>lhs;simp [Qx,hA,hC,c1])
    refine AWp.cy ?_
    refine AWp.rg [] [] ?_
    refine AWp.ret ?_
    try dsimp only [Qq,Q8]
    apply Qv.ret
    ·rfl
    ·conv=>lhs;simp [Q9,Tryd.results31]
    ·simp only [Tm.wrong,if_neg hdeep,if_neg hkk,hN0,hC0,if_pos hm];rfl
    ·simp [Qj,Q4]
   have c3 : 0 < C:=by simp [Xq] at hm;omega
   refine AWp.rg [] [] ?_ (hr:=by conv=>lhs;simp [Qx,hA,hC,c1,c3])
   refine AWp.cy ?_
   refine AWp.rg [] [] ?_
   refine AWp.ret ?_
   try dsimp only [Qq,Q8]
   apply Qv.ret
   ·rfl
   ·conv=>lhs;simp [Q9,Tryd.results31]
   ·simp only [Tm.wrong,if_neg hdeep,if_neg hkk,hN0,hC0,if_pos hm];rfl
   ·simp [Qj,Q4]
  ·refine AWp.rg [] [] ?_
   by_cases c1 : 2 < A
   ·refine AWp.rg [] [] ?_ (hr:=by conv=>lhs;simp [Qx,hA,hC,c1])
    refine AWp.cy ?_
    refine AWp.rg [] [] ?_
    refine AWp.ret ?_
    try dsimp only [Qq,Q8]
    apply Qv.ret
    ·rfl
    ·conv=>lhs;simp [Q9,Tryd.results31]
    ·simp only [Tm.wrong,if_neg hdeep,if_neg hkk,hN0,hC0,if_pos hm];rfl
    ·simp [Qj,Q4]
   by_cases c2 : A = 2
   ·have c3 : 0 < C:=by simp [Xq] at hm;omega
    refine AWp.rg [] [] ?_ (hr:=by conv=>lhs;simp [Qx,hA,hC,c1,c2,c3])
    refine AWp.cy ?_
    refine AWp.rg [] [] ?_
    refine AWp.ret ?_
    try dsimp only [Qq,Q8]
    apply Qv.ret
    ·rfl
    ·conv=>lhs;simp [Q9,Tryd.results31]
    ·simp only [Tm.wrong,if_neg hdeep,if_neg hkk,hN0,hC0,if_pos hm];rfl
    ·simp [Qj,Q4]
   refine AWp.rg [] [] ?_ (hr:=by conv=>lhs;simp [Qx,hA,hC,c1,c2])
   refine AWp.cy ?_
   refine AWp.rg [] [] ?_
   refine AWp.ret ?_
   try dsimp only [Qq,Q8]
   apply Qv.ret
   ·rfl
   ·conv=>lhs;simp [Q9,Tryd.results31]
   ·simp only [Tm.wrong,if_neg hdeep,if_neg hkk,hN0,hC0,if_pos hm];rfl
   ·simp [Qj,Q4]
  ·refine AWp.rg [] [] ?_
   by_cases c1 : 2 < A
   ·refine AWp.rg [] [] ?_ (hr:=by conv=>lhs;simp [Qx,hA,hC,c1])
    refine AWp.cy ?_
    refine AWp.rg [] [] ?_
    refine AWp.ret ?_
    try dsimp only [Qq,Q8]
    apply Qv.ret
    ·rfl
    ·conv=>lhs;simp [Q9,Tryd.results31]
    ·simp only [Tm.wrong,if_neg hdeep,if_neg hkk,hN0,hC0,if_pos hm];rfl
    ·simp [Qj,Q4]
   by_cases c2 : A = 2
   ·have c3 : 0 < C:=by simp [Xq] at hm;omega
    refine AWp.rg [] [] ?_ (hr:=by conv=>lhs;simp [Qx,hA,hC,c1,c2,c3])
    refine AWp.cy ?_
    refine AWp.rg [] [] ?_
    refine AWp.ret ?_
    try dsimp only [Qq,Q8]
    apply Qv.ret
    ·rfl
    ·conv=>lhs;simp [Q9,Tryd.results31]
    ·simp only [Tm.wrong,if_neg hdeep,if_neg hkk,hN0,hC0,if_pos hm];rfl
    ·simp [Qj,Q4]
   refine AWp.rg [] [] ?_ (hr:=by conv=>lhs;simp [Qx,hA,hC,c1,c2])
   refine AWp.cy ?_
   refine AWp.rg [] [] ?_
   refine AWp.ret ?_
   try dsimp only [Qq,Q8]
   apply Qv.ret
   ·rfl
   ·conv=>lhs;simp [Q9,Tryd.results31]
   ·simp only [Tm.wrong,if_neg hdeep,if_neg hkk,hN0,hC0,if_pos hm];rfl
   ·simp [Qj,Q4]
  ·refine AWp.rg [] [] ?_
   by_cases c1 : 1 < A
   ·refine AWp.rg [] [] ?_ (hr:=by conv=>lhs;simp [Qx,hA,hC,c1])
    refine AWp.cy ?_
    refine AWp.rg [] [] ?_
    refine AWp.ret ?_
    try dsimp only [Qq,Q8]
    apply Qv.ret
    ·rfl
    ·conv=>lhs;simp [Q9,Tryd.results31]
    ·simp only [Tm.wrong,if_neg hdeep,if_neg hkk,hN0,hC0,if_pos hm];rfl
    ·simp [Qj,Q4]
   have c2 : ¬ A = 1:=by simp [Xq] at hm;omega
   refine AWp.rg [] [] ?_ (hr:=by conv=>lhs;simp [Qx,hA,hC,c1,c2])
   refine AWp.cy ?_
   refine AWp.rg [] [] ?_
   refine AWp.ret ?_
   try dsimp only [Qq,Q8]
   apply Qv.ret
   ·rfl
   ·conv=>lhs;simp [Q9,Tryd.results31]
   ·simp only [Tm.wrong,if_neg hdeep,if_neg hkk,hN0,hC0,if_pos hm];rfl
   ·simp [Qj,Q4]
 refine AWp.seqJ2 ⟨235,[(0,.mp 1000),(2,X6 names),(3,.d (.int deep)),(5,.ptr 5 0)],[(5,Qx k n a b vs xs cs),(1000,some (Nw f))]⟩ ?_ (fun W hW=>?_)
 rotate_left
 ·rcases hk with rfl | rfl | rfl | rfl | rfl | rfl | rfl
  ·have c1 : ¬ 0 < A:=by simp [Xq] at hm;omega
   have c2 : A = 0:=by simp [Xq] at hm;omega
   have c3 : ¬ 0 < C:=by simp [Xq] at hm;omega
   refine AWp.rg [] [] ?_
   refine AWp.rg [] [] ?_ (hr:=by conv=>lhs;simp [Qx,hA,hC,c1,c2,c3])
   refine AWp.cn ?_
   refine AWp.skip ?_
   exact hW _ (Le.sub (by simp) (by simp [Qx]))
  ·have c1 : ¬ 0 < A:=by simp [Xq] at hm;omega
   have c2 : A = 0:=by simp [Xq] at hm;omega
   have c3 : ¬ 0 < C:=by simp [Xq] at hm;omega
   refine AWp.rg [] [] ?_
   refine AWp.rg [] [] ?_ (hr:=by conv=>lhs;simp [Qx,hA,hC,c1,c2,c3])
   refine AWp.cn ?_
   refine AWp.skip ?_
   exact hW _ (Le.sub (by simp) (by simp [Qx]))
  ·have c1 : ¬ 6 < A:=by simp [Xq] at hm;omega
   have c3 : ¬ 0 < C:=by simp [Xq] at hm;omega
   refine AWp.rg [] [] ?_
   refine AWp.rg [] [] ?_ (hr:=by conv=>lhs;simp [Qx,hA,hC,c1,c3])
   refine AWp.cn ?_
   refine AWp.skip ?_
   exact hW _ (Le.sub (by simp) (by simp [Qx]))
  ·have c1 : ¬ 6 < A:=by simp [Xq] at hm;omega
   have c3 : ¬ 0 < C:=by simp [Xq] at hm;omega
   refine AWp.rg [] [] ?_
   refine AWp.rg [] [] ?_ (hr:=by conv=>lhs;simp [Qx,hA,hC,c1,c3])
   refine AWp.cn ?_
   refine AWp.skip ?_
   exact hW _ (Le.sub (by simp) (by simp [Qx]))
  ·have c1 : ¬ 2 < A:=by simp [Xq] at hm;omega
   have c2 : A = 2:=by simp [Xq] at hm;omega
   have c3 : ¬ 0 < C:=by simp [Xq] at hm;omega
   refine AWp.rg [] [] ?_
   refine AWp.rg [] [] ?_ (hr:=by conv=>lhs;simp [Qx,hA,hC,c1,c2,c3])
   refine AWp.cn ?_
   refine AWp.skip ?_
   exact hW _ (Le.sub (by simp) (by simp [Qx]))
  ·have c1 : ¬ 2 < A:=by simp [Xq] at hm;omega
   have c2 : A = 2:=by simp [Xq] at hm;omega
   have c3 : ¬ 0 < C:=by simp [Xq] at hm;omega
   refine AWp.rg [] [] ?_
   refine AWp.rg [] [] ?_ (hr:=by conv=>lhs;simp [Qx,hA,hC,c1,c2,c3])
   refine AWp.cn ?_
   refine AWp.skip ?_
   exact hW _ (Le.sub (by simp) (by simp [Qx]))
  ·have c1 : ¬ 1 < A:=by simp [Xq] at hm;omega
   have c2 : A = 1:=by simp [Xq] at hm;omega
   refine AWp.rg [] [] ?_
   refine AWp.rg [] [] ?_ (hr:=by conv=>lhs;simp [Qx,hA,hC,c1,c2])
   refine AWp.cn ?_
   refine AWp.skip ?_
   exact hW _ (Le.sub (by simp) (by simp [Qx]))
 have hm' : Xq k na nc = false:=by simpa using hm
 have hna : na≤6:=by
  rcases hk with rfl | rfl | rfl | rfl | rfl | rfl | rfl <;> simp [Xq] at hm' <;> omega
 have hHas:=sp_Has names a (by omega)
 have hNm:=sp_Name a (by omega)
 by_cases hh : Y1 f k n a names na = 0
 rotate_left
 ·rcases hk with rfl | rfl | rfl | rfl | rfl | rfl | rfl
  ·refine AWp.rg [] [] ?_ (hr:=by conv=>lhs;simp [Qx])
   refine AWp.rg [] [] ?_ (hr:=by conv=>lhs;simp [Qx])
   refine AWp.cy ?_
   have hv : hasB names a = false:=by simp [Y1] at hh;exact hh
   rw [hv] at hHas
   repeat (first | refine AWp.seq ?_ | refine AWp.block ?_)
   apply AWp.reg [] [.p (fun _=>.d (.bool false)) none]
   ·conv=>lhs;simp [Qx]
   ·exact hHas
   refine AWp.cy ?_
   refine AWp.rg [] [] ?_
   refine AWp.ret ?_
   try dsimp only [Qq,Q8]
   apply Qv.ret
   ·rfl
   ·conv=>lhs;simp [Q9,Tryd.results31]
   ·simp only [Tm.wrong,if_neg hdeep,if_neg hkk,hN0,hC0,if_neg hm,Y1,hv];rfl
   ·simp [Qj,Q4]
  ·refine AWp.rg [] [] ?_ (hr:=by conv=>lhs;simp [Qx])
   refine AWp.rg [] [] ?_ (hr:=by conv=>lhs;simp [Qx])
   refine AWp.cn ?_
   refine AWp.rg [] [] ?_ (hr:=by conv=>lhs;simp [Qx])
   refine AWp.cy ?_
   by_cases c1 : n < -2147483648
   ·refine AWp.rg [] [] ?_ (hr:=by conv=>lhs;simp [Qx,c1])
    refine AWp.cy ?_
    refine AWp.rg [] [] ?_
    refine AWp.ret ?_
    try dsimp only [Qq,Q8]
    apply Qv.ret
    ·rfl
    ·conv=>lhs;simp [Q9,Tryd.results31]
    ·simp only [Tm.wrong,if_neg hdeep,if_neg hkk,hN0,hC0,if_neg hm,Y1,c1];rfl
    ·simp [Qj,Q4]
   have c2 : 2147483647 < n:=by simp [Y1] at hh;omega
   refine AWp.rg [] [] ?_ (hr:=by conv=>lhs;simp [Qx,c1,c2])
   refine AWp.cy ?_
   refine AWp.rg [] [] ?_
   refine AWp.ret ?_
   try dsimp only [Qq,Q8]
   apply Qv.ret
   ·rfl
   ·conv=>lhs;simp [Q9,Tryd.results31]
   ·simp only [Tm.wrong,if_neg hdeep,if_neg hkk,hN0,hC0,if_neg hm,Y1,c1,c2];rfl
   ·simp [Qj,Q4]
  ·refine AWp.rg [] [] ?_ (hr:=by conv=>lhs;simp [Qx])
   refine AWp.rg [] [] ?_ (hr:=by conv=>lhs;simp [Qx])
   refine AWp.cn ?_
   refine AWp.rg [] [] ?_ (hr:=by conv=>lhs;simp [Qx])
   refine AWp.cn ?_
   refine AWp.rg [] [] ?_ (hr:=by conv=>lhs;simp [Qx])
   refine AWp.cy ?_
   by_cases c1 : n < 0
   ·refine AWp.rg [] [] ?_ (hr:=by conv=>lhs;simp [Qx,c1])
    refine AWp.cy ?_
    refine AWp.rg [] [] ?_
    refine AWp.ret ?_
    try dsimp only [Qq,Q8]
    apply Qv.ret
    ·rfl
    ·conv=>lhs;simp [Q9,Tryd.results31]
    ·simp only [Tm.wrong,if_neg hdeep,if_neg hkk,hN0,hC0,if_neg hm,Y1,c1];rfl
    ·simp [Qj,Q4]
   have c2 : 9 < n:=by simp [Y1] at hh;omega
   refine AWp.rg [] [] ?_ (hr:=by conv=>lhs;simp [Qx,c1,c2])
   refine AWp.cy ?_
   refine AWp.rg [] [] ?_
   refine AWp.ret ?_
   try dsimp only [Qq,Q8]
   apply Qv.ret
   ·rfl
   ·conv=>lhs;simp [Q9,Tryd.results31]
   ·simp only [Tm.wrong,if_neg hdeep,if_neg hkk,hN0,hC0,if_neg hm,Y1,c1,c2];rfl
   ·simp [Qj,Q4]
  ·refine AWp.rg [] [] ?_ (hr:=by conv=>lhs;simp [Qx])
   refine AWp.rg [] [] ?_ (hr:=by conv=>lhs;simp [Qx])
   refine AWp.cn ?_
   refine AWp.rg [] [] ?_ (hr:=by conv=>lhs;simp [Qx])
   refine AWp.cn ?_
   refine AWp.rg [] [] ?_ (hr:=by conv=>lhs;simp [Qx])
   refine AWp.cn ?_
   refine AWp.rg [] [] ?_ (hr:=by conv=>lhs;simp [Qx])
   refine AWp.cn ?_
   refine AWp.rg [] [] ?_ (hr:=by conv=>lhs;simp [Qx])
   refine AWp.cn ?_
   refine AWp.rg [] [] ?_ (hr:=by conv=>lhs;simp [Qx])
   refine AWp.cy ?_
   cases hf : f.get a with
   | none =>
    refine AWp.rg [] [] ?_ (hr:=by conv=>lhs;simp [Qx,Kw,hf])
    refine AWp.rg [] [] ?_
    refine AWp.cy ?_
    refine AWp.rg [] [] ?_
    refine AWp.ret ?_
    try dsimp only [Qq,Q8]
    apply Qv.ret
    ·rfl
    ·conv=>lhs;simp [Q9,Tryd.results31]
    ·simp only [Tm.wrong,if_neg hdeep,if_neg hkk,hN0,hC0,if_neg hm,Y1,hf];rfl
    ·simp [Qj,Q4]
   | some w =>
    have c1 : ¬ w = na:=by simp [Y1,hf] at hh;exact hh
    have c1i : ¬ (w : Int) = A:=by omega
    refine AWp.rg [] [] ?_ (hr:=by conv=>lhs;simp [Qx,Kw,hf])
    refine AWp.rg [] [] ?_
    refine AWp.cn ?_
    refine AWp.skip ?_
    refine AWp.rg [] [] ?_ (hr:=by conv=>lhs;simp [Qx,hA,c1,c1i])
    refine AWp.cy ?_
    refine AWp.rg [] [] ?_
    refine AWp.ret ?_
    try dsimp only [Qq,Q8]
    apply Qv.ret
    ·rfl
    ·conv=>lhs;simp [Q9,Tryd.results31]
    ·simp only [Tm.wrong,if_neg hdeep,if_neg hkk,hN0,hC0,if_neg hm,Y1,hf,c1,c1i];rfl
    ·simp [Qj,Q4]
  ·refine AWp.rg [] [] ?_ (hr:=by conv=>lhs;simp [Qx])
   refine AWp.rg [] [] ?_ (hr:=by conv=>lhs;simp [Qx])
   refine AWp.cn ?_
   refine AWp.rg [] [] ?_ (hr:=by conv=>lhs;simp [Qx])
   refine AWp.cn ?_
   refine AWp.rg [] [] ?_ (hr:=by conv=>lhs;simp [Qx])
   refine AWp.cn ?_
   refine AWp.rg [] [] ?_ (hr:=by conv=>lhs;simp [Qx])
   refine AWp.cy ?_
   by_cases c1 : n < 1
   ·refine AWp.rg [] [] ?_ (hr:=by conv=>lhs;simp [Qx,c1])
    refine AWp.cy ?_
    refine AWp.rg [] [] ?_
    refine AWp.ret ?_
    try dsimp only [Qq,Q8]
    apply Qv.ret
    ·rfl
    ·conv=>lhs;simp [Q9,Tryd.results31]
    ·simp only [Tm.wrong,if_neg hdeep,if_neg hkk,hN0,hC0,if_neg hm,Y1,c1];rfl
    ·simp [Qj,Q4]
   have c2 : 5 < n:=by simp [Y1] at hh;omega
   refine AWp.rg [] [] ?_ (hr:=by conv=>lhs;simp [Qx,c1,c2])
   refine AWp.cy ?_
   refine AWp.rg [] [] ?_
   refine AWp.ret ?_
   try dsimp only [Qq,Q8]
   apply Qv.ret
   ·rfl
   ·conv=>lhs;simp [Q9,Tryd.results31]
   ·simp only [Tm.wrong,if_neg hdeep,if_neg hkk,hN0,hC0,if_neg hm,Y1,c1,c2];rfl
   ·simp [Qj,Q4]
  ·refine AWp.rg [] [] ?_ (hr:=by conv=>lhs;simp [Qx])
   refine AWp.rg [] [] ?_ (hr:=by conv=>lhs;simp [Qx])
   refine AWp.cn ?_
   refine AWp.rg [] [] ?_ (hr:=by conv=>lhs;simp [Qx])
   refine AWp.cn ?_
   refine AWp.rg [] [] ?_ (hr:=by conv=>lhs;simp [Qx])
   refine AWp.cn ?_
   refine AWp.rg [] [] ?_ (hr:=by conv=>lhs;simp [Qx])
   refine AWp.cn ?_
   refine AWp.rg [] [] ?_ (hr:=by conv=>lhs;simp [Qx])
   refine AWp.cy ?_
   have hv : Gx a = false:=by simp [Y1] at hh;exact hh
   rw [hv] at hNm
   repeat (first | refine AWp.seq ?_ | refine AWp.block ?_)
   apply AWp.reg [] [.p (fun _=>.d (.bool false)) none]
   ·conv=>lhs;simp [Qx]
   ·exact hNm
   refine AWp.cy ?_
   refine AWp.rg [] [] ?_
   refine AWp.ret ?_
   try dsimp only [Qq,Q8]
   apply Qv.ret
   ·rfl
   ·conv=>lhs;simp [Q9,Tryd.results31]
   ·simp only [Tm.wrong,if_neg hdeep,if_neg hkk,hN0,hC0,if_neg hm,Y1,hv];rfl
   ·simp [Qj,Q4]
  ·simp [Y1] at hh
 refine AWp.seqJ ⟨235,[(0,.mp 1000),(2,X6 names),(3,.d (.int deep)),(5,.ptr 5 0)],[(5,Qx k n a b vs xs cs),(1000,some (Nw f))]⟩ ?_ (fun W hW=>?_)
 rotate_left
 ·rcases hk with rfl | rfl | rfl | rfl | rfl | rfl | rfl
  ·refine AWp.rg [] [] ?_ (hr:=by conv=>lhs;simp [Qx])
   refine AWp.rg [] [] ?_ (hr:=by conv=>lhs;simp [Qx])
   refine AWp.cy ?_
   have hv : hasB names a = true:=by simp [Y1] at hh;exact hh
   rw [hv] at hHas
   repeat (first | refine AWp.seq ?_ | refine AWp.block ?_)
   apply AWp.reg [] [.p (fun _=>.d (.bool true)) none]
   ·conv=>lhs;simp [Qx]
   ·exact hHas
   refine AWp.cn ?_
   refine AWp.skip ?_
   exact hW _ (Le.sub (by simp) (by simp [Qx]))
  ·refine AWp.rg [] [] ?_ (hr:=by conv=>lhs;simp [Qx])
   refine AWp.rg [] [] ?_ (hr:=by conv=>lhs;simp [Qx])
   refine AWp.cn ?_
   refine AWp.rg [] [] ?_ (hr:=by conv=>lhs;simp [Qx])
   refine AWp.cy ?_
   have c1 : ¬ n < -2147483648:=by simp [Y1] at hh;omega
   have c2 : ¬ 2147483647 < n:=by simp [Y1] at hh;omega
   refine AWp.rg [] [] ?_ (hr:=by conv=>lhs;simp [Qx,c1,c2])
   refine AWp.cn ?_
   refine AWp.skip ?_
   exact hW _ (Le.sub (by simp) (by simp [Qx]))
  ·refine AWp.rg [] [] ?_ (hr:=by conv=>lhs;simp [Qx])
   refine AWp.rg [] [] ?_ (hr:=by conv=>lhs;simp [Qx])
   refine AWp.cn ?_
   refine AWp.rg [] [] ?_ (hr:=by conv=>lhs;simp [Qx])
   refine AWp.cn ?_
   refine AWp.rg [] [] ?_ (hr:=by conv=>lhs;simp [Qx])
   refine AWp.cy ?_
   have c1 : ¬ n < 0:=by simp [Y1] at hh;omega
   have c2 : ¬ 9 < n:=by simp [Y1] at hh;omega
   refine AWp.rg [] [] ?_ (hr:=by conv=>lhs;simp [Qx,c1,c2])
   refine AWp.cn ?_
   refine AWp.skip ?_
   exact hW _ (Le.sub (by simp) (by simp [Qx]))
  ·refine AWp.rg [] [] ?_ (hr:=by conv=>lhs;simp [Qx])
   refine AWp.rg [] [] ?_ (hr:=by conv=>lhs;simp [Qx])
   refine AWp.cn ?_
   refine AWp.rg [] [] ?_ (hr:=by conv=>lhs;simp [Qx])
   refine AWp.cn ?_
   refine AWp.rg [] [] ?_ (hr:=by conv=>lhs;simp [Qx])
   refine AWp.cn ?_
   refine AWp.rg [] [] ?_ (hr:=by conv=>lhs;simp [Qx])
   refine AWp.cn ?_
   refine AWp.rg [] [] ?_ (hr:=by conv=>lhs;simp [Qx])
   refine AWp.cn ?_
   refine AWp.rg [] [] ?_ (hr:=by conv=>lhs;simp [Qx])
   refine AWp.cy ?_
   obtain ⟨w,hw,hwa⟩ : ∃ w,f.get a = some w∧w = na:=by
    simp only [Y1] at hh
    cases hf : f.get a with
    | none=>simp [hf] at hh
    | some w=>exact ⟨w,rfl,by simp [hf] at hh;exact hh⟩
   have c1 : (w : Int) = A:=by omega
   refine AWp.rg [] [] ?_ (hr:=by conv=>lhs;simp [Qx,Kw,hw])
   refine AWp.rg [] [] ?_
   refine AWp.cn ?_
   refine AWp.skip ?_
   refine AWp.rg [] [] ?_ (hr:=by conv=>lhs;simp [Qx,hA,c1])
   refine AWp.cn ?_
   refine AWp.skip ?_
   exact hW _ (Le.sub (by simp) (by simp [Qx]))
  ·refine AWp.rg [] [] ?_ (hr:=by conv=>lhs;simp [Qx])
   refine AWp.rg [] [] ?_ (hr:=by conv=>lhs;simp [Qx])
   refine AWp.cn ?_
   refine AWp.rg [] [] ?_ (hr:=by conv=>lhs;simp [Qx])
   refine AWp.cn ?_
   refine AWp.rg [] [] ?_ (hr:=by conv=>lhs;simp [Qx])
   refine AWp.cn ?_
   refine AWp.rg [] [] ?_ (hr:=by conv=>lhs;simp [Qx])
   refine AWp.cy ?_
   have c1 : ¬ n < 1:=by simp [Y1] at hh;omega
   have c2 : ¬ 5 < n:=by simp [Y1] at hh;omega
   refine AWp.rg [] [] ?_ (hr:=by conv=>lhs;simp [Qx,c1,c2])
   refine AWp.cn ?_
   refine AWp.skip ?_
   exact hW _ (Le.sub (by simp) (by simp [Qx]))
  ·refine AWp.rg [] [] ?_ (hr:=by conv=>lhs;simp [Qx])
   refine AWp.rg [] [] ?_ (hr:=by conv=>lhs;simp [Qx])
   refine AWp.cn ?_
   refine AWp.rg [] [] ?_ (hr:=by conv=>lhs;simp [Qx])
   refine AWp.cn ?_
   refine AWp.rg [] [] ?_ (hr:=by conv=>lhs;simp [Qx])
   refine AWp.cn ?_
   refine AWp.rg [] [] ?_ (hr:=by conv=>lhs;simp [Qx])
   refine AWp.cn ?_
   refine AWp.rg [] [] ?_ (hr:=by conv=>lhs;simp [Qx])
   refine AWp.cy ?_
   have hv : Gx a = true:=by simp [Y1] at hh;exact hh
   rw [hv] at hNm
   repeat (first | refine AWp.seq ?_ | refine AWp.block ?_)
   apply AWp.reg [] [.p (fun _=>.d (.bool true)) none]
   ·conv=>lhs;simp [Qx]
   ·exact hNm
   refine AWp.cn ?_
   refine AWp.skip ?_
   exact hW _ (Le.sub (by simp) (by simp [Qx]))
  ·refine AWp.rg [] [] ?_ (hr:=by conv=>lhs;simp [Qx])
   refine AWp.rg [] [] ?_ (hr:=by conv=>lhs;simp [Qx])
   refine AWp.cn ?_
   refine AWp.rg [] [] ?_ (hr:=by conv=>lhs;simp [Qx])
   refine AWp.cn ?_
   refine AWp.rg [] [] ?_ (hr:=by conv=>lhs;simp [Qx])
   refine AWp.cn ?_
   refine AWp.rg [] [] ?_ (hr:=by conv=>lhs;simp [Qx])
   refine AWp.cn ?_
   refine AWp.rg [] [] ?_ (hr:=by conv=>lhs;simp [Qx])
   refine AWp.cn ?_
   refine AWp.rg [] [] ?_ (hr:=by conv=>lhs;simp [Qx])
   refine AWp.cn ?_
   refine AWp.skip ?_
   exact hW _ (Le.sub (by simp) (by simp [Qx]))
 repeat (first | refine AWp.seq ?_ | refine AWp.block ?_)
 apply AWp.reg [] []
 ·conv=>lhs;simp [Qx]
 ·trivial
 repeat (first | refine AWp.seq ?_ | refine AWp.block ?_)
 refine AWp.loop (σ:=fun u : {i : Nat // i≤xs.length∧Tm.Jk f k a names deep 0 xs = Tm.Jk f k a names deep i (xs.drop i)}=>⟨235,[(0,.mp 1000),(2,X6 names),(3,.d (.int deep)),(5,.ptr 5 0),(131,.d (.sl (xs.map Tm.row))),(132,.d (.int xs.length)),(133,.d (.int u.1))],[(5,Qx k n a b vs xs cs),(1000,some (Nw f))]⟩)
  (μ:=fun u=>xs.length - u.1) ⟨0,Nat.zero_le _,rfl⟩ (Le.sub (by simp) (by simp [Qx])) (fun ⟨i,hi,hw⟩=>?_)
 dsimp only
 repeat (first | refine AWp.seq ?_ | refine AWp.block ?_)
 apply AWp.reg [] []
 ·conv=>lhs;simp
 ·trivial
 repeat (first | refine AWp.seq ?_ | refine AWp.block ?_)
 refine AWp.cond rfl (fun h=>?_) (fun h=>?_)
 ·have hi1 : i < xs.length:=by have:=of_decide_eq_true h;omega
  have h1 : xs[i]? = some xs[i]:=List.getElem?_eq_getElem hi1
  have hmem : xs[i]∈xs:=List.getElem_mem hi1
  have hdr : xs.drop i = xs[i] :: xs.drop (i + 1):=List.drop_eq_getElem_cons hi1
  generalize xs[i] = x at h1 hmem hdr
  obtain ⟨ins,hins⟩ : ∃ ins,ins = if k = 6∧i = 1 then names ++ [a] else names:=⟨_,rfl⟩
  have hil : (ins.length : Int)≤1048576 + 8 * (deep + 1):=by rw [hins];split <;> (try rw [List.length_append,List.length_singleton]) <;> omega
  have hp:=ih x ins (deep + 1) (by have:=Tm.sz_arg (k:=k) (n:=n) (a:=a) (b:=b) (vs:=vs) (cs:=cs) hmem;omega) (hO.arg hmem) (by omega) (by omega) hil
  rw [hdr] at hw
  simp only [Tm.Jk,← hins] at hw
  generalize x.wrong f ins (deep + 1) = e at hp hw
  obtain ⟨xk,xn,xa,xb,xv,xx,xc⟩:=x
  refine AWp.skip ?_
  refine AWp.rg [] [] ?_ (hr:=by conv=>lhs;simp [h1,Tm.row,Tm.Q3,Cs.Q3,Qx])
  repeat (first | refine AWp.seq ?_ | refine AWp.block ?_)
  apply AWp.reg [] []
  ·conv=>lhs;simp
  ·trivial
  refine AWp.seqJ ⟨235,[(0,.mp 1000),(2,X6 names),(3,.d (.int deep)),(5,.ptr 5 0),(131,.d (.sl (xs.map Tm.row))),(132,.d (.int xs.length)),(133,.d (.int i)),(13,.ptr 13 0),(14,X6 ins)],[(5,Qx k n a b vs xs cs),(13,Qx xk xn xa xb xv xx xc),(1000,some (Nw f))]⟩ ?_ (fun W hW=>?_)
  rotate_left
  ·by_cases k6 : k = 6
   ·subst k6
    by_cases i1 : i = 1
    ·subst i1
     rw [if_pos ⟨rfl,rfl⟩] at hins
     subst hins
     repeat (first | refine AWp.seq ?_ | refine AWp.block ?_)
     apply AWp.reg [] []
     ·conv=>lhs;simp
     ·trivial
     refine AWp.cy ?_
     repeat (first | refine AWp.seq ?_ | refine AWp.block ?_)
     apply AWp.draw [6] [] mixed
     ·conv=>lhs;simp
     ·kernel_rfl
     ·exact ⟨by simp [maxLen];omega,by simp [maxLen];omega⟩
     exact hW _ (Le.sub (by simp [Qx];rw [List.take_of_length_le (by simp)]) (by simp [Qx]))
    ·have i1' : ¬ (i : Int) = 1:=by omega
     rw [if_neg (by omega)] at hins
     subst hins
     repeat (first | refine AWp.seq ?_ | refine AWp.block ?_)
     apply AWp.reg [] []
     ·conv=>lhs;simp [i1,i1']
     ·trivial
     refine AWp.cn ?_
     refine AWp.skip ?_
     exact hW _ (Le.sub (by simp [Qx]) (by simp [Qx]))
   ·rw [if_neg (by omega)] at hins
    subst hins
    repeat (first | refine AWp.seq ?_ | refine AWp.block ?_)
    apply AWp.reg [] []
    ·conv=>lhs;simp [k6]
    ·trivial
    refine AWp.cn ?_
    refine AWp.skip ?_
    exact hW _ (Le.sub (by simp [Qx]) (by simp [Qx]))
  repeat (first | refine AWp.seq ?_ | refine AWp.block ?_)
  apply AWp.reg [] [.c [] [.mp 1000,Xw (.mk xk xn xa xb xv xx xc),X6 ins,.d (.int (deep + 1))] [(1000,Nw f)] (.d (.int e)) [(1000,Nw f)]]
  ·conv=>lhs;simp [Qx]
  ·exact ⟨by simp [inI];omega,hp⟩
  by_cases he : e = 0
  ·subst he
   simp only [ne_eq,not_true_eq_false,if_false] at hw
   repeat (first | refine AWp.seq ?_ | refine AWp.block ?_)
   apply AWp.reg [] []
   ·conv=>lhs;simp
   ·trivial
   refine AWp.cn ?_
   refine AWp.skip ?_
   refine AWp.rg [] [] ?_
   refine ⟨⟨i + 1,hi1,hw⟩,by simp;omega,Le.sub (by simp [Qx]) (by simp [Qx])⟩
  ·rw [if_pos he] at hw
   repeat (first | refine AWp.seq ?_ | refine AWp.block ?_)
   apply AWp.reg [] []
   ·conv=>lhs;simp [he]
   ·trivial
   refine AWp.cy ?_
   repeat (first | refine AWp.seq ?_ | refine AWp.block ?_)
   apply AWp.reg [] []
   ·conv=>lhs;simp
   ·trivial
   refine AWp.ret ?_
   try dsimp only [Qq,Q8]
   apply Qv.ret
   ·rfl
   ·conv=>lhs;simp [Q9,Tryd.results31]
   ·simp only [Tm.wrong,if_neg hdeep,if_neg hkk,hN0,hC0,if_neg hm,hh,hw,if_pos he,ne_eq,not_true_eq_false,if_false];rfl
   ·simp [Qj,Q4,Qx]
 have hi1 : i = xs.length:=by have:=of_decide_eq_false h;omega
 subst hi1
 rw [List.drop_length] at hw
 simp only [Tm.Jk] at hw
 clear h
 refine AWp.exit ?_
 by_cases k7 : k = 7
 rotate_left
 ·repeat (first | refine AWp.seq ?_ | refine AWp.block ?_)
  apply AWp.reg [] []
  ·conv=>lhs;simp [k7,Qx]
  ·trivial
  refine AWp.cy ?_
  repeat (first | refine AWp.seq ?_ | refine AWp.block ?_)
  apply AWp.reg [] []
  ·conv=>lhs;simp
  ·trivial
  refine AWp.ret ?_
  try dsimp only [Qq,Q8]
  apply Qv.ret
  ·rfl
  ·conv=>lhs;simp [Q9,Tryd.results31]
  ·simp only [Tm.wrong,if_neg hdeep,if_neg hkk,hN0,hC0,if_neg hm,hh,hw,if_pos k7,ne_eq,not_true_eq_false,if_false];rfl
  ·simp [Qj,Q4,Qx]
 subst k7
 repeat (first | refine AWp.seq ?_ | refine AWp.block ?_)
 apply AWp.reg [] []
 ·conv=>lhs;simp [Qx]
 ·trivial
 refine AWp.cn ?_
 refine AWp.skip ?_
 by_cases c0 : C = 0
 ·repeat (first | refine AWp.seq ?_ | refine AWp.block ?_)
  apply AWp.reg [] []
  ·conv=>lhs;simp [Qx,hC,c0]
  ·trivial
  refine AWp.cy ?_
  repeat (first | refine AWp.seq ?_ | refine AWp.block ?_)
  apply AWp.reg [] []
  ·conv=>lhs;simp
  ·trivial
  refine AWp.ret ?_
  try dsimp only [Qq,Q8]
  apply Qv.ret
  ·rfl
  ·conv=>lhs;simp [Q9,Tryd.results31]
  ·simp only [Tm.wrong,if_neg hdeep,if_neg hkk,hN0,hC0,if_neg hm,hh,hw,if_pos (show nc = 0∨5 < nc by omega),ne_eq,not_true_eq_false,if_false];rfl
  ·simp [Qj,Q4,Qx]
 by_cases c5 : 5 < C
 ·repeat (first | refine AWp.seq ?_ | refine AWp.block ?_)
  apply AWp.reg [] []
  ·conv=>lhs;simp [Qx,hC,c0,c5]
  ·trivial
  refine AWp.cy ?_
  repeat (first | refine AWp.seq ?_ | refine AWp.block ?_)
  apply AWp.reg [] []
  ·conv=>lhs;simp
  ·trivial
  refine AWp.ret ?_
  try dsimp only [Qq,Q8]
  apply Qv.ret
  ·rfl
  ·conv=>lhs;simp [Q9,Tryd.results31]
  ·simp only [Tm.wrong,if_neg hdeep,if_neg hkk,hN0,hC0,if_neg hm,hh,hw,if_pos (show nc = 0∨5 < nc by omega),ne_eq,not_true_eq_false,if_false];rfl
  ·simp [Qj,Q4,Qx]
 repeat (first | refine AWp.seq ?_ | refine AWp.block ?_)
 apply AWp.reg [] []
 ·conv=>lhs;simp [Qx,hC,c0,c5]
 ·trivial
 refine AWp.cn ?_
 refine AWp.skip ?_
 have hfin : Cs.Jk f names deep [] cs = Tm.wrong f (.mk 7 n a b vs xs cs) names deep:=by
  simp only [Tm.wrong,if_neg hdeep,if_neg hkk,hN0,hC0,if_neg hm,hh,hw,if_neg (show ¬ (nc = 0∨5 < nc) by omega),ne_eq,not_true_eq_false,if_false]
 repeat (first | refine AWp.seq ?_ | refine AWp.block ?_)
 apply AWp.reg [] []
 ·conv=>lhs;simp [Qx]
 ·trivial
 repeat (first | refine AWp.seq ?_ | refine AWp.block ?_)
 refine AWp.loop (σ:=fun u : {i : Nat // i≤cs.length∧Cs.Jk f names deep [] cs = Cs.Jk f names deep ((cs.take i).map Cs.tag).reverse (cs.drop i)}=>⟨235,[(0,.mp 1000),(2,X6 names),(3,.d (.int deep)),(5,.ptr 5 0),(177,.d (.sl (cs.map Cs.row))),(178,.d (.int cs.length)),(179,.d (.int u.1))],[(5,Qx 7 n a b vs xs cs),(1000,some (Nw f))]⟩)
  (μ:=fun u=>cs.length - u.1) ⟨0,Nat.zero_le _,rfl⟩ (Le.sub (by simp) (by simp [Qx])) (fun ⟨i,hi,hw2⟩=>?_)
 dsimp only
 repeat (first | refine AWp.seq ?_ | refine AWp.block ?_)
 apply AWp.reg [] []
 ·conv=>lhs;simp
 ·trivial
 repeat (first | refine AWp.seq ?_ | refine AWp.block ?_)
 refine AWp.cond rfl (fun h=>?_) (fun h=>?_)
 rotate_left
 ·have hi1 : i = cs.length:=by have:=of_decide_eq_false h;omega
  subst hi1
  rw [List.drop_length] at hw2
  simp only [Cs.Jk] at hw2
  refine AWp.exit ?_
  repeat (first | refine AWp.seq ?_ | refine AWp.block ?_)
  apply AWp.reg [] []
  ·conv=>lhs;simp
  ·trivial
  refine AWp.ret ?_
  try dsimp only [Qq,Q8]
  apply Qv.ret
  ·rfl
  ·conv=>lhs;simp [Q9,Tryd.results31]
  ·rw [← hfin,hw2];rfl
  ·simp [Qj,Q4,Qx]
 have hi1 : i < cs.length:=by have:=of_decide_eq_true h;omega
 have h1 : cs[i]? = some cs[i]:=List.getElem?_eq_getElem hi1
 have hmem : cs[i]∈cs:=List.getElem_mem hi1
 have hdr : cs.drop i = cs[i] :: cs.drop (i + 1):=List.drop_eq_getElem_cons hi1
 generalize cs[i] = c at h1 hmem hdr
 obtain ⟨g,ws,x⟩:=c
 have hsn : ((cs.take (i + 1)).map Cs.tag).reverse = g :: ((cs.take i).map Cs.tag).reverse:=by rw [List.take_add_one,h1];simp [Cs.tag]
 obtain ⟨oc1,oc2⟩:=(hO.case hmem).body
 have hws:=(hO.case hmem).sizes
 rw [hdr] at hw2
 simp only [Cs.Jk] at hw2
 rw [show (Cs.mk g ws x).tag = g from rfl,← hsn] at hw2
 obtain ⟨E,hE⟩ : ∃ E,E = Cs.wrongC f names deep ((cs.take i).map Cs.tag).reverse (.mk g ws x):=⟨_,rfl⟩
 rw [← hE] at hw2
 have hw3:=hw2
 rw [hfin] at hw3
 simp only [Cs.wrongC] at hE
 have hal : ((names ++ ws).length : Int) = names.length + ws.length:=by simp
 have hx:=fun q : ((names ++ ws).length : Int)≤1048576 + 8 * (deep + 1)=>ih x (names ++ ws) (deep + 1) (by have:=Tm.sz_case (k:=7) (n:=n) (a:=a) (b:=b) (vs:=vs) (xs:=xs) hmem;omega) oc1 (by omega) (by omega) q
 generalize x.wrong f (names ++ ws) (deep + 1) = e at hx hE
 have htw:=sp_twice ws (by omega)
 have hbd:=sp_bad ws (by omega) (fun s hs=>by have:=hws s hs;omega)
 refine AWp.skip ?_
 obtain ⟨xk,xn,xa,xb,xv,xx,xc⟩:=x
 refine AWp.rg [] [] ?_ (hr:=by conv=>lhs;simp [h1,Cs.row,Tm.row,Tm.Q3,Cs.Q3,Qx])
 by_cases g0 : g < 0
 ·rw [if_pos (show g < 0∨9 < g by omega)] at hE
  repeat (first | refine AWp.seq ?_ | refine AWp.block ?_)
  apply AWp.reg [] []
  ·conv=>lhs;simp [g0]
  ·trivial
  refine AWp.cy ?_
  repeat (first | refine AWp.seq ?_ | refine AWp.block ?_)
  apply AWp.reg [] []
  ·conv=>lhs;simp
  ·trivial
  refine AWp.ret ?_
  try dsimp only [Qq,Q8]
  apply Qv.ret
  ·rfl
  ·conv=>lhs;simp [Q9,Tryd.results31]
  ·rw [hw3,hE];rfl
  ·simp [Qj,Q4,Qx]
 by_cases g9 : 9 < g
 ·rw [if_pos (show g < 0∨9 < g by omega)] at hE
  repeat (first | refine AWp.seq ?_ | refine AWp.block ?_)
  apply AWp.reg [] []
  ·conv=>lhs;simp [g0,g9]
  ·trivial
  refine AWp.cy ?_
  repeat (first | refine AWp.seq ?_ | refine AWp.block ?_)
  apply AWp.reg [] []
  ·conv=>lhs;simp
  ·trivial
  refine AWp.ret ?_
  try dsimp only [Qq,Q8]
  apply Qv.ret
  ·rfl
  ·conv=>lhs;simp [Q9,Tryd.results31]
  ·rw [hw3,hE];rfl
  ·simp [Qj,Q4,Qx]
 rw [if_neg (show ¬ (g < 0∨9 < g) by omega)] at hE
 repeat (first | refine AWp.seq ?_ | refine AWp.block ?_)
 apply AWp.reg [] []
 ·conv=>lhs;simp [g0,g9]
 ·trivial
 refine AWp.cn ?_
 refine AWp.skip ?_
 repeat (first | refine AWp.seq ?_ | refine AWp.block ?_)
 apply AWp.reg [] []
 ·conv=>lhs;simp [Qx]
 ·exact ⟨hi,fun i a _=>Cs.row_len a⟩
 repeat (first | refine AWp.seq ?_ | refine AWp.block ?_)
 refine AWp.loop (σ:=fun u : {j : Nat // j≤i∧∀ d∈cs.take j,d.tag≠g}=>⟨235,[(0,.mp 1000),(2,X6 names),(3,.d (.int deep)),(5,.ptr 5 0),(177,.d (.sl (cs.map Cs.row))),(178,.d (.int cs.length)),(179,.d (.int i)),(17,.ptr 17 0),(195,.d (.sl (List.take i (cs.map Cs.row)))),(196,.d (.int i)),(197,.d (.int u.1))],[(5,Qx 7 n a b vs xs cs),(17,csObj g ws xk xn xa xb xv xx xc),(1000,some (Nw f))]⟩)
  (μ:=fun u=>i - u.1) ⟨0,Nat.zero_le _,by simp⟩ (Le.sub (by simp [Nat.min_eq_left hi]) (by simp [Qx,csObj])) (fun ⟨j,hj,hj2⟩=>?_)
 dsimp only
 repeat (first | refine AWp.seq ?_ | refine AWp.block ?_)
 apply AWp.reg [] []
 ·conv=>lhs;simp
 ·trivial
 repeat (first | refine AWp.seq ?_ | refine AWp.block ?_)
 refine AWp.cond rfl (fun h3=>?_) (fun h3=>?_)
 ·have hj1 : j < i:=by have:=of_decide_eq_true h3;omega
  have hjl : j < cs.length:=by omega
  have k1 : cs[j]? = some cs[j]:=List.getElem?_eq_getElem hjl
  have k2 : cs[j]∈cs.take i:=List.mem_take_iff_getElem.2 ⟨j,by omega,rfl⟩
  generalize cs[j] = d at k1 k2
  obtain ⟨g',ws',y⟩:=d
  obtain ⟨yk,yn,ya,yb,yv,yx,yc⟩:=y
  refine AWp.skip ?_
  refine AWp.rg [] [] ?_ (hr:=by conv=>lhs;simp [hj1,k1,Cs.row,Tm.row,Tm.Q3,Cs.Q3,Qx])
  by_cases hg : g' = g
  ·subst hg
   repeat (first | refine AWp.seq ?_ | refine AWp.block ?_)
   apply AWp.reg [] []
   ·conv=>lhs;simp [csObj]
   ·trivial
   refine AWp.cy ?_
   repeat (first | refine AWp.seq ?_ | refine AWp.block ?_)
   apply AWp.reg [] []
   ·conv=>lhs;simp
   ·trivial
   refine AWp.ret ?_
   try dsimp only [Qq,Q8]
   apply Qv.ret
   ·rfl
   ·conv=>lhs;simp [Q9,Tryd.results31]
   ·rw [if_pos (by
     have : (((cs.take i).map Cs.tag).reverse).contains g' = true:=by
      rw [List.contains_iff_mem,List.mem_reverse]
      exact List.mem_map.2 ⟨_,k2,rfl⟩
     rw [this];rfl)] at hE
    rw [hw3,hE];rfl
   ·simp [Qj,Q4,Qx]
  ·repeat (first | refine AWp.seq ?_ | refine AWp.block ?_)
   apply AWp.reg [] []
   ·conv=>lhs;simp [hg,csObj]
   ·trivial
   refine AWp.cn ?_
   refine AWp.skip ?_
   refine AWp.rg [] [] ?_
   refine ⟨⟨j + 1,by omega,?_⟩,by simp;omega,Le.sub (by simp [Qx]) (by simp [Qx,csObj])⟩
   intro d hd
   rw [List.take_add_one,k1] at hd
   rcases List.mem_append.1 hd with hd | hd
   ·exact hj2 d hd
   ·simp at hd;subst hd;exact hg
 have hj1 : j = i:=by have:=of_decide_eq_false h3;omega
 subst hj1
 have hct : (((cs.take j).map Cs.tag).reverse).contains g = false:=by
  rw [← Bool.not_eq_true,List.contains_iff_mem,List.mem_reverse]
  intro hmm
  obtain ⟨d,hd,he⟩:=List.mem_map.1 hmm
  exact hj2 d hd he
 rw [hct] at hE
 simp only [Bool.false_or] at hE
 clear h3
 refine AWp.exit ?_
 cases ht : twB ws with
 | true =>
  rw [ht] at htw hE
  repeat (first | refine AWp.seq ?_ | refine AWp.block ?_)
  apply AWp.reg [] [.p (fun _=>.d (.bool true)) none]
  ·conv=>lhs;simp [csObj]
  ·exact htw
  refine AWp.cy ?_
  repeat (first | refine AWp.seq ?_ | refine AWp.block ?_)
  apply AWp.reg [] []
  ·conv=>lhs;simp
  ·trivial
  refine AWp.ret ?_
  try dsimp only [Qq,Q8]
  apply Qv.ret
  ·rfl
  ·conv=>lhs;simp [Q9,Tryd.results31]
  ·rw [hw3,hE];rfl
  ·simp [Qj,Q4,Qx]
 | false =>
 rw [ht] at htw hE
 cases hbb : badB ws with
 | true =>
  rw [hbb] at hbd hE
  repeat (first | refine AWp.seq ?_ | refine AWp.block ?_)
  apply AWp.reg [] [.p (fun _=>.d (.bool false)) none,.p (fun _=>.d (.bool true)) none]
  ·conv=>lhs;simp [csObj]
  ·exact ⟨htw,hbd⟩
  refine AWp.cy ?_
  repeat (first | refine AWp.seq ?_ | refine AWp.block ?_)
  apply AWp.reg [] []
  ·conv=>lhs;simp
  ·trivial
  refine AWp.ret ?_
  try dsimp only [Qq,Q8]
  apply Qv.ret
  ·rfl
  ·conv=>lhs;simp [Q9,Tryd.results31]
  ·rw [hw3,hE];rfl
  ·simp [Qj,Q4,Qx]
 | false =>
 rw [hbb] at hbd hE
 simp only [Bool.or_self,Bool.false_eq_true,if_false] at hE
 repeat (first | refine AWp.seq ?_ | refine AWp.block ?_)
 apply AWp.reg [] [.p (fun _=>.d (.bool false)) none,.p (fun _=>.d (.bool false)) none]
 ·conv=>lhs;simp [csObj]
 ·exact ⟨htw,hbd⟩
 refine AWp.cn ?_
 refine AWp.skip ?_
 by_cases hl6 : 6 < ws.length
 ·rw [if_pos hl6] at hE
  have hl6' : (6 : Int) < ws.length:=by omega
  repeat (first | refine AWp.seq ?_ | refine AWp.block ?_)
  apply AWp.reg [] []
  ·conv=>lhs;simp [csObj,hl6,hl6']
  ·trivial
  refine AWp.cy ?_
  repeat (first | refine AWp.seq ?_ | refine AWp.block ?_)
  apply AWp.reg [] []
  ·conv=>lhs;simp
  ·trivial
  refine AWp.ret ?_
  try dsimp only [Qq,Q8]
  apply Qv.ret
  ·rfl
  ·conv=>lhs;simp [Q9,Tryd.results31]
  ·rw [hw3,hE];rfl
  ·simp [Qj,Q4,Qx]
 rw [if_neg hl6] at hE
 subst hE
 have hl6' : ¬ (6 : Int) < ws.length:=by omega
 repeat (first | refine AWp.seq ?_ | refine AWp.block ?_)
 apply AWp.reg [] []
 ·conv=>lhs;simp [csObj,hl6,hl6']
 ·trivial
 refine AWp.cn ?_
 refine AWp.skip ?_
 have hx:=hx (by omega)
 obtain ⟨nw,hnw⟩ : ∃ nw,nw = names ++ ws:=⟨_,rfl⟩
 have hnw2 : List.take (names.length + ws.length) (List.map Zw names ++ List.map Zw ws) = List.map Zw nw:=by rw [hnw,List.map_append,List.take_of_length_le (by simp)]
 rw [← hnw] at hx
 apply AWp.keep [0,2,3,5,177,178,179,17] [5,17,1000]
 ·conv=>lhs;simp [Gj,Zj]
 ·conv=>lhs;simp [Hw,Q4]
 repeat (first | refine AWp.seq ?_ | refine AWp.block ?_)
 apply AWp.draw [8] [.c [] [.mp 1000,Xw (.mk xk xn xa xb xv xx xc),X6 nw,.d (.int (deep + 1))] [(1000,Nw f)] (.d (.int E)) [(1000,Nw f)]] mixed
 ·conv=>lhs;simp [csObj,hnw2,Xw]
 ·kernel_rfl
 ·exact ⟨by simp [maxLen];omega,by simp [maxLen];omega,by simp [inI];omega,hx⟩
 by_cases he : E = 0
 ·subst he
  simp only [ne_eq,not_true_eq_false,if_false] at hw2
  repeat (first | refine AWp.seq ?_ | refine AWp.block ?_)
  apply AWp.reg [] []
  ·conv=>lhs;simp
  ·trivial
  refine AWp.cn ?_
  refine AWp.skip ?_
  refine AWp.rg [] [] ?_
  refine ⟨⟨j + 1,hi1,hw2⟩,by simp;omega,Le.sub (by simp [Qx]) (by simp [Qx])⟩
 ·rw [if_pos he] at hw3
  repeat (first | refine AWp.seq ?_ | refine AWp.block ?_)
  apply AWp.reg [] []
  ·conv=>lhs;simp [he]
  ·trivial
  refine AWp.cy ?_
  repeat (first | refine AWp.seq ?_ | refine AWp.block ?_)
  apply AWp.reg [] []
  ·conv=>lhs;simp
  ·trivial
  refine AWp.ret ?_
  try dsimp only [Qq,Q8]
  apply Qv.ret
  ·rfl
  ·conv=>lhs;simp [Q9,Tryd.results31]
  ·rw [hw3];rfl
  ·simp [Qj,Q4,Qx]
theorem cs_Wrong (f : Y3) (t : Tm) (names : List ByteArray) (hO : t.Ok) (hn : names.length≤1048576) :
  X3 Tryd.prog 31 [.mp 1000,Xw t,X6 names,.d (.int 0)] [(1000,Nw f)] (.d (.int (t.wrong f names 0))) [(1000,Nw f)] :=
 cs_Wrong_at f _ t names 0 (Nat.lt_succ_self _) hO (by omega) (by omega) (by omega)
theorem arD_put {f : Y3} {g : ByteArray} {n : Nat} (h : f.get g = none) : D.Nk (.str g) [.int n] (arD f) = arD ((g,n) :: f):=by
 unfold D.Nk
 rw [D.adel_all]
 ·rfl
 ·intro p hp
  unfold arD at hp
  obtain ⟨t,ht,rfl⟩:=List.mem_map.1 hp
  intro e
  simp only [D.str.injEq] at e
  subst e
  unfold Y3.get at h
  rw [Option.map_eq_none_iff,List.find?_eq_none] at h
  have:=h t ht
  simp at this
set_option maxRecDepth 20000 in
set_option maxHeartbeats 16000000 in
theorem sp_refCheck (l : List Fn) (hl : Gv l) : Qw Tryd.prog 9 [D7 l] (fun _=>.d (.int (Y8 l))) none:=by
 have hll:=hl.len
 obtain ⟨C,hC⟩ : ∃ C : Int,(l.length : Int) = C:=⟨_,rfl⟩
 refine Qw.of Tryd.func9 rfl rfl rfl (Nat.le_of_ble_eq_true rfl) ?_
 show AWp _ _ (Zk _ Tryd.f9 _ _ _) (Z7 81 _)
 refine AWp.rg [] [] ?_ (hr:=by conv=>lhs;simp [hC,Fn.row,Tm.row,Tm.Q3,Cs.Q3])
 by_cases q1 : C = 0
 ·refine AWp.rg [] [] ?_ (hr:=by conv=>lhs;simp [hC,Fn.row,Tm.row,Tm.Q3,Cs.Q3,q1])
  refine AWp.cy ?_
  refine AWp.rg [] [] ?_ (hr:=by conv=>lhs;simp [hC,Fn.row,Tm.row,Tm.Q3,Cs.Q3,q1])
  refine AWp.ret ?_
  try dsimp only [Qq,Q8]
  apply Zk.ret
  ·rfl
  ·conv=>lhs;simp [Q9,Tryd.results9]
  ·rw [Y8,if_pos (show l.length = 0∨6 < l.length by omega)];rfl
 by_cases q2 : 6 < C
 ·refine AWp.rg [] [] ?_ (hr:=by conv=>lhs;simp [hC,Fn.row,Tm.row,Tm.Q3,Cs.Q3,q1,q2])
  refine AWp.cy ?_
  refine AWp.rg [] [] ?_ (hr:=by conv=>lhs;simp [hC,Fn.row,Tm.row,Tm.Q3,Cs.Q3,q1,q2])
  refine AWp.ret ?_
  try dsimp only [Qq,Q8]
  apply Zk.ret
  ·rfl
  ·conv=>lhs;simp [Q9,Tryd.results9]
  ·rw [Y8,if_pos (show l.length = 0∨6 < l.length by omega)];rfl
 refine AWp.rg [] [] ?_ (hr:=by conv=>lhs;simp [hC,Fn.row,Tm.row,Tm.Q3,Cs.Q3,q1,q2])
 refine AWp.cn ?_
 refine AWp.skip ?_
 have hlen : ¬ (l.length = 0∨6 < l.length):=by omega
 refine AWp.rg [] [] ?_ (hr:=by conv=>lhs;simp [hC,Fn.row,Tm.row,Tm.Q3,Cs.Q3,q1,q2])
 refine AWp.rg [] [] ?_ (hr:=by conv=>lhs;simp [hC,Fn.row,Tm.row,Tm.Q3,Cs.Q3,q1,q2])
 repeat (first | refine AWp.seq ?_ | refine AWp.block ?_)
 refine AWp.loop (σ:=fun u : {i : Nat // i≤l.length∧Oq [] l = Oq (Qj9 (l.take i)) (l.drop i)}=>⟨81,[(0,D7 l),(3,.mp 19),(20,D7 l),(21,.d (.int l.length)),(22,.d (.int u.1))],[(19,some (Nw (Qj9 (l.take u.1))))]⟩)
  (μ:=fun u=>l.length - u.1) ⟨0,Nat.zero_le _,rfl⟩ (Le.sub (by simp [Qj9,Nw,arD,hC,nmObj]) (by simp [Qj9,Nw,arD,hC,nmObj])) (fun ⟨i,hi,hwi⟩=>?_)
 dsimp only
 repeat (first | refine AWp.seq ?_ | refine AWp.block ?_)
 apply AWp.reg [] []
 ·conv=>lhs;simp
 ·trivial
 repeat (first | refine AWp.seq ?_ | refine AWp.block ?_)
 refine AWp.cond rfl (fun hci=>?_) (fun hci=>?_)
 ·have hi1 : i < l.length:=by have:=of_decide_eq_true hci;omega
  have h1c : l[i]? = some l[i]:=List.getElem?_eq_getElem hi1
  have hmc : l[i]∈l:=List.getElem_mem hi1
  have hdc : l.drop i = l[i] :: l.drop (i + 1):=List.drop_eq_getElem_cons hi1
  generalize l[i] = c at h1c hmc hdc
  obtain ⟨g,ps,bd⟩:=c
  have hsn : Qj9 (l.take (i + 1)) = (g,ps.length) :: Qj9 (l.take i):=by rw [List.take_add_one,h1c];exact arOf_snoc _ _
  obtain ⟨o1,o2,o3,o4⟩:=hl.all _ hmc
  dsimp only at o1 o2 o3 o4
  rw [hdc] at hwi
  simp only [Oq] at hwi
  rw [← hsn] at hwi
  obtain ⟨f,hf⟩ : ∃ f,f = Qj9 (l.take i):=⟨_,rfl⟩
  rw [← hf] at hwi hsn ⊢
  obtain ⟨E,hE⟩ : ∃ E,E = Fn.Y1 f ⟨g,ps,bd⟩:=⟨_,rfl⟩
  rw [← hE] at hwi
  simp only [Fn.Y1] at hE
  have hNm:=sp_Name g (by omega)
  have hTw:=sp_twice ps (by omega)
  have hBd:=sp_bad ps (by omega) (fun s hs=>by have:=o3 s hs;omega)
  have hSz:=sp_refSize bd o4
  obtain ⟨S,hS⟩ : ∃ S,S = wr bd.sz:=⟨_,rfl⟩
  rw [← hS] at hSz hE
  obtain ⟨B,hB⟩ : ∃ B : Int,(ps.length : Int) = B:=⟨_,rfl⟩
  obtain ⟨xk,xn,xa,xb,xv,xx,xc⟩:=bd
  refine AWp.skip ?_
  refine AWp.rg [] [] ?_ (hr:=by conv=>lhs;simp [hC,Fn.row,Tm.row,Tm.Q3,Cs.Q3,h1c,hB,q1,q2])
  cases hg : f.get g with
  | some m =>
   refine AWp.rg [] [] ?_ (hr:=by conv=>lhs;simp [hC,Fn.row,Tm.row,Tm.Q3,Cs.Q3,h1c,hB,Kw,hg,q1,q2])
   refine AWp.rg [] [] ?_ (hr:=by conv=>lhs;simp [hC,Fn.row,Tm.row,Tm.Q3,Cs.Q3,h1c,hB,Kw,hg,q1,q2])
   refine AWp.cy ?_
   refine AWp.rg [] [] ?_ (hr:=by conv=>lhs;simp [hC,Fn.row,Tm.row,Tm.Q3,Cs.Q3,h1c,hB,Kw,hg,q1,q2])
   refine AWp.ret ?_
   rw [if_pos (by simp [hg])] at hE
   rw [if_pos (by omega)] at hwi
   try dsimp only [Qq,Q8]
   apply Zk.ret
   ·rfl
   ·conv=>lhs;simp [Q9,Tryd.results9]
   ·rw [Y8,if_neg hlen,hwi,if_pos (by omega),hE];rfl
  | none =>
   refine AWp.rg [] [] ?_ (hr:=by conv=>lhs;simp [hC,Fn.row,Tm.row,Tm.Q3,Cs.Q3,h1c,hB,Kw,hg,q1,q2])
   cases q3 : Gx g with
   | true =>
    rw [q3] at hNm
    cases q4 : twB ps with
    | true =>
     rw [q4] at hTw
     refine AWp.rg [] [.p (fun _=>.d (.bool true)) none,.p (fun _=>.d (.bool true)) none] ?_ (hr:=by conv=>lhs;simp [hC,Fn.row,Tm.row,Tm.Q3,Cs.Q3,h1c,hB,Kw,hg,q3,q4,q1,q2])
     refine AWp.cy ?_
     refine AWp.rg [] [] ?_ (hr:=by conv=>lhs;simp [hC,Fn.row,Tm.row,Tm.Q3,Cs.Q3,h1c,hB,Kw,hg,q3,q4,q1,q2])
     refine AWp.ret ?_
     rw [if_pos (by simp [hg,q3,q4])] at hE
     rw [if_pos (by omega)] at hwi
     try dsimp only [Qq,Q8]
     apply Zk.ret
     ·rfl
     ·conv=>lhs;simp [Q9,Tryd.results9]
     ·rw [Y8,if_neg hlen,hwi,if_pos (by omega),hE];rfl
    | false =>
     rw [q4] at hTw
     cases q5 : badB ps with
     | true =>
      rw [q5] at hBd
      refine AWp.rg [] [.p (fun _=>.d (.bool true)) none,.p (fun _=>.d (.bool false)) none,.p (fun _=>.d (.bool true)) none] ?_ (hr:=by conv=>lhs;simp [hC,Fn.row,Tm.row,Tm.Q3,Cs.Q3,h1c,hB,Kw,hg,q3,q4,q5,q1,q2])
      refine AWp.cy ?_
      refine AWp.rg [] [] ?_ (hr:=by conv=>lhs;simp [hC,Fn.row,Tm.row,Tm.Q3,Cs.Q3,h1c,hB,Kw,hg,q3,q4,q5,q1,q2])
      refine AWp.ret ?_
      rw [if_pos (by simp [hg,q3,q4,q5])] at hE
      rw [if_pos (by omega)] at hwi
      try dsimp only [Qq,Q8]
      apply Zk.ret
      ·rfl
      ·conv=>lhs;simp [Q9,Tryd.results9]
      ·rw [Y8,if_neg hlen,hwi,if_pos (by omega),hE];rfl
     | false =>
      rw [q5] at hBd
      refine AWp.rg [] [.p (fun _=>.d (.bool true)) none,.p (fun _=>.d (.bool false)) none,.p (fun _=>.d (.bool false)) none] ?_ (hr:=by conv=>lhs;simp [hC,Fn.row,Tm.row,Tm.Q3,Cs.Q3,h1c,hB,Kw,hg,q3,q4,q5,q1,q2])
      refine AWp.cn ?_
      refine AWp.skip ?_
      by_cases q6 : 6 < B
      ·refine AWp.rg [] [] ?_ (hr:=by conv=>lhs;simp [hC,Fn.row,Tm.row,Tm.Q3,Cs.Q3,h1c,hB,Kw,hg,q3,q4,q5,q1,q2,q6])
       refine AWp.cy ?_
       refine AWp.rg [] [] ?_ (hr:=by conv=>lhs;simp [hC,Fn.row,Tm.row,Tm.Q3,Cs.Q3,h1c,hB,Kw,hg,q3,q4,q5,q1,q2,q6])
       refine AWp.ret ?_
       rw [if_neg (by simp [hg,q3,q4,q5]),if_pos (show 6 < ps.length by omega)] at hE
       rw [if_pos (by omega)] at hwi
       try dsimp only [Qq,Q8]
       apply Zk.ret
       ·rfl
       ·conv=>lhs;simp [Q9,Tryd.results9]
       ·rw [Y8,if_neg hlen,hwi,if_pos (by omega),hE];rfl
      refine AWp.rg [] [] ?_ (hr:=by conv=>lhs;simp [hC,Fn.row,Tm.row,Tm.Q3,Cs.Q3,h1c,hB,Kw,hg,q3,q4,q5,q1,q2,q6])
      refine AWp.cn ?_
      refine AWp.skip ?_
      by_cases q7 : 400 < S
      ·refine AWp.rg [] [.p (fun _=>.d (.int S)) none] ?_ (hr:=by conv=>lhs;simp [hC,Fn.row,Tm.row,Tm.Q3,Cs.Q3,h1c,hB,Kw,hg,q3,q4,q5,q1,q2,q6,q7])
       refine AWp.cy ?_
       refine AWp.rg [] [] ?_ (hr:=by conv=>lhs;simp [hC,Fn.row,Tm.row,Tm.Q3,Cs.Q3,h1c,hB,Kw,hg,q3,q4,q5,q1,q2,q6,q7])
       refine AWp.ret ?_
       rw [if_neg (by simp [hg,q3,q4,q5]),if_neg (show ¬ 6 < ps.length by omega),if_pos (show 400 < S by omega)] at hE
       rw [if_pos (by omega)] at hwi
       try dsimp only [Qq,Q8]
       apply Zk.ret
       ·rfl
       ·conv=>lhs;simp [Q9,Tryd.results9]
       ·rw [Y8,if_neg hlen,hwi,if_pos (by omega),hE];rfl
      refine AWp.rg [] [.p (fun _=>.d (.int S)) none] ?_ (hr:=by conv=>lhs;simp [hC,Fn.row,Tm.row,Tm.Q3,Cs.Q3,h1c,hB,Kw,hg,q3,q4,q5,q1,q2,q6,q7])
      refine AWp.cn ?_
      refine AWp.skip ?_
      rw [if_neg (by simp [hg,q3,q4,q5]),if_neg (show ¬ 6 < ps.length by omega),if_neg (show ¬ 400 < S by omega)] at hE
      rw [if_neg (show ¬ (E≠0) by omega)] at hwi
      have hput : D.Nk (.str g) [.int B] (arD f) = arD ((g,ps.length) :: f):=by rw [← hB];exact arD_put hg
      refine AWp.rg [] [] ?_ (hr:=by conv=>lhs;simp [hC,Fn.row,Tm.row,Tm.Q3,Cs.Q3,h1c,hB,Kw,hg,q3,q4,q5,hput,q1,q2,q6,q7])
      refine AWp.rg [] [] ?_ (hr:=by conv=>lhs;simp [hC,Fn.row,Tm.row,Tm.Q3,Cs.Q3,h1c,hB,Kw,hg,q3,q4,q5,hput,q1,q2,q6,q7])
      refine ⟨⟨i + 1,hi1,hwi⟩,by simp;omega,?_⟩
      dsimp only
      rw [hsn]
      exact Le.sub (by simp [hC]) (by simp [nmObj])
   | false =>
    rw [q3] at hNm
    refine AWp.rg [] [.p (fun _=>.d (.bool false)) none] ?_ (hr:=by conv=>lhs;simp [hC,Fn.row,Tm.row,Tm.Q3,Cs.Q3,h1c,hB,Kw,hg,q3,q1,q2])
    refine AWp.cy ?_
    refine AWp.rg [] [] ?_ (hr:=by conv=>lhs;simp [hC,Fn.row,Tm.row,Tm.Q3,Cs.Q3,h1c,hB,Kw,hg,q3,q1,q2])
    refine AWp.ret ?_
    rw [if_pos (by simp [hg,q3])] at hE
    rw [if_pos (by omega)] at hwi
    try dsimp only [Qq,Q8]
    apply Zk.ret
    ·rfl
    ·conv=>lhs;simp [Q9,Tryd.results9]
    ·rw [Y8,if_neg hlen,hwi,if_pos (by omega),hE];rfl
 have hi1 : i = l.length:=by have:=of_decide_eq_false hci;omega
 subst hi1
 clear hci
 rw [List.drop_length] at hwi
 simp only [Oq] at hwi
 rw [List.take_length]
 have hall:=heads_zero hwi
 refine AWp.exit ?_
 refine AWp.rg [] [] ?_ (hr:=by conv=>lhs;simp [hC,Fn.row,Tm.row,Tm.Q3,Cs.Q3,q1,q2])
 repeat (first | refine AWp.seq ?_ | refine AWp.block ?_)
 refine AWp.loop (σ:=fun u : {j : Nat // j≤l.length∧O5 (Qj9 l) l = O5 (Qj9 l) (l.drop j)}=>⟨81,[(0,D7 l),(3,.mp 19),(65,D7 l),(66,.d (.int l.length)),(67,.d (.int u.1))],[(19,some (Nw (Qj9 l)))]⟩)
  (μ:=fun u=>l.length - u.1) ⟨0,Nat.zero_le _,rfl⟩ (Le.sub (by simp [hC,nmObj]) (by simp [hC,nmObj])) (fun ⟨j,hi,hwj⟩=>?_)
 dsimp only
 repeat (first | refine AWp.seq ?_ | refine AWp.block ?_)
 apply AWp.reg [] []
 ·conv=>lhs;simp
 ·trivial
 repeat (first | refine AWp.seq ?_ | refine AWp.block ?_)
 refine AWp.cond rfl (fun hcj=>?_) (fun hcj=>?_)
 ·have hi1 : j < l.length:=by have:=of_decide_eq_true hcj;omega
  have h1c : l[j]? = some l[j]:=List.getElem?_eq_getElem hi1
  have hmc : l[j]∈l:=List.getElem_mem hi1
  have hdc : l.drop j = l[j] :: l.drop (j + 1):=List.drop_eq_getElem_cons hi1
  generalize l[j] = c at h1c hmc hdc
  have hps:=(hall _ hmc).2.2.2.1
  obtain ⟨g,ps,bd⟩:=c
  obtain ⟨o1,o2,o3,o4⟩:=hl.all _ hmc
  dsimp only at o1 o2 o3 o4 hps
  rw [hdc] at hwj
  simp only [O5] at hwj
  have hx:=cs_Wrong (Qj9 l) bd ps o4 (by omega)
  obtain ⟨E,hE⟩ : ∃ E,E = bd.wrong (Qj9 l) ps 0:=⟨_,rfl⟩
  rw [← hE] at hwj hx
  obtain ⟨xk,xn,xa,xb,xv,xx,xc⟩:=bd
  refine AWp.skip ?_
  refine AWp.rg [] [] ?_ (hr:=by conv=>lhs;simp [hC,Fn.row,Tm.row,Tm.Q3,Cs.Q3,h1c,q1,q2])
  refine AWp.rg [] [.c [(1000,19)] [.mp 1000,Xw (.mk xk xn xa xb xv xx xc),X6 ps,.d (.int 0)] [(1000,Nw (Qj9 l))] (.d (.int E)) [(1000,Nw (Qj9 l))]] ?_ (hr:=by conv=>lhs;simp [hC,Fn.row,Tm.row,Tm.Q3,Cs.Q3,h1c,q1,q2])
  by_cases q8 : E = 0
  ·refine AWp.rg [] [] ?_ (hr:=by conv=>lhs;simp [hC,Fn.row,Tm.row,Tm.Q3,Cs.Q3,h1c,q1,q2,q8])
   refine AWp.cn ?_
   refine AWp.skip ?_
   rw [if_neg (show ¬ (E≠0) by omega)] at hwj
   refine AWp.rg [] [] ?_ (hr:=by conv=>lhs;simp [hC,Fn.row,Tm.row,Tm.Q3,Cs.Q3,h1c,q1,q2,q8])
   refine ⟨⟨j + 1,hi1,hwj⟩,by simp;omega,?_⟩
   dsimp only
   exact Le.sub (by simp [hC]) (by simp [nmObj])
  refine AWp.rg [] [] ?_ (hr:=by conv=>lhs;simp [hC,Fn.row,Tm.row,Tm.Q3,Cs.Q3,h1c,q1,q2,q8])
  refine AWp.cy ?_
  refine AWp.rg [] [] ?_ (hr:=by conv=>lhs;simp [hC,Fn.row,Tm.row,Tm.Q3,Cs.Q3,h1c,q1,q2,q8])
  refine AWp.ret ?_
  rw [if_pos (by omega)] at hwj
  try dsimp only [Qq,Q8]
  apply Zk.ret
  ·rfl
  ·conv=>lhs;simp [Q9,Tryd.results9]
  ·rw [Y8,if_neg hlen,hwi,if_neg (by omega),hwj];rfl
 have hi1 : j = l.length:=by have:=of_decide_eq_false hcj;omega
 subst hi1
 clear hcj
 rw [List.drop_length] at hwj
 simp only [O5] at hwj
 refine AWp.exit ?_
 refine AWp.rg [] [] ?_ (hr:=by conv=>lhs;simp [hC,Fn.row,Tm.row,Tm.Q3,Cs.Q3,q1,q2])
 refine AWp.ret ?_
 try dsimp only [Qq,Q8]
 apply Zk.ret
 ·rfl
 ·conv=>lhs;simp [Q9,Tryd.results9]
 ·rw [Y8,if_neg hlen,hwi,if_neg (by omega),hwj];rfl
end Go.Proofs.YtjpldhjgehoffaaDoor
