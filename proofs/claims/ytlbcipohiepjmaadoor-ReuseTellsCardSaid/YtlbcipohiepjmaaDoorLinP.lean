import Derived.Test.YtlbcipohiepjmaaDoorEvalB
set_option maxRecDepth 20000
set_option maxHeartbeats 16000000
set_option linter.unusedVariables false
set_option linter.unusedSimpArgs false
namespace Go.Proofs.YtlbcipohiepjmaaDoor
open Go.RowKit
attribute [local simp] runD mkRc ldOf stOf stOk Mj Tv Rz Kv Kw Yq Y8 Xz Y4 Bj evA Vj F4 Value.oneCell' Z9 Q5 Qw frOf Uv Qj AS.after Z4 V4 Y3 AV.ids M7 Q6.ids frNo Mx Gj Uw Hq Jv Y5 Vx U3 U2 K4 toD1 Ez setAt U9 O0 F5 Av H6 Aw binI AV.cells J4 Jj H5 Wj AV.kill Q6.kill AV.has AV.Yj Op.operands Call.operands Nk Mv Z8 cChk Z0 X3 Ev moQ M9 R7 Yz AV.ren Ej Q6.ren Q6.like kept K5 Sq AV.frz Px Ox frSub M5 D9 AS.frz C8 G7 Q6.frz Fx bleF Nat.ble_eq Gw G6 Y1 D.Y2 Tj G5 V8 Vk phO Az F6 D7 K6 V5 Low Ew
def arD (f:J6):List (D×List D):=f.map fun x=>(.str x.1,[.int x.2])
theorem Y6 (f:J6) (s:ByteArray):D.aget (.str s) (arD f)=(f.get s).map fun n=>[.int n]:=by
 unfold arD J6.get;induction f with
 |nil=>simp[D.aget]
 |cons x r ih=>
  simp only[List.map_cons,List.find?_cons];by_cases h:x.1=s
  ·simp[D.aget,D.keq,h]
  ·have h':¬s=x.1:=fun e=>h e.symm
   simp only[h,decide_false];rw[←ih];simp[D.aget,D.keq,h]
def csObj (g:Int) (ws:List ByteArray) (k n:Int) (a b:ByteArray) (vs:List ByteArray) (xs:List Tm) (cs:List Cs):Option Q6:=some (.blk 42 (.d (.int g):: .d (Q7 ws)::tmCells k n a b vs xs cs))
abbrev H7 (f:J6):Q6:=fnsObj (arD f)
theorem cs_Wrong_at (f:J6):∀(N:Nat) (t:Tm) (names:List ByteArray) (deep:Int),t.sz<N→t.Ok→0≤deep→deep≤25→(names.length:Int)≤1048576+8 * deep→
  Y9 Tryd.prog 17 [.mp 1000,Xj t,Z7 names,.d (.int deep)] [(1000,H7 f)] (.d (.int (t.wrong f names deep))) [(1000,H7 f)]:=by
 intro N;induction N with
 |zero=>intro t _ _ h;omega
 |succ N ih=>
 intro t names deep hN hO hd0 hd1 hnl;obtain⟨k,n,a,b,vs,xs,cs⟩:=t;obtain⟨o1,o2,o3,o4,o5⟩:=hO.vars;refine Y9.of Tryd.func17 rfl rfl (Nat.le_of_ble_eq_true rfl) ?_;show AWp _ _ (Zw _ Tryd.f17 _ _) (K5 235 _ _);repeat (first|refine AWp.seq ?_|refine AWp.block ?_)
 apply AWp.reg [] []
 ·conv=>lhs;simp
 ·trivial
 by_cases hdeep:24<deep
 ·repeat (first|refine AWp.seq ?_|refine AWp.block ?_)
  apply AWp.reg [] []
  ·conv=>lhs;simp[hdeep]
  ·trivial
  refine AWp.cy ?_;repeat (first|refine AWp.seq ?_|refine AWp.block ?_)
  apply AWp.reg [] []
  ·conv=>lhs;simp
  ·trivial
  refine AWp.ret ?_;try dsimp only[Qq,Q8]
  apply Zw.ret
  ·rfl
  ·conv=>lhs;simp[Qz,Tryd.results17]
  ·simp only[Tm.wrong,if_pos hdeep];rfl
  ·simp[Zx,Q5]
 repeat (first|refine AWp.seq ?_|refine AWp.block ?_)
 apply AWp.reg [] []
 ·conv=>lhs;simp[hdeep]
 ·trivial
 refine AWp.cn ?_;refine AWp.skip ?_;by_cases hk1:k<1
 ·repeat (first|refine AWp.seq ?_|refine AWp.block ?_)
  apply AWp.reg [] []
  ·conv=>lhs;simp[hk1]
  ·trivial
  refine AWp.cy ?_;repeat (first|refine AWp.seq ?_|refine AWp.block ?_)
  apply AWp.reg [] []
  ·conv=>lhs;simp
  ·trivial
  refine AWp.ret ?_;try dsimp only[Qq,Q8]
  apply Zw.ret
  ·rfl
  ·conv=>lhs;simp[Qz,Tryd.results17]
  ·simp only[Tm.wrong,if_neg hdeep,if_pos (Or.inl hk1:k<1∨7<k)];rfl
  ·simp[Zx,Q5]
 by_cases hk7:7<k
 ·repeat (first|refine AWp.seq ?_|refine AWp.block ?_)
  apply AWp.reg [] []
  ·conv=>lhs;simp[hk1,hk7]
  ·trivial
  refine AWp.cy ?_;repeat (first|refine AWp.seq ?_|refine AWp.block ?_)
  apply AWp.reg [] []
  ·conv=>lhs;simp
  ·trivial
  refine AWp.ret ?_;try dsimp only[Qq,Q8]
  apply Zw.ret
  ·rfl
  ·conv=>lhs;simp[Qz,Tryd.results17]
  ·simp only[Tm.wrong,if_neg hdeep,if_pos (Or.inr hk7:k<1∨7<k)];rfl
  ·simp[Zx,Q5]
 repeat (first|refine AWp.seq ?_|refine AWp.block ?_)
 apply AWp.reg [] []
 ·conv=>lhs;simp[hk1,hk7]
 ·trivial
 refine AWp.cn ?_;refine AWp.skip ?_;have hkk:¬(k<1∨7<k):=by omega
 have hk:k=1∨k=2∨k=3∨k=4∨k=5∨k=6∨k=7:=by omega
 obtain⟨A,hA⟩:∃A:Int,(xs.length:Int)=A:=⟨_,rfl⟩
 obtain⟨C,hC⟩:∃C:Int,(cs.length:Int)=C:=⟨_,rfl⟩
 obtain⟨na,hN0⟩:∃na:Nat,xs.length=na:=⟨_,rfl⟩
 obtain⟨nc,hC0⟩:∃nc:Nat,cs.length=nc:=⟨_,rfl⟩
 have hA1:A=na:=by omega
 have hC1:C=nc:=by omega
 by_cases hm:Zv k na nc=true
 ·rcases hk with rfl|rfl|rfl|rfl|rfl|rfl|rfl
  ·refine AWp.rg [] [] ?_;by_cases c1:0<A
   ·refine AWp.rg [] [] ?_ (hr:=by conv=>lhs;simp[Q9,hA,hC,c1]);refine AWp.cy ?_;refine AWp.rg [] [] ?_;refine AWp.ret ?_;try dsimp only[Qq,Q8]
    apply Zw.ret
    ·rfl
    ·conv=>lhs;simp[Qz,Tryd.results17]
    ·simp only[Tm.wrong,if_neg hdeep,if_neg hkk,hN0,hC0,if_pos hm];rfl
    ·simp[Zx,Q5]
   by_cases c2:A=0
   ·have c3:0<C:=by simp[Zv]at hm;omega
    refine AWp.rg [] [] ?_ (hr:=by conv=>lhs;simp[Q9,hA,hC,c1,c2,c3]);refine AWp.cy ?_;refine AWp.rg [] [] ?_;refine AWp.ret ?_;try dsimp only[Qq,Q8]
    apply Zw.ret
    ·rfl
    ·conv=>lhs;simp[Qz,Tryd.results17]
    ·simp only[Tm.wrong,if_neg hdeep,if_neg hkk,hN0,hC0,if_pos hm];rfl
    ·simp[Zx,Q5]
   refine AWp.rg [] [] ?_ (hr:=by conv=>lhs;simp[Q9,hA,hC,c1,c2]);refine AWp.cy ?_;refine AWp.rg [] [] ?_;refine AWp.ret ?_;try dsimp only[Qq,Q8]
   apply Zw.ret
   ·rfl
   ·conv=>lhs;simp[Qz,Tryd.results17]
   ·simp only[Tm.wrong,if_neg hdeep,if_neg hkk,hN0,hC0,if_pos hm];rfl
   ·simp[Zx,Q5]
  ·refine AWp.rg [] [] ?_;by_cases c1:0<A
   ·refine AWp.rg [] [] ?_ (hr:=by conv=>lhs;simp[Q9,hA,hC,c1]);refine AWp.cy ?_;refine AWp.rg [] [] ?_;refine AWp.ret ?_;try dsimp only[Qq,Q8]
    apply Zw.ret
    ·rfl
    ·conv=>lhs;simp[Qz,Tryd.results17]
    ·simp only[Tm.wrong,if_neg hdeep,if_neg hkk,hN0,hC0,if_pos hm];rfl
    ·simp[Zx,Q5]
   by_cases c2:A=0
   ·have c3:0<C:=by simp[Zv]at hm;omega
    refine AWp.rg [] [] ?_ (hr:=by conv=>lhs;simp[Q9,hA,hC,c1,c2,c3]);refine AWp.cy ?_;refine AWp.rg [] [] ?_;refine AWp.ret ?_;try dsimp only[Qq,Q8]
    apply Zw.ret
    ·rfl
    ·conv=>lhs;simp[Qz,Tryd.results17]
    ·simp only[Tm.wrong,if_neg hdeep,if_neg hkk,hN0,hC0,if_pos hm];rfl
    ·simp[Zx,Q5]
   refine AWp.rg [] [] ?_ (hr:=by conv=>lhs;simp[Q9,hA,hC,c1,c2]);refine AWp.cy ?_;refine AWp.rg [] [] ?_;refine AWp.ret ?_;try dsimp only[Qq,Q8]
   apply Zw.ret
   ·rfl
   ·conv=>lhs;simp[Qz,Tryd.results17]
   ·simp only[Tm.wrong,if_neg hdeep,if_neg hkk,hN0,hC0,if_pos hm];rfl
   ·simp[Zx,Q5]
  ·refine AWp.rg [] [] ?_;by_cases c1:6<A
   ·refine AWp.rg [] [] ?_ (hr:=by conv=>lhs;simp[Q9,hA,hC,c1]);refine AWp.cy ?_;refine AWp.rg [] [] ?_;refine AWp.ret ?_;try dsimp only[Qq,Q8]
    apply Zw.ret
    ·rfl
    ·conv=>lhs;simp[Qz,Tryd.results17]
    ·simp only[Tm.wrong,if_neg hdeep,if_neg hkk,hN0,hC0,if_pos hm];rfl
    ·simp[Zx,Q5]
   have c3:0<C:=by simp[Zv]at hm;omega
   refine AWp.rg [] [] ?_ (hr:=by conv=>lhs;simp[Q9,hA,hC,c1,c3]);refine AWp.cy ?_;refine AWp.rg [] [] ?_;refine AWp.ret ?_;try dsimp only[Qq,Q8]
   apply Zw.ret
   ·rfl
   ·conv=>lhs;simp[Qz,Tryd.results17]
   ·simp only[Tm.wrong,if_neg hdeep,if_neg hkk,hN0,hC0,if_pos hm];rfl
   ·simp[Zx,Q5]
  ·refine AWp.rg [] [] ?_;by_cases c1:6<A
   ·refine AWp.rg [] [] ?_ (hr:=by conv=>lhs;simp[Q9,hA,hC,c1]);refine AWp.cy ?_;refine AWp.rg [] [] ?_;refine AWp.ret ?_;try dsimp only[Qq,Q8]
    apply Zw.ret
    ·rfl
    ·conv=>lhs;simp[Qz,Tryd.results17]
    ·simp only[Tm.wrong,if_neg hdeep,if_neg hkk,hN0,hC0,if_pos hm];rfl
    ·simp[Zx,Q5]
   have c3:0<C:=by simp[Zv]at hm;omega
   refine AWp.rg [] [] ?_ (hr:=by conv=>lhs;simp[Q9,hA,hC,c1,c3]);refine AWp.cy ?_;refine AWp.rg [] [] ?_;refine AWp.ret ?_;try dsimp only[Qq,Q8]
   apply Zw.ret
   ·rfl
   ·conv=>lhs;simp[Qz,Tryd.results17]
   ·simp only[Tm.wrong,if_neg hdeep,if_neg hkk,hN0,hC0,if_pos hm];rfl
   ·simp[Zx,Q5]
  ·refine AWp.rg [] [] ?_;by_cases c1:2<A
   ·refine AWp.rg [] [] ?_ (hr:=by conv=>lhs;simp[Q9,hA,hC,c1]);refine AWp.cy ?_;refine AWp.rg [] [] ?_;refine AWp.ret ?_;try dsimp only[Qq,Q8]
    apply Zw.ret
    ·rfl
    ·conv=>lhs;simp[Qz,Tryd.results17]
    ·simp only[Tm.wrong,if_neg hdeep,if_neg hkk,hN0,hC0,if_pos hm];rfl
    ·simp[Zx,Q5]
   by_cases c2:A=2
   ·have c3:0<C:=by simp[Zv]at hm;omega
    refine AWp.rg [] [] ?_ (hr:=by conv=>lhs;simp[Q9,hA,hC,c1,c2,c3]);refine AWp.cy ?_;refine AWp.rg [] [] ?_;refine AWp.ret ?_;try dsimp only[Qq,Q8]
    apply Zw.ret
    ·rfl
    ·conv=>lhs;simp[Qz,Tryd.results17]
    ·simp only[Tm.wrong,if_neg hdeep,if_neg hkk,hN0,hC0,if_pos hm];rfl
    ·simp[Zx,Q5]
   refine AWp.rg [] [] ?_ (hr:=by conv=>lhs;simp[Q9,hA,hC,c1,c2]);refine AWp.cy ?_;refine AWp.rg [] [] ?_;refine AWp.ret ?_;try dsimp only[Qq,Q8]
   apply Zw.ret
   ·rfl
   ·conv=>lhs;simp[Qz,Tryd.results17]
   ·simp only[Tm.wrong,if_neg hdeep,if_neg hkk,hN0,hC0,if_pos hm];rfl
   ·simp[Zx,Q5]
  ·refine AWp.rg [] [] ?_;by_cases c1:2<A
   ·refine AWp.rg [] [] ?_ (hr:=by conv=>lhs;simp[Q9,hA,hC,c1]);refine AWp.cy ?_;refine AWp.rg [] [] ?_;refine AWp.ret ?_;try dsimp only[Qq,Q8]
    apply Zw.ret
    ·rfl
    ·conv=>lhs;simp[Qz,Tryd.results17]
    ·simp only[Tm.wrong,if_neg hdeep,if_neg hkk,hN0,hC0,if_pos hm];rfl
    ·simp[Zx,Q5]
   by_cases c2:A=2
   ·have c3:0<C:=by simp[Zv]at hm;omega
    refine AWp.rg [] [] ?_ (hr:=by conv=>lhs;simp[Q9,hA,hC,c1,c2,c3]);refine AWp.cy ?_;refine AWp.rg [] [] ?_;refine AWp.ret ?_;try dsimp only[Qq,Q8]
    apply Zw.ret
    ·rfl
    ·conv=>lhs;simp[Qz,Tryd.results17]
    ·simp only[Tm.wrong,if_neg hdeep,if_neg hkk,hN0,hC0,if_pos hm];rfl
    ·simp[Zx,Q5]
   refine AWp.rg [] [] ?_ (hr:=by conv=>lhs;simp[Q9,hA,hC,c1,c2]);refine AWp.cy ?_;refine AWp.rg [] [] ?_;refine AWp.ret ?_;try dsimp only[Qq,Q8]
   apply Zw.ret
   ·rfl
   ·conv=>lhs;simp[Qz,Tryd.results17]
   ·simp only[Tm.wrong,if_neg hdeep,if_neg hkk,hN0,hC0,if_pos hm];rfl
   ·simp[Zx,Q5]
  ·refine AWp.rg [] [] ?_;by_cases c1:1<A
   ·refine AWp.rg [] [] ?_ (hr:=by conv=>lhs;simp[Q9,hA,hC,c1]);refine AWp.cy ?_;refine AWp.rg [] [] ?_;refine AWp.ret ?_;try dsimp only[Qq,Q8]
    apply Zw.ret
    ·rfl
    ·conv=>lhs;simp[Qz,Tryd.results17]
    ·simp only[Tm.wrong,if_neg hdeep,if_neg hkk,hN0,hC0,if_pos hm];rfl
    ·simp[Zx,Q5]
   have c2:¬A=1:=by simp[Zv]at hm;omega
   refine AWp.rg [] [] ?_ (hr:=by conv=>lhs;simp[Q9,hA,hC,c1,c2]);refine AWp.cy ?_;refine AWp.rg [] [] ?_;refine AWp.ret ?_;try dsimp only[Qq,Q8]
   apply Zw.ret
   ·rfl
   ·conv=>lhs;simp[Qz,Tryd.results17]
   ·simp only[Tm.wrong,if_neg hdeep,if_neg hkk,hN0,hC0,if_pos hm];rfl
   ·simp[Zx,Q5]
 refine AWp.seqJ2 ⟨235,[(0,.mp 1000),(2,Z7 names),(3,.d (.int deep)),(5,.ptr 5 0)],[(5,Q9 k n a b vs xs cs),(1000,some (H7 f))]⟩ ?_ (fun W hW=>?_);rotate_left
 ·rcases hk with rfl|rfl|rfl|rfl|rfl|rfl|rfl
  ·have c1:¬0<A:=by simp[Zv]at hm;omega
   have c2:A=0:=by simp[Zv]at hm;omega
   have c3:¬0<C:=by simp[Zv]at hm;omega
   refine AWp.rg [] [] ?_;refine AWp.rg [] [] ?_ (hr:=by conv=>lhs;simp[Q9,hA,hC,c1,c2,c3]);refine AWp.cn ?_;refine AWp.skip ?_;exact hW _ (Le.sub (by simp) (by simp[Q9]))
  ·have c1:¬0<A:=by simp[Zv]at hm;omega
   have c2:A=0:=by simp[Zv]at hm;omega
   have c3:¬0<C:=by simp[Zv]at hm;omega
   refine AWp.rg [] [] ?_;refine AWp.rg [] [] ?_ (hr:=by conv=>lhs;simp[Q9,hA,hC,c1,c2,c3]);refine AWp.cn ?_;refine AWp.skip ?_;exact hW _ (Le.sub (by simp) (by simp[Q9]))
  ·have c1:¬6<A:=by simp[Zv]at hm;omega
   have c3:¬0<C:=by simp[Zv]at hm;omega
   refine AWp.rg [] [] ?_;refine AWp.rg [] [] ?_ (hr:=by conv=>lhs;simp[Q9,hA,hC,c1,c3]);refine AWp.cn ?_;refine AWp.skip ?_;exact hW _ (Le.sub (by simp) (by simp[Q9]))
  ·have c1:¬6<A:=by simp[Zv]at hm;omega
   have c3:¬0<C:=by simp[Zv]at hm;omega
   refine AWp.rg [] [] ?_;refine AWp.rg [] [] ?_ (hr:=by conv=>lhs;simp[Q9,hA,hC,c1,c3]);refine AWp.cn ?_;refine AWp.skip ?_;exact hW _ (Le.sub (by simp) (by simp[Q9]))
  ·have c1:¬2<A:=by simp[Zv]at hm;omega
   have c2:A=2:=by simp[Zv]at hm;omega
   have c3:¬0<C:=by simp[Zv]at hm;omega
   refine AWp.rg [] [] ?_;refine AWp.rg [] [] ?_ (hr:=by conv=>lhs;simp[Q9,hA,hC,c1,c2,c3]);refine AWp.cn ?_;refine AWp.skip ?_;exact hW _ (Le.sub (by simp) (by simp[Q9]))
  ·have c1:¬2<A:=by simp[Zv]at hm;omega
   have c2:A=2:=by simp[Zv]at hm;omega
   have c3:¬0<C:=by simp[Zv]at hm;omega
   refine AWp.rg [] [] ?_;refine AWp.rg [] [] ?_ (hr:=by conv=>lhs;simp[Q9,hA,hC,c1,c2,c3]);refine AWp.cn ?_;refine AWp.skip ?_;exact hW _ (Le.sub (by simp) (by simp[Q9]))
  ·have c1:¬1<A:=by simp[Zv]at hm;omega
   have c2:A=1:=by simp[Zv]at hm;omega
   refine AWp.rg [] [] ?_;refine AWp.rg [] [] ?_ (hr:=by conv=>lhs;simp[Q9,hA,hC,c1,c2]);refine AWp.cn ?_;refine AWp.skip ?_;exact hW _ (Le.sub (by simp) (by simp[Q9]))
 have hm':Zv k na nc=false:=by simpa using hm
 have hna:na≤6:=by
  rcases hk with rfl|rfl|rfl|rfl|rfl|rfl|rfl<;> simp[Zv]at hm'<;> omega
 have hHas:=sp_Has names a (by omega);have hNm:=sp_Name a (by omega);by_cases hh:Xw f k n a names na=0;rotate_left
 ·rcases hk with rfl|rfl|rfl|rfl|rfl|rfl|rfl
  ·refine AWp.rg [] [] ?_ (hr:=by conv=>lhs;simp[Q9]);refine AWp.rg [] [] ?_ (hr:=by conv=>lhs;simp[Q9]);refine AWp.cy ?_;have hv:hasB names a=false:=by simp[Xw]at hh;exact hh
   rw[hv]at hHas;repeat (first|refine AWp.seq ?_|refine AWp.block ?_)
   apply AWp.reg [] [.p (fun _=>.d (.bool false)) none]
   ·conv=>lhs;simp[Q9]
   ·exact hHas
   refine AWp.cy ?_;refine AWp.rg [] [] ?_;refine AWp.ret ?_;try dsimp only[Qq,Q8]
   apply Zw.ret
   ·rfl
   ·conv=>lhs;simp[Qz,Tryd.results17]
   ·simp only[Tm.wrong,if_neg hdeep,if_neg hkk,hN0,hC0,if_neg hm,Xw,hv];rfl
   ·simp[Zx,Q5]
  ·refine AWp.rg [] [] ?_ (hr:=by conv=>lhs;simp[Q9]);refine AWp.rg [] [] ?_ (hr:=by conv=>lhs;simp[Q9]);refine AWp.cn ?_;refine AWp.rg [] [] ?_ (hr:=by conv=>lhs;simp[Q9]);refine AWp.cy ?_;by_cases c1:n< -2147483648
   ·refine AWp.rg [] [] ?_ (hr:=by conv=>lhs;simp[Q9,c1]);refine AWp.cy ?_;refine AWp.rg [] [] ?_;refine AWp.ret ?_;try dsimp only[Qq,Q8]
    apply Zw.ret
    ·rfl
    ·conv=>lhs;simp[Qz,Tryd.results17]
    ·simp only[Tm.wrong,if_neg hdeep,if_neg hkk,hN0,hC0,if_neg hm,Xw,c1];rfl
    ·simp[Zx,Q5]
   have c2:2147483647<n:=by simp[Xw]at hh;omega
   refine AWp.rg [] [] ?_ (hr:=by conv=>lhs;simp[Q9,c1,c2]);refine AWp.cy ?_;refine AWp.rg [] [] ?_;refine AWp.ret ?_;try dsimp only[Qq,Q8]
   apply Zw.ret
   ·rfl
   ·conv=>lhs;simp[Qz,Tryd.results17]
   ·simp only[Tm.wrong,if_neg hdeep,if_neg hkk,hN0,hC0,if_neg hm,Xw,c1,c2];rfl
   ·simp[Zx,Q5]
  ·refine AWp.rg [] [] ?_ (hr:=by conv=>lhs;simp[Q9]);refine AWp.rg [] [] ?_ (hr:=by conv=>lhs;simp[Q9]);refine AWp.cn ?_;refine AWp.rg [] [] ?_ (hr:=by conv=>lhs;simp[Q9]);refine AWp.cn ?_;refine AWp.rg [] [] ?_ (hr:=by conv=>lhs;simp[Q9]);refine AWp.cy ?_;by_cases c1:n<0
   ·refine AWp.rg [] [] ?_ (hr:=by conv=>lhs;simp[Q9,c1]);refine AWp.cy ?_;refine AWp.rg [] [] ?_;refine AWp.ret ?_;try dsimp only[Qq,Q8]
    apply Zw.ret
    ·rfl
    ·conv=>lhs;simp[Qz,Tryd.results17]
    ·simp only[Tm.wrong,if_neg hdeep,if_neg hkk,hN0,hC0,if_neg hm,Xw,c1];rfl
    ·simp[Zx,Q5]
   have c2:9<n:=by simp[Xw]at hh;omega
   refine AWp.rg [] [] ?_ (hr:=by conv=>lhs;simp[Q9,c1,c2]);refine AWp.cy ?_;refine AWp.rg [] [] ?_;refine AWp.ret ?_;try dsimp only[Qq,Q8]
   apply Zw.ret
   ·rfl
   ·conv=>lhs;simp[Qz,Tryd.results17]
   ·simp only[Tm.wrong,if_neg hdeep,if_neg hkk,hN0,hC0,if_neg hm,Xw,c1,c2];rfl
   ·simp[Zx,Q5]
  ·refine AWp.rg [] [] ?_ (hr:=by conv=>lhs;simp[Q9]);refine AWp.rg [] [] ?_ (hr:=by conv=>lhs;simp[Q9]);refine AWp.cn ?_;refine AWp.rg [] [] ?_ (hr:=by conv=>lhs;simp[Q9]);refine AWp.cn ?_;refine AWp.rg [] [] ?_ (hr:=by conv=>lhs;simp[Q9]);refine AWp.cn ?_;refine AWp.rg [] [] ?_ (hr:=by conv=>lhs;simp[Q9]);refine AWp.cn ?_;refine AWp.rg [] [] ?_ (hr:=by conv=>lhs;simp[Q9]);refine AWp.cn ?_;refine AWp.rg [] [] ?_ (hr:=by conv=>lhs;simp[Q9]);refine AWp.cy ?_;cases hf:f.get a with
   |none=>
    refine AWp.rg [] [] ?_ (hr:=by conv=>lhs;simp[Q9,Y6,hf]);refine AWp.rg [] [] ?_;refine AWp.cy ?_;refine AWp.rg [] [] ?_;refine AWp.ret ?_;try dsimp only[Qq,Q8]
    apply Zw.ret
    ·rfl
    ·conv=>lhs;simp[Qz,Tryd.results17]
    ·simp only[Tm.wrong,if_neg hdeep,if_neg hkk,hN0,hC0,if_neg hm,Xw,hf];rfl
    ·simp[Zx,Q5]
   |some w=>
    have c1:¬w=na:=by simp[Xw,hf]at hh;exact hh
    have c1i:¬(w:Int)=A:=by omega
    refine AWp.rg [] [] ?_ (hr:=by conv=>lhs;simp[Q9,Y6,hf]);refine AWp.rg [] [] ?_;refine AWp.cn ?_;refine AWp.skip ?_;refine AWp.rg [] [] ?_ (hr:=by conv=>lhs;simp[Q9,hA,c1,c1i]);refine AWp.cy ?_;refine AWp.rg [] [] ?_;refine AWp.ret ?_;try dsimp only[Qq,Q8]
    apply Zw.ret
    ·rfl
    ·conv=>lhs;simp[Qz,Tryd.results17]
    ·simp only[Tm.wrong,if_neg hdeep,if_neg hkk,hN0,hC0,if_neg hm,Xw,hf,c1,c1i];rfl
    ·simp[Zx,Q5]
  ·refine AWp.rg [] [] ?_ (hr:=by conv=>lhs;simp[Q9]);refine AWp.rg [] [] ?_ (hr:=by conv=>lhs;simp[Q9]);refine AWp.cn ?_;refine AWp.rg [] [] ?_ (hr:=by conv=>lhs;simp[Q9]);refine AWp.cn ?_;refine AWp.rg [] [] ?_ (hr:=by conv=>lhs;simp[Q9]);refine AWp.cn ?_;refine AWp.rg [] [] ?_ (hr:=by conv=>lhs;simp[Q9]);refine AWp.cy ?_;by_cases c1:n<1
   ·refine AWp.rg [] [] ?_ (hr:=by conv=>lhs;simp[Q9,c1]);refine AWp.cy ?_;refine AWp.rg [] [] ?_;refine AWp.ret ?_;try dsimp only[Qq,Q8]
    apply Zw.ret
    ·rfl
    ·conv=>lhs;simp[Qz,Tryd.results17]
    ·simp only[Tm.wrong,if_neg hdeep,if_neg hkk,hN0,hC0,if_neg hm,Xw,c1];rfl
    ·simp[Zx,Q5]
   have c2:5<n:=by simp[Xw]at hh;omega
   refine AWp.rg [] [] ?_ (hr:=by conv=>lhs;simp[Q9,c1,c2]);refine AWp.cy ?_;refine AWp.rg [] [] ?_;refine AWp.ret ?_;try dsimp only[Qq,Q8]
   apply Zw.ret
   ·rfl
   ·conv=>lhs;simp[Qz,Tryd.results17]
   ·simp only[Tm.wrong,if_neg hdeep,if_neg hkk,hN0,hC0,if_neg hm,Xw,c1,c2];rfl
   ·simp[Zx,Q5]
  ·refine AWp.rg [] [] ?_ (hr:=by conv=>lhs;simp[Q9]);refine AWp.rg [] [] ?_ (hr:=by conv=>lhs;simp[Q9]);refine AWp.cn ?_;refine AWp.rg [] [] ?_ (hr:=by conv=>lhs;simp[Q9]);refine AWp.cn ?_;refine AWp.rg [] [] ?_ (hr:=by conv=>lhs;simp[Q9]);refine AWp.cn ?_;refine AWp.rg [] [] ?_ (hr:=by conv=>lhs;simp[Q9]);refine AWp.cn ?_;refine AWp.rg [] [] ?_ (hr:=by conv=>lhs;simp[Q9]);refine AWp.cy ?_;have hv:Rw a=false:=by simp[Xw]at hh;exact hh
   rw[hv]at hNm;repeat (first|refine AWp.seq ?_|refine AWp.block ?_)
   apply AWp.reg [] [.p (fun _=>.d (.bool false)) none]
   ·conv=>lhs;simp[Q9]
   ·exact hNm
   refine AWp.cy ?_;refine AWp.rg [] [] ?_;refine AWp.ret ?_;try dsimp only[Qq,Q8]
   apply Zw.ret
   ·rfl
   ·conv=>lhs;simp[Qz,Tryd.results17]
   ·simp only[Tm.wrong,if_neg hdeep,if_neg hkk,hN0,hC0,if_neg hm,Xw,hv];rfl
   ·simp[Zx,Q5]
  ·simp[Xw]at hh
 refine AWp.seqJ ⟨235,[(0,.mp 1000),(2,Z7 names),(3,.d (.int deep)),(5,.ptr 5 0)],[(5,Q9 k n a b vs xs cs),(1000,some (H7 f))]⟩ ?_ (fun W hW=>?_);rotate_left
 ·rcases hk with rfl|rfl|rfl|rfl|rfl|rfl|rfl
  ·refine AWp.rg [] [] ?_ (hr:=by conv=>lhs;simp[Q9]);refine AWp.rg [] [] ?_ (hr:=by conv=>lhs;simp[Q9]);refine AWp.cy ?_;have hv:hasB names a=true:=by simp[Xw]at hh;exact hh
   rw[hv]at hHas;repeat (first|refine AWp.seq ?_|refine AWp.block ?_)
   apply AWp.reg [] [.p (fun _=>.d (.bool true)) none]
   ·conv=>lhs;simp[Q9]
   ·exact hHas
   refine AWp.cn ?_;refine AWp.skip ?_;exact hW _ (Le.sub (by simp) (by simp[Q9]))
  ·refine AWp.rg [] [] ?_ (hr:=by conv=>lhs;simp[Q9]);refine AWp.rg [] [] ?_ (hr:=by conv=>lhs;simp[Q9]);refine AWp.cn ?_;refine AWp.rg [] [] ?_ (hr:=by conv=>lhs;simp[Q9]);refine AWp.cy ?_;have c1:¬n< -2147483648:=by simp[Xw]at hh;omega
   have c2:¬2147483647<n:=by simp[Xw]at hh;omega
   refine AWp.rg [] [] ?_ (hr:=by conv=>lhs;simp[Q9,c1,c2]);refine AWp.cn ?_;refine AWp.skip ?_;exact hW _ (Le.sub (by simp) (by simp[Q9]))
  ·refine AWp.rg [] [] ?_ (hr:=by conv=>lhs;simp[Q9]);refine AWp.rg [] [] ?_ (hr:=by conv=>lhs;simp[Q9]);refine AWp.cn ?_;refine AWp.rg [] [] ?_ (hr:=by conv=>lhs;simp[Q9]);refine AWp.cn ?_;refine AWp.rg [] [] ?_ (hr:=by conv=>lhs;simp[Q9]);refine AWp.cy ?_;have c1:¬n<0:=by simp[Xw]at hh;omega
   have c2:¬9<n:=by simp[Xw]at hh;omega
   refine AWp.rg [] [] ?_ (hr:=by conv=>lhs;simp[Q9,c1,c2]);refine AWp.cn ?_;refine AWp.skip ?_;exact hW _ (Le.sub (by simp) (by simp[Q9]))
  ·refine AWp.rg [] [] ?_ (hr:=by conv=>lhs;simp[Q9]);refine AWp.rg [] [] ?_ (hr:=by conv=>lhs;simp[Q9]);refine AWp.cn ?_;refine AWp.rg [] [] ?_ (hr:=by conv=>lhs;simp[Q9]);refine AWp.cn ?_;refine AWp.rg [] [] ?_ (hr:=by conv=>lhs;simp[Q9]);refine AWp.cn ?_;refine AWp.rg [] [] ?_ (hr:=by conv=>lhs;simp[Q9]);refine AWp.cn ?_;refine AWp.rg [] [] ?_ (hr:=by conv=>lhs;simp[Q9]);refine AWp.cn ?_;refine AWp.rg [] [] ?_ (hr:=by conv=>lhs;simp[Q9]);refine AWp.cy ?_;obtain⟨w,hw,hwa⟩:∃w,f.get a=some w∧w=na:=by
    simp only[Xw]at hh;cases hf:f.get a with
    |none=>simp[hf]at hh
    |some w=>exact⟨w,rfl,by simp[hf]at hh;exact hh⟩
   have c1:(w:Int)=A:=by omega
   refine AWp.rg [] [] ?_ (hr:=by conv=>lhs;simp[Q9,Y6,hw]);refine AWp.rg [] [] ?_;refine AWp.cn ?_;refine AWp.skip ?_;refine AWp.rg [] [] ?_ (hr:=by conv=>lhs;simp[Q9,hA,c1]);refine AWp.cn ?_;refine AWp.skip ?_;exact hW _ (Le.sub (by simp) (by simp[Q9]))
  ·refine AWp.rg [] [] ?_ (hr:=by conv=>lhs;simp[Q9]);refine AWp.rg [] [] ?_ (hr:=by conv=>lhs;simp[Q9]);refine AWp.cn ?_;refine AWp.rg [] [] ?_ (hr:=by conv=>lhs;simp[Q9]);refine AWp.cn ?_;refine AWp.rg [] [] ?_ (hr:=by conv=>lhs;simp[Q9]);refine AWp.cn ?_;refine AWp.rg [] [] ?_ (hr:=by conv=>lhs;simp[Q9]);refine AWp.cy ?_;have c1:¬n<1:=by simp[Xw]at hh;omega
   have c2:¬5<n:=by simp[Xw]at hh;omega
   refine AWp.rg [] [] ?_ (hr:=by conv=>lhs;simp[Q9,c1,c2]);refine AWp.cn ?_;refine AWp.skip ?_;exact hW _ (Le.sub (by simp) (by simp[Q9]))
  ·refine AWp.rg [] [] ?_ (hr:=by conv=>lhs;simp[Q9]);refine AWp.rg [] [] ?_ (hr:=by conv=>lhs;simp[Q9]);refine AWp.cn ?_;refine AWp.rg [] [] ?_ (hr:=by conv=>lhs;simp[Q9]);refine AWp.cn ?_;refine AWp.rg [] [] ?_ (hr:=by conv=>lhs;simp[Q9]);refine AWp.cn ?_;refine AWp.rg [] [] ?_ (hr:=by conv=>lhs;simp[Q9]);refine AWp.cn ?_;refine AWp.rg [] [] ?_ (hr:=by conv=>lhs;simp[Q9]);refine AWp.cy ?_;have hv:Rw a=true:=by simp[Xw]at hh;exact hh
   rw[hv]at hNm;repeat (first|refine AWp.seq ?_|refine AWp.block ?_)
   apply AWp.reg [] [.p (fun _=>.d (.bool true)) none]
   ·conv=>lhs;simp[Q9]
   ·exact hNm
   refine AWp.cn ?_;refine AWp.skip ?_;exact hW _ (Le.sub (by simp) (by simp[Q9]))
  ·refine AWp.rg [] [] ?_ (hr:=by conv=>lhs;simp[Q9]);refine AWp.rg [] [] ?_ (hr:=by conv=>lhs;simp[Q9]);refine AWp.cn ?_;refine AWp.rg [] [] ?_ (hr:=by conv=>lhs;simp[Q9]);refine AWp.cn ?_;refine AWp.rg [] [] ?_ (hr:=by conv=>lhs;simp[Q9]);refine AWp.cn ?_;refine AWp.rg [] [] ?_ (hr:=by conv=>lhs;simp[Q9]);refine AWp.cn ?_;refine AWp.rg [] [] ?_ (hr:=by conv=>lhs;simp[Q9]);refine AWp.cn ?_;refine AWp.rg [] [] ?_ (hr:=by conv=>lhs;simp[Q9]);refine AWp.cn ?_;refine AWp.skip ?_;exact hW _ (Le.sub (by simp) (by simp[Q9]))
 repeat (first|refine AWp.seq ?_|refine AWp.block ?_)
 apply AWp.reg [] []
 ·conv=>lhs;simp[Q9]
 ·trivial
 repeat (first|refine AWp.seq ?_|refine AWp.block ?_)
 refine AWp.loop (σ:=fun u:{i:Nat // i≤xs.length∧Tm.X9 f k a names deep 0 xs=Tm.X9 f k a names deep i (xs.drop i)}=>⟨235,[(0,.mp 1000),(2,Z7 names),(3,.d (.int deep)),(5,.ptr 5 0),(131,.d (.sl (xs.map Tm.row))),(132,.d (.int xs.length)),(133,.d (.int u.1))],[(5,Q9 k n a b vs xs cs),(1000,some (H7 f))]⟩)
  (μ:=fun u=>xs.length-u.1) ⟨0,Nat.zero_le _,rfl⟩ (Le.sub (by simp) (by simp[Q9])) (fun⟨i,hi,hw⟩=>?_)
 dsimp only;repeat (first|refine AWp.seq ?_|refine AWp.block ?_)
 apply AWp.reg [] []
 ·conv=>lhs;simp
 ·trivial
 repeat (first|refine AWp.seq ?_|refine AWp.block ?_)
 refine AWp.cond rfl (fun h=>?_) (fun h=>?_)
 ·have hi1:i<xs.length:=by have:=of_decide_eq_true h;omega
  have h1:xs[i]? =some xs[i]:=List.getElem?_eq_getElem hi1;have hmem:xs[i]∈xs:=List.getElem_mem hi1;have hdr:xs.drop i=xs[i]::xs.drop (i+1):=List.drop_eq_getElem_cons hi1;generalize xs[i]=x at h1 hmem hdr;obtain⟨ins,hins⟩:∃ins,ins=if k=6∧i=1 then names++[a]else names:=⟨_,rfl⟩
  have hil:(ins.length:Int)≤1048576+8 * (deep+1):=by rw[hins];split<;> (try rw[List.length_append,List.length_singleton])<;> omega
  have hp:=ih x ins (deep+1) (by have:=Tm.sz_arg (k:=k) (n:=n) (a:=a) (b:=b) (vs:=vs) (cs:=cs) hmem;omega) (hO.arg hmem) (by omega) (by omega) hil;rw[hdr]at hw;simp only[Tm.X9,←hins]at hw;generalize x.wrong f ins (deep+1)=e at hp hw;obtain⟨xk,xn,xa,xb,xv,xx,xc⟩:=x;refine AWp.skip ?_;refine AWp.rg [] [] ?_ (hr:=by conv=>lhs;simp[h1,Tm.row,Tm.Q3,Cs.Q3,Q9]);repeat (first|refine AWp.seq ?_|refine AWp.block ?_)
  apply AWp.reg [] []
  ·conv=>lhs;simp
  ·trivial
  refine AWp.seqJ ⟨235,[(0,.mp 1000),(2,Z7 names),(3,.d (.int deep)),(5,.ptr 5 0),(131,.d (.sl (xs.map Tm.row))),(132,.d (.int xs.length)),(133,.d (.int i)),(13,.ptr 13 0),(14,Z7 ins)],[(5,Q9 k n a b vs xs cs),(13,Q9 xk xn xa xb xv xx xc),(1000,some (H7 f))]⟩ ?_ (fun W hW=>?_);rotate_left
  ·by_cases k6:k=6
   ·subst k6;by_cases i1:i=1
    ·subst i1;rw[if_pos ⟨rfl,rfl⟩]at hins;subst hins;repeat (first|refine AWp.seq ?_|refine AWp.block ?_)
     apply AWp.reg [] []
     ·conv=>lhs;simp
     ·trivial
     refine AWp.cy ?_;repeat (first|refine AWp.seq ?_|refine AWp.block ?_)
     apply AWp.draw [6] [] mixed
     ·conv=>lhs;simp
     ·kernel_rfl
     ·exact⟨by simp[maxLen];omega,by simp[maxLen];omega⟩
     exact hW _ (Le.sub (by simp[Q9];rw[List.take_of_length_le (by simp)]) (by simp[Q9]))
    ·have i1':¬(i:Int)=1:=by omega
     rw[if_neg (by omega)]at hins;subst hins;repeat (first|refine AWp.seq ?_|refine AWp.block ?_)
     apply AWp.reg [] []
     ·conv=>lhs;simp[i1,i1']
     ·trivial
     refine AWp.cn ?_;refine AWp.skip ?_;exact hW _ (Le.sub (by simp[Q9]) (by simp[Q9]))
   ·rw[if_neg (by omega)]at hins;subst hins;repeat (first|refine AWp.seq ?_|refine AWp.block ?_)
    apply AWp.reg [] []
    ·conv=>lhs;simp[k6]
    ·trivial
    refine AWp.cn ?_;refine AWp.skip ?_;exact hW _ (Le.sub (by simp[Q9]) (by simp[Q9]))
  repeat (first|refine AWp.seq ?_|refine AWp.block ?_)
  apply AWp.reg [] [.c [] [.mp 1000,Xj (.mk xk xn xa xb xv xx xc),Z7 ins,.d (.int (deep+1))] [(1000,H7 f)] (.d (.int e)) [(1000,H7 f)]]
  ·conv=>lhs;simp[Q9]
  ·exact⟨by simp[inI];omega,hp⟩
  by_cases he:e=0
  ·subst he;simp only[ne_eq,not_true_eq_false,if_false]at hw;repeat (first|refine AWp.seq ?_|refine AWp.block ?_)
   apply AWp.reg [] []
   ·conv=>lhs;simp
   ·trivial
   refine AWp.cn ?_;refine AWp.skip ?_;refine AWp.rg [] [] ?_;refine⟨⟨i+1,hi1,hw⟩,by simp;omega,Le.sub (by simp[Q9]) (by simp[Q9])⟩
  ·rw[if_pos he]at hw;repeat (first|refine AWp.seq ?_|refine AWp.block ?_)
   apply AWp.reg [] []
   ·conv=>lhs;simp[he]
   ·trivial
   refine AWp.cy ?_;repeat (first|refine AWp.seq ?_|refine AWp.block ?_)
   apply AWp.reg [] []
   ·conv=>lhs;simp
   ·trivial
   refine AWp.ret ?_;try dsimp only[Qq,Q8]
   apply Zw.ret
   ·rfl
   ·conv=>lhs;simp[Qz,Tryd.results17]
   ·simp only[Tm.wrong,if_neg hdeep,if_neg hkk,hN0,hC0,if_neg hm,hh,hw,if_pos he,ne_eq,not_true_eq_false,if_false];rfl
   ·simp[Zx,Q5,Q9]
 have hi1:i=xs.length:=by have:=of_decide_eq_false h;omega
 subst hi1;rw[List.drop_length]at hw;simp only[Tm.X9]at hw;clear h;refine AWp.exit ?_;by_cases k7:k=7;rotate_left
 ·repeat (first|refine AWp.seq ?_|refine AWp.block ?_)
  apply AWp.reg [] []
  ·conv=>lhs;simp[k7,Q9]
  ·trivial
  refine AWp.cy ?_;repeat (first|refine AWp.seq ?_|refine AWp.block ?_)
  apply AWp.reg [] []
  ·conv=>lhs;simp
  ·trivial
  refine AWp.ret ?_;try dsimp only[Qq,Q8]
  apply Zw.ret
  ·rfl
  ·conv=>lhs;simp[Qz,Tryd.results17]
  ·simp only[Tm.wrong,if_neg hdeep,if_neg hkk,hN0,hC0,if_neg hm,hh,hw,if_pos k7,ne_eq,not_true_eq_false,if_false];rfl
  ·simp[Zx,Q5,Q9]
 subst k7;repeat (first|refine AWp.seq ?_|refine AWp.block ?_)
 apply AWp.reg [] []
 ·conv=>lhs;simp[Q9]
 ·trivial
 refine AWp.cn ?_;refine AWp.skip ?_;by_cases c0:C=0
 ·repeat (first|refine AWp.seq ?_|refine AWp.block ?_)
  apply AWp.reg [] []
  ·conv=>lhs;simp[Q9,hC,c0]
  ·trivial
  refine AWp.cy ?_;repeat (first|refine AWp.seq ?_|refine AWp.block ?_)
  apply AWp.reg [] []
  ·conv=>lhs;simp
  ·trivial
  refine AWp.ret ?_;try dsimp only[Qq,Q8]
  apply Zw.ret
  ·rfl
  ·conv=>lhs;simp[Qz,Tryd.results17]
  ·simp only[Tm.wrong,if_neg hdeep,if_neg hkk,hN0,hC0,if_neg hm,hh,hw,if_pos (show nc=0∨5<nc by omega),ne_eq,not_true_eq_false,if_false];rfl
  ·simp[Zx,Q5,Q9]
 by_cases c5:5<C
 ·repeat (first|refine AWp.seq ?_|refine AWp.block ?_)
  apply AWp.reg [] []
  ·conv=>lhs;simp[Q9,hC,c0,c5]
  ·trivial
  refine AWp.cy ?_;repeat (first|refine AWp.seq ?_|refine AWp.block ?_)
  apply AWp.reg [] []
  ·conv=>lhs;simp
  ·trivial
  refine AWp.ret ?_;try dsimp only[Qq,Q8]
  apply Zw.ret
  ·rfl
  ·conv=>lhs;simp[Qz,Tryd.results17]
  ·simp only[Tm.wrong,if_neg hdeep,if_neg hkk,hN0,hC0,if_neg hm,hh,hw,if_pos (show nc=0∨5<nc by omega),ne_eq,not_true_eq_false,if_false];rfl
  ·simp[Zx,Q5,Q9]
 repeat (first|refine AWp.seq ?_|refine AWp.block ?_)
 apply AWp.reg [] []
 ·conv=>lhs;simp[Q9,hC,c0,c5]
 ·trivial
 refine AWp.cn ?_;refine AWp.skip ?_;have hfin:Cs.X9 f names deep [] cs=Tm.wrong f (.mk 7 n a b vs xs cs) names deep:=by
  simp only[Tm.wrong,if_neg hdeep,if_neg hkk,hN0,hC0,if_neg hm,hh,hw,if_neg (show¬(nc=0∨5<nc)by omega),ne_eq,not_true_eq_false,if_false]
 repeat (first|refine AWp.seq ?_|refine AWp.block ?_)
 apply AWp.reg [] []
 ·conv=>lhs;simp[Q9]
 ·trivial
 repeat (first|refine AWp.seq ?_|refine AWp.block ?_)
 refine AWp.loop (σ:=fun u:{i:Nat // i≤cs.length∧Cs.X9 f names deep [] cs=Cs.X9 f names deep ((cs.take i).map Cs.tag).reverse (cs.drop i)}=>⟨235,[(0,.mp 1000),(2,Z7 names),(3,.d (.int deep)),(5,.ptr 5 0),(177,.d (.sl (cs.map Cs.row))),(178,.d (.int cs.length)),(179,.d (.int u.1))],[(5,Q9 7 n a b vs xs cs),(1000,some (H7 f))]⟩)
  (μ:=fun u=>cs.length-u.1) ⟨0,Nat.zero_le _,rfl⟩ (Le.sub (by simp) (by simp[Q9])) (fun⟨i,hi,hw2⟩=>?_)
 dsimp only;repeat (first|refine AWp.seq ?_|refine AWp.block ?_)
 apply AWp.reg [] []
 ·conv=>lhs;simp
 ·trivial
 repeat (first|refine AWp.seq ?_|refine AWp.block ?_)
 refine AWp.cond rfl (fun h=>?_) (fun h=>?_);rotate_left
 ·have hi1:i=cs.length:=by have:=of_decide_eq_false h;omega
  subst hi1;rw[List.drop_length]at hw2;simp only[Cs.X9]at hw2;refine AWp.exit ?_;repeat (first|refine AWp.seq ?_|refine AWp.block ?_)
  apply AWp.reg [] []
  ·conv=>lhs;simp
  ·trivial
  refine AWp.ret ?_;try dsimp only[Qq,Q8]
  apply Zw.ret
  ·rfl
  ·conv=>lhs;simp[Qz,Tryd.results17]
  ·rw[←hfin,hw2];rfl
  ·simp[Zx,Q5,Q9]
 have hi1:i<cs.length:=by have:=of_decide_eq_true h;omega
 have h1:cs[i]? =some cs[i]:=List.getElem?_eq_getElem hi1;have hmem:cs[i]∈cs:=List.getElem_mem hi1;have hdr:cs.drop i=cs[i]::cs.drop (i+1):=List.drop_eq_getElem_cons hi1;generalize cs[i]=c at h1 hmem hdr;obtain⟨g,ws,x⟩:=c;have hsn:((cs.take (i+1)).map Cs.tag).reverse=g::((cs.take i).map Cs.tag).reverse:=by rw[List.take_add_one,h1];simp[Cs.tag]
 obtain⟨oc1,oc2⟩:=(hO.case hmem).body;have hws:=(hO.case hmem).sizes;rw[hdr]at hw2;simp only[Cs.X9]at hw2;rw[show(Cs.mk g ws x).tag=g from rfl,←hsn]at hw2;obtain⟨E,hE⟩:∃E,E=Cs.wrongC f names deep ((cs.take i).map Cs.tag).reverse (.mk g ws x):=⟨_,rfl⟩
 rw[←hE]at hw2;have hw3:=hw2;rw[hfin]at hw3;simp only[Cs.wrongC]at hE;have hal:((names++ws).length:Int)=names.length+ws.length:=by simp
 have hx:=fun q:((names++ws).length:Int)≤1048576+8 * (deep+1)=>ih x (names++ws) (deep+1) (by have:=Tm.I8 (k:=7) (n:=n) (a:=a) (b:=b) (vs:=vs) (xs:=xs) hmem;omega) oc1 (by omega) (by omega) q
 generalize x.wrong f (names++ws) (deep+1)=e at hx hE;have htw:=sp_twice ws (by omega);have hbd:=sp_bad ws (by omega) (fun s hs=>by have:=hws s hs;omega);refine AWp.skip ?_;obtain⟨xk,xn,xa,xb,xv,xx,xc⟩:=x;refine AWp.rg [] [] ?_ (hr:=by conv=>lhs;simp[h1,Cs.row,Tm.row,Tm.Q3,Cs.Q3,Q9]);by_cases g0:g<0
 ·rw[if_pos (show g<0∨9<g by omega)]at hE;repeat (first|refine AWp.seq ?_|refine AWp.block ?_)
  apply AWp.reg [] []
  ·conv=>lhs;simp[g0]
  ·trivial
  refine AWp.cy ?_;repeat (first|refine AWp.seq ?_|refine AWp.block ?_)
  apply AWp.reg [] []
  ·conv=>lhs;simp
  ·trivial
  refine AWp.ret ?_;try dsimp only[Qq,Q8]
  apply Zw.ret
  ·rfl
  ·conv=>lhs;simp[Qz,Tryd.results17]
  ·rw[hw3,hE];rfl
  ·simp[Zx,Q5,Q9]
 by_cases g9:9<g
 ·rw[if_pos (show g<0∨9<g by omega)]at hE;repeat (first|refine AWp.seq ?_|refine AWp.block ?_)
  apply AWp.reg [] []
  ·conv=>lhs;simp[g0,g9]
  ·trivial
  refine AWp.cy ?_;repeat (first|refine AWp.seq ?_|refine AWp.block ?_)
  apply AWp.reg [] []
  ·conv=>lhs;simp
  ·trivial
  refine AWp.ret ?_;try dsimp only[Qq,Q8]
  apply Zw.ret
  ·rfl
  ·conv=>lhs;simp[Qz,Tryd.results17]
  ·rw[hw3,hE];rfl
  ·simp[Zx,Q5,Q9]
 rw[if_neg (show¬(g<0∨9<g)by omega)]at hE;repeat (first|refine AWp.seq ?_|refine AWp.block ?_)
 apply AWp.reg [] []
 ·conv=>lhs;simp[g0,g9]
 ·trivial
 refine AWp.cn ?_;refine AWp.skip ?_;repeat (first|refine AWp.seq ?_|refine AWp.block ?_)
 apply AWp.reg [] []
 ·conv=>lhs;simp[Q9]
 ·exact⟨hi,fun i a _=>Cs.row_len a⟩
 repeat (first|refine AWp.seq ?_|refine AWp.block ?_)
 refine AWp.loop (σ:=fun u:{j:Nat // j≤i∧∀d∈cs.take j,d.tag≠g}=>⟨235,[(0,.mp 1000),(2,Z7 names),(3,.d (.int deep)),(5,.ptr 5 0),(177,.d (.sl (cs.map Cs.row))),(178,.d (.int cs.length)),(179,.d (.int i)),(17,.ptr 17 0),(195,.d (.sl (List.take i (cs.map Cs.row)))),(196,.d (.int i)),(197,.d (.int u.1))],[(5,Q9 7 n a b vs xs cs),(17,csObj g ws xk xn xa xb xv xx xc),(1000,some (H7 f))]⟩)
  (μ:=fun u=>i-u.1) ⟨0,Nat.zero_le _,by simp⟩ (Le.sub (by simp[Nat.min_eq_left hi]) (by simp[Q9,csObj])) (fun⟨j,hj,hj2⟩=>?_)
 dsimp only;repeat (first|refine AWp.seq ?_|refine AWp.block ?_)
 apply AWp.reg [] []
 ·conv=>lhs;simp
 ·trivial
 repeat (first|refine AWp.seq ?_|refine AWp.block ?_)
 refine AWp.cond rfl (fun h3=>?_) (fun h3=>?_)
 ·have hj1:j<i:=by have:=of_decide_eq_true h3;omega
  have hjl:j<cs.length:=by omega
  have k1:cs[j]? =some cs[j]:=List.getElem?_eq_getElem hjl;have k2:cs[j]∈cs.take i:=List.mem_take_iff_getElem.2 ⟨j,by omega,rfl⟩;generalize cs[j]=d at k1 k2;obtain⟨g',ws',y⟩:=d;obtain⟨yk,yn,ya,yb,yv,yx,yc⟩:=y;refine AWp.skip ?_;refine AWp.rg [] [] ?_ (hr:=by conv=>lhs;simp[hj1,k1,Cs.row,Tm.row,Tm.Q3,Cs.Q3,Q9]);by_cases hg:g'=g
  ·subst hg;repeat (first|refine AWp.seq ?_|refine AWp.block ?_)
   apply AWp.reg [] []
   ·conv=>lhs;simp[csObj]
   ·trivial
   refine AWp.cy ?_;repeat (first|refine AWp.seq ?_|refine AWp.block ?_)
   apply AWp.reg [] []
   ·conv=>lhs;simp
   ·trivial
   refine AWp.ret ?_;try dsimp only[Qq,Q8]
   apply Zw.ret
   ·rfl
   ·conv=>lhs;simp[Qz,Tryd.results17]
   ·rw[if_pos (by
     have:(((cs.take i).map Cs.tag).reverse).contains g'=true:=by
      rw[List.contains_iff_mem,List.mem_reverse];exact List.mem_map.2 ⟨_,k2,rfl⟩
     rw[this];rfl)]at hE
    rw[hw3,hE];rfl
   ·simp[Zx,Q5,Q9]
  ·repeat (first|refine AWp.seq ?_|refine AWp.block ?_)
   apply AWp.reg [] []
   ·conv=>lhs;simp[hg,csObj]
   ·trivial
   refine AWp.cn ?_;refine AWp.skip ?_;refine AWp.rg [] [] ?_;refine⟨⟨j+1,by omega,?_⟩,by simp;omega,Le.sub (by simp[Q9]) (by simp[Q9,csObj])⟩;intro d hd;rw[List.take_add_one,k1]at hd;rcases List.mem_append.1 hd with hd|hd
   ·exact hj2 d hd
   ·simp at hd;subst hd;exact hg
 have hj1:j=i:=by have:=of_decide_eq_false h3;omega
 subst hj1;have hct:(((cs.take j).map Cs.tag).reverse).contains g=false:=by
  rw[←Bool.not_eq_true,List.contains_iff_mem,List.mem_reverse];intro hmm;obtain⟨d,hd,he⟩:=List.mem_map.1 hmm;exact hj2 d hd he
 rw[hct]at hE;simp only[Bool.false_or]at hE;clear h3;refine AWp.exit ?_;cases ht:twB ws with
 |true=>
  rw[ht]at htw hE;repeat (first|refine AWp.seq ?_|refine AWp.block ?_)
  apply AWp.reg [] [.p (fun _=>.d (.bool true)) none]
  ·conv=>lhs;simp[csObj]
  ·exact htw
  refine AWp.cy ?_;repeat (first|refine AWp.seq ?_|refine AWp.block ?_)
  apply AWp.reg [] []
  ·conv=>lhs;simp
  ·trivial
  refine AWp.ret ?_;try dsimp only[Qq,Q8]
  apply Zw.ret
  ·rfl
  ·conv=>lhs;simp[Qz,Tryd.results17]
  ·rw[hw3,hE];rfl
  ·simp[Zx,Q5,Q9]
 |false=>
 rw[ht]at htw hE;cases hbb:badB ws with
 |true=>
  rw[hbb]at hbd hE;repeat (first|refine AWp.seq ?_|refine AWp.block ?_)
  apply AWp.reg [] [.p (fun _=>.d (.bool false)) none,.p (fun _=>.d (.bool true)) none]
  ·conv=>lhs;simp[csObj]
  ·exact⟨htw,hbd⟩
  refine AWp.cy ?_;repeat (first|refine AWp.seq ?_|refine AWp.block ?_)
  apply AWp.reg [] []
  ·conv=>lhs;simp
  ·trivial
  refine AWp.ret ?_;try dsimp only[Qq,Q8]
  apply Zw.ret
  ·rfl
  ·conv=>lhs;simp[Qz,Tryd.results17]
  ·rw[hw3,hE];rfl
  ·simp[Zx,Q5,Q9]
 |false=>
 rw[hbb]at hbd hE;simp only[Bool.or_self,Bool.false_eq_true,if_false]at hE;repeat (first|refine AWp.seq ?_|refine AWp.block ?_)
 apply AWp.reg [] [.p (fun _=>.d (.bool false)) none,.p (fun _=>.d (.bool false)) none]
 ·conv=>lhs;simp[csObj]
 ·exact⟨htw,hbd⟩
 refine AWp.cn ?_;refine AWp.skip ?_;by_cases hl6:6<ws.length
 ·rw[if_pos hl6]at hE;have hl6':(6:Int)<ws.length:=by omega
  repeat (first|refine AWp.seq ?_|refine AWp.block ?_)
  apply AWp.reg [] []
  ·conv=>lhs;simp[csObj,hl6,hl6']
  ·trivial
  refine AWp.cy ?_;repeat (first|refine AWp.seq ?_|refine AWp.block ?_)
  apply AWp.reg [] []
  ·conv=>lhs;simp
  ·trivial
  refine AWp.ret ?_;try dsimp only[Qq,Q8]
  apply Zw.ret
  ·rfl
  ·conv=>lhs;simp[Qz,Tryd.results17]
  ·rw[hw3,hE];rfl
  ·simp[Zx,Q5,Q9]
 rw[if_neg hl6]at hE;subst hE;have hl6':¬(6:Int)<ws.length:=by omega
 repeat (first|refine AWp.seq ?_|refine AWp.block ?_)
 apply AWp.reg [] []
 ·conv=>lhs;simp[csObj,hl6,hl6']
 ·trivial
 refine AWp.cn ?_;refine AWp.skip ?_;have hx:=hx (by omega);obtain⟨nw,hnw⟩:∃nw,nw=names++ws:=⟨_,rfl⟩
 have hnw2:List.take (names.length+ws.length) (List.map Y0 names++List.map Y0 ws)=List.map Y0 nw:=by rw[hnw,List.map_append,List.take_of_length_le (by simp)]
 rw[←hnw]at hx;apply AWp.keep [0,2,3,5,177,178,179,17] [5,17,1000]
 ·conv=>lhs;simp[Nk,Z9]
 ·conv=>lhs;simp[Mv,Q5]
 repeat (first|refine AWp.seq ?_|refine AWp.block ?_)
 apply AWp.draw [8] [.c [] [.mp 1000,Xj (.mk xk xn xa xb xv xx xc),Z7 nw,.d (.int (deep+1))] [(1000,H7 f)] (.d (.int E)) [(1000,H7 f)]] mixed
 ·conv=>lhs;simp[csObj,hnw2,Xj]
 ·kernel_rfl
 ·exact⟨by simp[maxLen];omega,by simp[maxLen];omega,by simp[inI];omega,hx⟩
 by_cases he:E=0
 ·subst he;simp only[ne_eq,not_true_eq_false,if_false]at hw2;repeat (first|refine AWp.seq ?_|refine AWp.block ?_)
  apply AWp.reg [] []
  ·conv=>lhs;simp
  ·trivial
  refine AWp.cn ?_;refine AWp.skip ?_;refine AWp.rg [] [] ?_;refine⟨⟨j+1,hi1,hw2⟩,by simp;omega,Le.sub (by simp[Q9]) (by simp[Q9])⟩
 ·rw[if_pos he]at hw3;repeat (first|refine AWp.seq ?_|refine AWp.block ?_)
  apply AWp.reg [] []
  ·conv=>lhs;simp[he]
  ·trivial
  refine AWp.cy ?_;repeat (first|refine AWp.seq ?_|refine AWp.block ?_)
  apply AWp.reg [] []
  ·conv=>lhs;simp
  ·trivial
  refine AWp.ret ?_;try dsimp only[Qq,Q8]
  apply Zw.ret
  ·rfl
  ·conv=>lhs;simp[Qz,Tryd.results17]
  ·rw[hw3];rfl
  ·simp[Zx,Q5,Q9]
theorem cs_Wrong (f:J6) (t:Tm) (names:List ByteArray) (hO:t.Ok) (hn:names.length≤1048576):
  Y9 Tryd.prog 17 [.mp 1000,Xj t,Z7 names,.d (.int 0)] [(1000,H7 f)] (.d (.int (t.wrong f names 0))) [(1000,H7 f)]:=
 cs_Wrong_at f _ t names 0 (Nat.lt_succ_self _) hO (by omega) (by omega) (by omega)
theorem arD_put {f:J6} {g:ByteArray} {n:Nat} (h:f.get g=none):D.aput (.str g) [.int n] (arD f)=arD ((g,n)::f):=by
 unfold D.aput;rw[D.adel_all]
 ·rfl
 ·intro p hp;unfold arD at hp;obtain⟨t,ht,rfl⟩:=List.mem_map.1 hp;intro e;simp only[D.str.injEq]at e;subst e;unfold J6.get at h;rw[Option.map_eq_none_iff,List.find?_eq_none]at h;have:=h t ht;simp at this
theorem sp_refCheck (l:List Fn) (hl:P5 l):Qv Tryd.prog 5 [W9 l] (fun _=>.d (.int (Yv l))) none:=by
 have hll:=hl.len;obtain⟨C,hC⟩:∃C:Int,(l.length:Int)=C:=⟨_,rfl⟩
 refine Qv.of Tryd.func5 rfl rfl rfl (Nat.le_of_ble_eq_true rfl) ?_;show AWp _ _ (Z5 _ Tryd.f5 _ _ _) (Qw 81 _);refine AWp.rg [] [] ?_ (hr:=by conv=>lhs;simp[hC,Fn.row,Tm.row,Tm.Q3,Cs.Q3]);by_cases q1:C=0
 ·refine AWp.rg [] [] ?_ (hr:=by conv=>lhs;simp[hC,Fn.row,Tm.row,Tm.Q3,Cs.Q3,q1]);refine AWp.cy ?_;refine AWp.rg [] [] ?_ (hr:=by conv=>lhs;simp[hC,Fn.row,Tm.row,Tm.Q3,Cs.Q3,q1]);refine AWp.ret ?_;try dsimp only[Qq,Q8]
  apply Z5.ret
  ·rfl
  ·conv=>lhs;simp[Qz,Tryd.results5]
  ·rw[Yv,if_pos (show l.length=0∨6<l.length by omega)];rfl
 by_cases q2:6<C
 ·refine AWp.rg [] [] ?_ (hr:=by conv=>lhs;simp[hC,Fn.row,Tm.row,Tm.Q3,Cs.Q3,q1,q2]);refine AWp.cy ?_;refine AWp.rg [] [] ?_ (hr:=by conv=>lhs;simp[hC,Fn.row,Tm.row,Tm.Q3,Cs.Q3,q1,q2]);refine AWp.ret ?_;try dsimp only[Qq,Q8]
  apply Z5.ret
  ·rfl
  ·conv=>lhs;simp[Qz,Tryd.results5]
  ·rw[Yv,if_pos (show l.length=0∨6<l.length by omega)];rfl
 refine AWp.rg [] [] ?_ (hr:=by conv=>lhs;simp[hC,Fn.row,Tm.row,Tm.Q3,Cs.Q3,q1,q2]);refine AWp.cn ?_;refine AWp.skip ?_;have hlen:¬(l.length=0∨6<l.length):=by omega
 refine AWp.rg [] [] ?_ (hr:=by conv=>lhs;simp[hC,Fn.row,Tm.row,Tm.Q3,Cs.Q3,q1,q2]);refine AWp.rg [] [] ?_ (hr:=by conv=>lhs;simp[hC,Fn.row,Tm.row,Tm.Q3,Cs.Q3,q1,q2]);repeat (first|refine AWp.seq ?_|refine AWp.block ?_)
 refine AWp.loop (σ:=fun u:{i:Nat // i≤l.length∧Cw [] l=Cw (Ow (l.take i)) (l.drop i)}=>⟨81,[(0,W9 l),(3,.mp 19),(20,W9 l),(21,.d (.int l.length)),(22,.d (.int u.1))],[(19,some (H7 (Ow (l.take u.1))))]⟩)
  (μ:=fun u=>l.length-u.1) ⟨0,Nat.zero_le _,rfl⟩ (Le.sub (by simp[Ow,H7,arD,hC,nmObj]) (by simp[Ow,H7,arD,hC,nmObj])) (fun⟨i,hi,hwi⟩=>?_)
 dsimp only;repeat (first|refine AWp.seq ?_|refine AWp.block ?_)
 apply AWp.reg [] []
 ·conv=>lhs;simp
 ·trivial
 repeat (first|refine AWp.seq ?_|refine AWp.block ?_)
 refine AWp.cond rfl (fun hci=>?_) (fun hci=>?_)
 ·have hi1:i<l.length:=by have:=of_decide_eq_true hci;omega
  have h1c:l[i]? =some l[i]:=List.getElem?_eq_getElem hi1;have hmc:l[i]∈l:=List.getElem_mem hi1;have hdc:l.drop i=l[i]::l.drop (i+1):=List.drop_eq_getElem_cons hi1;generalize l[i]=c at h1c hmc hdc;obtain⟨g,ps,bd⟩:=c;have hsn:Ow (l.take (i+1))=(g,ps.length)::Ow (l.take i):=by rw[List.take_add_one,h1c];exact arOf_snoc _ _
  obtain⟨o1,o2,o3,o4⟩:=hl.all _ hmc;dsimp only at o1 o2 o3 o4;rw[hdc]at hwi;simp only[Cw]at hwi;rw[←hsn]at hwi;obtain⟨f,hf⟩:∃f,f=Ow (l.take i):=⟨_,rfl⟩
  rw[←hf]at hwi hsn⊢;obtain⟨E,hE⟩:∃E,E=Fn.Xw f ⟨g,ps,bd⟩:=⟨_,rfl⟩
  rw[←hE]at hwi;simp only[Fn.Xw]at hE;have hNm:=sp_Name g (by omega);have hTw:=sp_twice ps (by omega);have hBd:=sp_bad ps (by omega) (fun s hs=>by have:=o3 s hs;omega);have hSz:=sp_refSize bd o4;obtain⟨S,hS⟩:∃S,S=wr bd.sz:=⟨_,rfl⟩
  rw[←hS]at hSz hE;obtain⟨B,hB⟩:∃B:Int,(ps.length:Int)=B:=⟨_,rfl⟩
  obtain⟨xk,xn,xa,xb,xv,xx,xc⟩:=bd;refine AWp.skip ?_;refine AWp.rg [] [] ?_ (hr:=by conv=>lhs;simp[hC,Fn.row,Tm.row,Tm.Q3,Cs.Q3,h1c,hB,q1,q2]);cases hg:f.get g with
  |some m=>
   refine AWp.rg [] [] ?_ (hr:=by conv=>lhs;simp[hC,Fn.row,Tm.row,Tm.Q3,Cs.Q3,h1c,hB,Y6,hg,q1,q2]);refine AWp.rg [] [] ?_ (hr:=by conv=>lhs;simp[hC,Fn.row,Tm.row,Tm.Q3,Cs.Q3,h1c,hB,Y6,hg,q1,q2]);refine AWp.cy ?_;refine AWp.rg [] [] ?_ (hr:=by conv=>lhs;simp[hC,Fn.row,Tm.row,Tm.Q3,Cs.Q3,h1c,hB,Y6,hg,q1,q2]);refine AWp.ret ?_;rw[if_pos (by simp[hg])]at hE;rw[if_pos (by omega)]at hwi;try dsimp only[Qq,Q8]
   apply Z5.ret
   ·rfl
   ·conv=>lhs;simp[Qz,Tryd.results5]
   ·rw[Yv,if_neg hlen,hwi,if_pos (by omega),hE];rfl
  |none=>
   refine AWp.rg [] [] ?_ (hr:=by conv=>lhs;simp[hC,Fn.row,Tm.row,Tm.Q3,Cs.Q3,h1c,hB,Y6,hg,q1,q2]);cases q3:Rw g with
   |true=>
    rw[q3]at hNm;cases q4:twB ps with
    |true=>
     rw[q4]at hTw;refine AWp.rg [] [.p (fun _=>.d (.bool true)) none,.p (fun _=>.d (.bool true)) none] ?_ (hr:=by conv=>lhs;simp[hC,Fn.row,Tm.row,Tm.Q3,Cs.Q3,h1c,hB,Y6,hg,q3,q4,q1,q2]);refine AWp.cy ?_;refine AWp.rg [] [] ?_ (hr:=by conv=>lhs;simp[hC,Fn.row,Tm.row,Tm.Q3,Cs.Q3,h1c,hB,Y6,hg,q3,q4,q1,q2]);refine AWp.ret ?_;rw[if_pos (by simp[hg,q3,q4])]at hE;rw[if_pos (by omega)]at hwi;try dsimp only[Qq,Q8]
     apply Z5.ret
     ·rfl
     ·conv=>lhs;simp[Qz,Tryd.results5]
     ·rw[Yv,if_neg hlen,hwi,if_pos (by omega),hE];rfl
    |false=>
     rw[q4]at hTw;cases q5:badB ps with
     |true=>
      rw[q5]at hBd;refine AWp.rg [] [.p (fun _=>.d (.bool true)) none,.p (fun _=>.d (.bool false)) none,.p (fun _=>.d (.bool true)) none] ?_ (hr:=by conv=>lhs;simp[hC,Fn.row,Tm.row,Tm.Q3,Cs.Q3,h1c,hB,Y6,hg,q3,q4,q5,q1,q2]);refine AWp.cy ?_;refine AWp.rg [] [] ?_ (hr:=by conv=>lhs;simp[hC,Fn.row,Tm.row,Tm.Q3,Cs.Q3,h1c,hB,Y6,hg,q3,q4,q5,q1,q2]);refine AWp.ret ?_;rw[if_pos (by simp[hg,q3,q4,q5])]at hE;rw[if_pos (by omega)]at hwi;try dsimp only[Qq,Q8]
      apply Z5.ret
      ·rfl
      ·conv=>lhs;simp[Qz,Tryd.results5]
      ·rw[Yv,if_neg hlen,hwi,if_pos (by omega),hE];rfl
     |false=>
      rw[q5]at hBd;refine AWp.rg [] [.p (fun _=>.d (.bool true)) none,.p (fun _=>.d (.bool false)) none,.p (fun _=>.d (.bool false)) none] ?_ (hr:=by conv=>lhs;simp[hC,Fn.row,Tm.row,Tm.Q3,Cs.Q3,h1c,hB,Y6,hg,q3,q4,q5,q1,q2]);refine AWp.cn ?_;refine AWp.skip ?_;by_cases q6:6<B
      ·refine AWp.rg [] [] ?_ (hr:=by conv=>lhs;simp[hC,Fn.row,Tm.row,Tm.Q3,Cs.Q3,h1c,hB,Y6,hg,q3,q4,q5,q1,q2,q6]);refine AWp.cy ?_;refine AWp.rg [] [] ?_ (hr:=by conv=>lhs;simp[hC,Fn.row,Tm.row,Tm.Q3,Cs.Q3,h1c,hB,Y6,hg,q3,q4,q5,q1,q2,q6]);refine AWp.ret ?_;rw[if_neg (by simp[hg,q3,q4,q5]),if_pos (show 6<ps.length by omega)]at hE;rw[if_pos (by omega)]at hwi;try dsimp only[Qq,Q8]
       apply Z5.ret
       ·rfl
       ·conv=>lhs;simp[Qz,Tryd.results5]
       ·rw[Yv,if_neg hlen,hwi,if_pos (by omega),hE];rfl
      refine AWp.rg [] [] ?_ (hr:=by conv=>lhs;simp[hC,Fn.row,Tm.row,Tm.Q3,Cs.Q3,h1c,hB,Y6,hg,q3,q4,q5,q1,q2,q6]);refine AWp.cn ?_;refine AWp.skip ?_;by_cases q7:400<S
      ·refine AWp.rg [] [.p (fun _=>.d (.int S)) none] ?_ (hr:=by conv=>lhs;simp[hC,Fn.row,Tm.row,Tm.Q3,Cs.Q3,h1c,hB,Y6,hg,q3,q4,q5,q1,q2,q6,q7]);refine AWp.cy ?_;refine AWp.rg [] [] ?_ (hr:=by conv=>lhs;simp[hC,Fn.row,Tm.row,Tm.Q3,Cs.Q3,h1c,hB,Y6,hg,q3,q4,q5,q1,q2,q6,q7]);refine AWp.ret ?_;rw[if_neg (by simp[hg,q3,q4,q5]),if_neg (show¬6<ps.length by omega),if_pos (show 400<S by omega)]at hE;rw[if_pos (by omega)]at hwi;try dsimp only[Qq,Q8]
       apply Z5.ret
       ·rfl
       ·conv=>lhs;simp[Qz,Tryd.results5]
       ·rw[Yv,if_neg hlen,hwi,if_pos (by omega),hE];rfl
      refine AWp.rg [] [.p (fun _=>.d (.int S)) none] ?_ (hr:=by conv=>lhs;simp[hC,Fn.row,Tm.row,Tm.Q3,Cs.Q3,h1c,hB,Y6,hg,q3,q4,q5,q1,q2,q6,q7]);refine AWp.cn ?_;refine AWp.skip ?_;rw[if_neg (by simp[hg,q3,q4,q5]),if_neg (show¬6<ps.length by omega),if_neg (show¬400<S by omega)]at hE;rw[if_neg (show¬(E≠0)by omega)]at hwi;have hput:D.aput (.str g) [.int B] (arD f)=arD ((g,ps.length)::f):=by rw[←hB];exact arD_put hg
      refine AWp.rg [] [] ?_ (hr:=by conv=>lhs;simp[hC,Fn.row,Tm.row,Tm.Q3,Cs.Q3,h1c,hB,Y6,hg,q3,q4,q5,hput,q1,q2,q6,q7]);refine AWp.rg [] [] ?_ (hr:=by conv=>lhs;simp[hC,Fn.row,Tm.row,Tm.Q3,Cs.Q3,h1c,hB,Y6,hg,q3,q4,q5,hput,q1,q2,q6,q7]);refine⟨⟨i+1,hi1,hwi⟩,by simp;omega,?_⟩;dsimp only;rw[hsn];exact Le.sub (by simp[hC]) (by simp[nmObj])
   |false=>
    rw[q3]at hNm;refine AWp.rg [] [.p (fun _=>.d (.bool false)) none] ?_ (hr:=by conv=>lhs;simp[hC,Fn.row,Tm.row,Tm.Q3,Cs.Q3,h1c,hB,Y6,hg,q3,q1,q2]);refine AWp.cy ?_;refine AWp.rg [] [] ?_ (hr:=by conv=>lhs;simp[hC,Fn.row,Tm.row,Tm.Q3,Cs.Q3,h1c,hB,Y6,hg,q3,q1,q2]);refine AWp.ret ?_;rw[if_pos (by simp[hg,q3])]at hE;rw[if_pos (by omega)]at hwi;try dsimp only[Qq,Q8]
    apply Z5.ret
    ·rfl
    ·conv=>lhs;simp[Qz,Tryd.results5]
    ·rw[Yv,if_neg hlen,hwi,if_pos (by omega),hE];rfl
 have hi1:i=l.length:=by have:=of_decide_eq_false hci;omega
 subst hi1;clear hci;rw[List.drop_length]at hwi;simp only[Cw]at hwi;rw[List.take_length];have hall:=heads_zero hwi;refine AWp.exit ?_;refine AWp.rg [] [] ?_ (hr:=by conv=>lhs;simp[hC,Fn.row,Tm.row,Tm.Q3,Cs.Q3,q1,q2]);repeat (first|refine AWp.seq ?_|refine AWp.block ?_)
 refine AWp.loop (σ:=fun u:{j:Nat // j≤l.length∧C9 (Ow l) l=C9 (Ow l) (l.drop j)}=>⟨81,[(0,W9 l),(3,.mp 19),(65,W9 l),(66,.d (.int l.length)),(67,.d (.int u.1))],[(19,some (H7 (Ow l)))]⟩)
  (μ:=fun u=>l.length-u.1) ⟨0,Nat.zero_le _,rfl⟩ (Le.sub (by simp[hC,nmObj]) (by simp[hC,nmObj])) (fun⟨j,hi,hwj⟩=>?_)
 dsimp only;repeat (first|refine AWp.seq ?_|refine AWp.block ?_)
 apply AWp.reg [] []
 ·conv=>lhs;simp
 ·trivial
 repeat (first|refine AWp.seq ?_|refine AWp.block ?_)
 refine AWp.cond rfl (fun hcj=>?_) (fun hcj=>?_)
 ·have hi1:j<l.length:=by have:=of_decide_eq_true hcj;omega
  have h1c:l[j]? =some l[j]:=List.getElem?_eq_getElem hi1;have hmc:l[j]∈l:=List.getElem_mem hi1;have hdc:l.drop j=l[j]::l.drop (j+1):=List.drop_eq_getElem_cons hi1;generalize l[j]=c at h1c hmc hdc;have hps:=(hall _ hmc).2.2.2.1;obtain⟨g,ps,bd⟩:=c;obtain⟨o1,o2,o3,o4⟩:=hl.all _ hmc;dsimp only at o1 o2 o3 o4 hps;rw[hdc]at hwj;simp only[C9]at hwj;have hx:=cs_Wrong (Ow l) bd ps o4 (by omega);obtain⟨E,hE⟩:∃E,E=bd.wrong (Ow l) ps 0:=⟨_,rfl⟩
  rw[←hE]at hwj hx;obtain⟨xk,xn,xa,xb,xv,xx,xc⟩:=bd;refine AWp.skip ?_;refine AWp.rg [] [] ?_ (hr:=by conv=>lhs;simp[hC,Fn.row,Tm.row,Tm.Q3,Cs.Q3,h1c,q1,q2]);refine AWp.rg [] [.c [(1000,19)] [.mp 1000,Xj (.mk xk xn xa xb xv xx xc),Z7 ps,.d (.int 0)] [(1000,H7 (Ow l))] (.d (.int E)) [(1000,H7 (Ow l))]] ?_ (hr:=by conv=>lhs;simp[hC,Fn.row,Tm.row,Tm.Q3,Cs.Q3,h1c,q1,q2]);by_cases q8:E=0
  ·refine AWp.rg [] [] ?_ (hr:=by conv=>lhs;simp[hC,Fn.row,Tm.row,Tm.Q3,Cs.Q3,h1c,q1,q2,q8]);refine AWp.cn ?_;refine AWp.skip ?_;rw[if_neg (show¬(E≠0)by omega)]at hwj;refine AWp.rg [] [] ?_ (hr:=by conv=>lhs;simp[hC,Fn.row,Tm.row,Tm.Q3,Cs.Q3,h1c,q1,q2,q8]);refine⟨⟨j+1,hi1,hwj⟩,by simp;omega,?_⟩;dsimp only;exact Le.sub (by simp[hC]) (by simp[nmObj])
  refine AWp.rg [] [] ?_ (hr:=by conv=>lhs;simp[hC,Fn.row,Tm.row,Tm.Q3,Cs.Q3,h1c,q1,q2,q8]);refine AWp.cy ?_;refine AWp.rg [] [] ?_ (hr:=by conv=>lhs;simp[hC,Fn.row,Tm.row,Tm.Q3,Cs.Q3,h1c,q1,q2,q8]);refine AWp.ret ?_;rw[if_pos (by omega)]at hwj;try dsimp only[Qq,Q8]
  apply Z5.ret
  ·rfl
  ·conv=>lhs;simp[Qz,Tryd.results5]
  ·rw[Yv,if_neg hlen,hwi,if_neg (by omega),hwj];rfl
 have hi1:j=l.length:=by have:=of_decide_eq_false hcj;omega
 subst hi1;clear hcj;rw[List.drop_length]at hwj;simp only[C9]at hwj;refine AWp.exit ?_;refine AWp.rg [] [] ?_ (hr:=by conv=>lhs;simp[hC,Fn.row,Tm.row,Tm.Q3,Cs.Q3,q1,q2]);refine AWp.ret ?_;try dsimp only[Qq,Q8]
 apply Z5.ret
 ·rfl
 ·conv=>lhs;simp[Qz,Tryd.results5]
 ·rw[Yv,if_neg hlen,hwi,if_neg (by omega),hwj];rfl
end Go.Proofs.YtlbcipohiepjmaaDoor
namespace Go.Proofs.YtlbcipohiepjmaaDoor
open Go.RowKit
theorem vNm_le (c:Int):(vNm (wr c)).size≤140737488355328:=by
 have:=vsz (wr c) (Mq c);omega
theorem nowP_le:∀(ps:Ps) (s:ByteArray),s.size≤140737488355328→(∀p∈ps,p.2.size≤140737488355328)→(nowP ps s).size≤140737488355328:=by
 intro ps s hs hp;unfold nowP;have:∀(ps:Ps) (o:ByteArray),o.size≤140737488355328→(∀p∈ps,p.2.size≤140737488355328)→(ps.foldl (fun o p=>if p.1=s then p.2 else o) o).size≤140737488355328:=by
  intro ps;induction ps with
  |nil=>intro o ho _;exact ho
  |cons p r ih=>
   intro o ho h;simp only[List.foldl_cons];refine ih _ ?_ fun q hq=>h q (List.mem_cons_of_mem _ hq)
   split
   ·exact h p (List.mem_cons_self ..)
   ·exact ho
 exact this ps s hs hp
theorem Aq:∀(l:List ByteArray) (c:Int),∀s∈Xx l c,s.size≤140737488355328
 |[],_,s,h=>by cases h
 |_::r,c,s,h=>by
  rw[Xx]at h;rcases List.mem_cons.1 h with rfl|h
  ·exact vNm_le _
  ·exact Aq r _ s h
theorem rn_ok:∀(d:Nat) (t:Tm) (ps:Ps) (c:Int),t.Rt d→t.Ok→(∀p∈ps,p.2.size≤140737488355328)→(t.rn ps c).1.Ok:=by
 intro d;induction d with
 |zero=>intro t _ _ h;exact h.elim
 |succ d ih=>
 intro t ps c hR hO hps;obtain⟨k,n,a,b,vs,xs,cs⟩:=t;obtain⟨_,_,_,hx,hc⟩:=hR;obtain⟨⟨o1,o2,o3⟩,⟨o4,o5,o6⟩,o7,o8⟩:=hO;rw[Tm.Zk]at o7;rw[Cs.Zk]at o8;have hL:∀(ys:List Tm) (i:Nat) (nm:ByteArray) (c:Int),(∀y∈ys,y∈xs)→nm.size≤140737488355328→Tm.Oks (Tm.rns k a ps i ys nm c).1∧(Tm.rns k a ps i ys nm c).2.1.size≤140737488355328∧(Tm.rns k a ps i ys nm c).1.length=ys.length:=by
  intro ys;induction ys with
  |nil=>intro i nm c _ h;exact⟨trivial,h,rfl⟩
  |cons y r ih2=>
   intro i nm c hm hn;have hy:=hm y (List.mem_cons_self ..);rw[Tm.rns];split
   ·have h1:=ih y (ps++[(a,vNm (wr (c+1)))]) (wr (c+1)) (hx y hy) (o7 y hy) (fun p hp=>(List.mem_append.1 hp).elim (hps p) fun hp=>by rw[List.mem_singleton.1 hp];exact vNm_le _);obtain⟨h2,h3,h4⟩:=ih2 (i+1) (vNm (wr (c+1))) (y.rn (ps++[(a,vNm (wr (c+1)))]) (wr (c+1))).2 (fun z hz=>hm z (List.mem_cons_of_mem _ hz)) (vNm_le _);exact⟨⟨h1,h2⟩,h3,by simp[h4]⟩
   ·have h1:=ih y ps c (hx y hy) (o7 y hy) hps;obtain⟨h2,h3,h4⟩:=ih2 (i+1) nm (y.rn ps c).2 (fun z hz=>hm z (List.mem_cons_of_mem _ hz)) hn;exact⟨⟨h1,h2⟩,h3,by simp[h4]⟩
 have hC:∀(ys:List Cs) (c:Int),(∀y∈ys,y∈cs)→Cs.Oks (Cs.rnL ys ps c).1∧(Cs.rnL ys ps c).1.length=ys.length:=by
  intro ys;induction ys with
  |nil=>intro c _;exact⟨trivial,rfl⟩
  |cons y r ih2=>
   intro c hm;have hy:=hm y (List.mem_cons_self ..);obtain⟨t,ws,y⟩:=y;obtain⟨hw,hyR⟩:=hc _ hy;obtain⟨p1,p2,p3⟩:=o8 _ hy;rw[Cs.rnL,Cs.rn];have h1:=ih y (ps++ws.zip (Xx ws c)) (V7 ws c) hyR p3 (fun p hp=>(List.mem_append.1 hp).elim (hps p) fun hp=>Aq ws c _ (List.of_mem_zip hp).2);obtain⟨h2,h4⟩:=ih2 (y.rn (ps++ws.zip (Xx ws c)) (V7 ws c)).2 fun z hz=>hm z (List.mem_cons_of_mem _ hz)
   exact⟨⟨⟨Aq ws c,by rw[Vw];exact p2,h1⟩,h2⟩,by simp[h4]⟩
 rw[Tm.rn];split
 ·exact⟨⟨nowP_le ps a o1 hps,o2,o3⟩,⟨o4,by simp,by simp⟩,trivial,trivial⟩
 ·obtain⟨h1,h2,h3⟩:=hL xs 0 a c (fun y hy=>hy) o1;obtain⟨h4,h5⟩:=hC cs (Tm.rns k a ps 0 xs a c).2.2 fun y hy=>hy
  exact⟨⟨h2,o2,o3⟩,⟨o4,by rw[h3];exact o5,by rw[h5];exact o6⟩,h1,h4⟩
theorem Fn.rn_ok (f:Fn) (hb:f.body.Ok) (hr:f.body.Rt 25):f.rn.body.Ok:=
 Go.Proofs.YtlbcipohiepjmaaDoor.rn_ok 25 f.body _ _ hr hb fun p hp=>Aq _ _ _ (List.of_mem_zip hp).2
theorem Bw {l:List Fn} (hl:P5 l) (h:Yv l=0):∀f∈l,f.body.Ok∧f.body.Rt 25∧f.params.length≤6:=fun f hf=>by
 have hr:=(check_zero h).2.2.2 f hf;exact⟨(hl.all f hf).body,wrong_rt _ 25 _ _ 0 (by omega) hr.wrong,hr.params⟩
def wNm (c:Int):ByteArray:=⟨#[119]⟩++Hz c
theorem G8:((⟨#[119]⟩:ByteArray).size≤maxLen)=True:=eq_true (by show 1≤9223372036854775807;omega)
theorem wsz (e:Int) (h:inI e):(wNm e).size≤22:=by
 have:=Uz h;show(⟨#[119]⟩++Hz e:ByteArray).size≤22;rw[ByteArray.size_append];have h1:(⟨#[119]⟩:ByteArray).size=1:=rfl;omega
theorem wNm_le (c:Int):(wNm (wr c)).size≤140737488355328:=by
 have:=wsz (wr c) (Mq c);omega
abbrev Bs:=List (ByteArray×Tm)
def Tm.tk:Tm→Int
 | .mk k _ _ _ _ _ _=>k
def varT (s:ByteArray):Tm:=.mk 1 0 s .empty [] [] []
def around:Bs→Tm→Tm
 |[],t=>t
 |b::r,t=>.mk 6 0 b.1 .empty [] [b.2,around r t] []
theorem around_append:∀(x y:Bs) (t:Tm),around (x++y) t=around x (around y t)
 |[],_,_=>rfl
 |b::r,y,t=>by simp only[List.cons_append,around,around_append r y t]
mutual
def Tm.pl:Tm→Int→Tm×Int
 | .mk k n a b vs xs cs,c=>
  if k=3∨k=4∨k=5 then (around (Tm.ats xs c).2.1 (.mk k n a .empty [] (Tm.ats xs c).1 []),(Tm.ats xs c).2.2)
  else if k=6 then (.mk 6 0 a .empty [] (Tm.plL xs c).1 [],(Tm.plL xs c).2)
  else if k=7 then (around (Tm.ats xs c).2.1 (.mk 7 0 .empty .empty [] (Tm.ats xs c).1 (Cs.plL cs (Tm.ats xs c).2.2).1),(Cs.plL cs (Tm.ats xs c).2.2).2)
  else (.mk k n a b vs xs cs,c)
def Tm.ats:List Tm→Int→List Tm×Bs×Int
 |[],c=>([],[],c)
 |x::r,c=>if x.tk=1 then (x::(Tm.ats r c).1,(Tm.ats r c).2.1,(Tm.ats r c).2.2)
  else (varT (wNm (wr (c+1)))::(Tm.ats r (x.pl (wr (c+1))).2).1,(wNm (wr (c+1)),(x.pl (wr (c+1))).1)::(Tm.ats r (x.pl (wr (c+1))).2).2.1,(Tm.ats r (x.pl (wr (c+1))).2).2.2)
def Tm.plL:List Tm→Int→List Tm×Int
 |[],c=>([],c)
 |x::r,c=>((x.pl c).1::(Tm.plL r (x.pl c).2).1,(Tm.plL r (x.pl c).2).2)
def Cs.plL:List Cs→Int→List Cs×Int
 |[],c=>([],c)
 |d::r,c=>((d.pl c).1::(Cs.plL r (d.pl c).2).1,(Cs.plL r (d.pl c).2).2)
def Cs.pl:Cs→Int→Cs×Int
 | .mk t ws y,c=>(.mk t ws (y.pl c).1,(y.pl c).2)
end
theorem ats_len:∀(l:List Tm) (c:Int),(Tm.ats l c).1.length=l.length
 |[],_=>rfl
 |x::r,c=>by
  rw[Tm.ats];split<;> simp[ats_len r]
def Fn.pl (f:Fn):Fn:=⟨f.rn.name,f.rn.params,(f.rn.body.pl 0).1⟩
theorem rn_rt:∀(d:Nat) (t:Tm) (ps:Ps) (c:Int),t.Rt d→(t.rn ps c).1.Rt d:=by
 intro d;induction d with
 |zero=>intro t _ _ h;exact h.elim
 |succ d ih=>
 intro t ps c hR;obtain⟨k,n,a,b,vs,xs,cs⟩:=t;obtain⟨h1,h2,h3,hx,hc⟩:=hR;have hL:∀(ys:List Tm) (i:Nat) (nm:ByteArray) (c:Int),(∀y∈ys,y∈xs)→(∀y∈(Tm.rns k a ps i ys nm c).1,y.Rt d)∧(Tm.rns k a ps i ys nm c).1.length=ys.length:=by
  intro ys;induction ys with
  |nil=>intro i nm c _;exact⟨fun y h=>by simp[Tm.rns]at h,rfl⟩
  |cons y r ih2=>
   intro i nm c hm;have hy:=hm y (List.mem_cons_self ..);rw[Tm.rns];split
   ·obtain⟨h2,h4⟩:=ih2 (i+1) (vNm (wr (c+1))) (y.rn (ps++[(a,vNm (wr (c+1)))]) (wr (c+1))).2 (fun z hz=>hm z (List.mem_cons_of_mem _ hz));exact⟨fun z hz=>(List.mem_cons.1 hz).elim (fun e=>e▸ih y _ _ (hx y hy)) (h2 z),by simp[h4]⟩
   ·obtain⟨h2,h4⟩:=ih2 (i+1) nm (y.rn ps c).2 (fun z hz=>hm z (List.mem_cons_of_mem _ hz));exact⟨fun z hz=>(List.mem_cons.1 hz).elim (fun e=>e▸ih y _ _ (hx y hy)) (h2 z),by simp[h4]⟩
 have hC:∀(ys:List Cs) (c:Int),(∀y∈ys,y∈cs)→(∀y∈(Cs.rnL ys ps c).1,y.2.length≤6∧y.3.Rt d)∧(Cs.rnL ys ps c).1.length=ys.length:=by
  intro ys;induction ys with
  |nil=>intro c _;exact⟨fun y h=>by simp[Cs.rnL]at h,rfl⟩
  |cons y r ih2=>
   intro c hm;have hy:=hc y (hm y (List.mem_cons_self ..));rw[Cs.rnL];obtain⟨h2,h4⟩:=ih2 (y.rn ps c).2 (fun z hz=>hm z (List.mem_cons_of_mem _ hz));obtain⟨t,ws,z⟩:=y;refine⟨fun z hz=>(List.mem_cons.1 hz).elim (fun e=>?_) (h2 z),by simp[h4]⟩;rw[e,Cs.rn];exact⟨by dsimp only;rw[Vw];exact hy.1,ih _ _ _ hy.2⟩
 rw[Tm.rn];split
 ·rename_i hk;subst hk;have h2':=h2;unfold Zv at h2';simp at h2';obtain⟨e1,e2⟩:=h2';subst e1 e2;have h0:Tm.Rt (d+1) (.mk 1 n (nowP ps a) b vs [] []):=by
   rw[Tm.Rt];exact⟨h1,h2,h3,by simp,by simp⟩
  exact h0
 ·obtain⟨q1,q2⟩:=hL xs 0 a c (fun _ h=>h);obtain⟨q3,q4⟩:=hC cs (Tm.rns k a ps 0 xs a c).2.2 (fun _ h=>h);refine⟨h1,?_,?_,q1,q3⟩
  ·rw[q2,q4];exact h2
  ·rw[q2,q4];exact h3
def IdP (ps:Ps):Prop:=∀p∈ps,p.1=p.2
theorem rt_let {d:Nat} {k n:Int} {a b:ByteArray} {vs:List ByteArray} {xs:List Tm} {cs:List Cs} (h:(Tm.mk k n a b vs xs cs).Rt (d+1)) (hk:k=6):∃x y,xs=[x,y]∧cs=[]:=by
 obtain⟨_,hm,_⟩:=h;subst hk;unfold Zv at hm;simp at hm;obtain⟨h2,rfl⟩:=hm;rcases xs with _|⟨x,_|⟨y,_|⟨z,l⟩⟩⟩
 ·cases h2
 ·cases h2
 ·exact⟨x,y,rfl,rfl⟩
 ·simp at h2
theorem rns_no {k:Int} (hk:k≠6) (a:ByteArray) (ps:Ps):∀(l:List Tm) (i:Nat) (nm:ByteArray) (c:Int),(Tm.rns k a ps i l nm c).2.1=nm
 |[],_,_,_=>rfl
 |x::r,i,nm,c=>by
  rw[Tm.rns,if_neg fun h=>hk h.1];exact rns_no hk a ps r _ _ _
mutual
def Tm.bd:Tm→List ByteArray
 | .mk k _ a _ _ xs cs=>(if k=6 then[a]else[])++(Tm.bdL xs++Cs.bdL cs)
def Tm.bdL:List Tm→List ByteArray
 |[]=>[]
 |x::r=>x.bd++Tm.bdL r
def Cs.bdL:List Cs→List ByteArray
 |[]=>[]
 |c::r=>c.bd++Cs.bdL r
def Cs.bd:Cs→List ByteArray
 | .mk _ ws y=>ws++y.bd
end
def P6 (c:Int) (n:Nat):List ByteArray:=(List.range n).map fun(i:Nat)=>vNm (c+1+(i:Int))
theorem N8 (c:Int) (m n:Nat):P6 c (m+n)=P6 c m++P6 (c+m) n:=by
 unfold P6;rw[List.range_add,List.map_append,List.map_map];congr 1;refine List.map_congr_left fun i _=>?_
 show vNm _=vNm _;congr 1
 push_cast
 omega
theorem seqV_one (c:Int):P6 c 1=[vNm (c+1)]:=by simp[P6]
theorem wr_of {c:Int} (h:0≤c) (h2:c<9223372036854775807):wr c=c:=wr_id ⟨by omega,by omega⟩
theorem Fq:∀(l:List ByteArray) (c:Int),0≤c→c+l.length<9223372036854775807→Xx l c=P6 c l.length∧V7 l c=c+l.length
 |[],c,_,_=>⟨rfl,by simp[V7]⟩
 |x::r,c,h,h2=>by
  rw[List.length_cons]at h2;have hw:wr (c+1)=c+1:=wr_of (by omega) (by omega);obtain⟨h3,h4⟩:=Fq r (c+1) (by omega) (by omega);refine⟨?_,?_⟩
  ·rw[Xx,hw,h3,List.length_cons,Nat.add_comm r.length 1,N8,seqV_one];rfl
  ·rw[V7,hw,h4,List.length_cons];omega
theorem bd_rn:∀(d:Nat) (t:Tm) (ps:Ps) (c:Int),t.Rt d→0≤c→c+t.bd.length<9223372036854775807→(t.rn ps c).1.bd.Perm (P6 c t.bd.length)∧(t.rn ps c).2=c+t.bd.length:=by
 intro d;induction d with
 |zero=>intro t _ _ h;exact h.elim
 |succ d ih=>
 intro t ps c hR h0 hb;obtain⟨k,n,a,b,vs,xs,cs⟩:=t;have hR':=hR;obtain⟨hk,hmany,_,hx,hc⟩:=hR';rw[Tm.rn];by_cases hk1:k=1
 ·subst hk1;unfold Zv at hmany;simp at hmany;obtain⟨rfl,rfl⟩:=hmany;rw[if_pos rfl];exact⟨by simp[Tm.bd,Tm.bdL,Cs.bdL,P6],by simp[Tm.bd,Tm.bdL,Cs.bdL]⟩
 rw[if_neg hk1];by_cases hk6:k=6
 ·obtain⟨x,y,rfl,rfl⟩:=rt_let hR hk6;subst hk6;have hl:(Tm.mk 6 n a b vs [x,y] []).bd.length=x.bd.length+(1+y.bd.length):=by simp[Tm.bd,Tm.bdL,Cs.bdL];omega
  rw[hl]at hb⊢;obtain⟨h1,h2⟩:=ih x ps c (hx x (by simp)) h0 (by push_cast at hb⊢;omega);have hw:wr (c+x.bd.length+1)=c+x.bd.length+1:=wr_of (by omega) (by push_cast at hb;omega);obtain⟨h3,h4⟩:=ih y (ps++[(a,vNm (c+x.bd.length+1))]) (c+x.bd.length+1) (hx y (by simp)) (by omega) (by push_cast at hb⊢;omega);refine⟨?_,?_⟩
  ·simp[Tm.rns,Cs.rnL,Tm.bd,Tm.bdL,Cs.bdL,h2,hw];rw[N8,N8,seqV_one,show c+(x.bd.length:Int)+((1:Nat):Int)=c+x.bd.length+1 from by omega];refine List.Perm.trans ?_ ((List.perm_middle (a:=vNm (c+x.bd.length+1)) (l₁:=P6 c x.bd.length) (l₂:=P6 (c+x.bd.length+1) y.bd.length)).symm);exact List.Perm.cons _ (h1.append h3)
  ·simp[Tm.rns,Cs.rnL,h2,hw,h4];omega
 ·have hL:∀(ys:List Tm) (i:Nat) (nm:ByteArray) (c:Int),(∀y∈ys,y∈xs)→0≤c→c+(Tm.bdL ys).length<9223372036854775807→(Tm.bdL (Tm.rns k a ps i ys nm c).1).Perm (P6 c (Tm.bdL ys).length)∧(Tm.rns k a ps i ys nm c).2.2=c+(Tm.bdL ys).length:=by
   intro ys;induction ys with
   |nil=>intro i nm c _ _ _;exact⟨by simp[Tm.rns,Tm.bdL,P6],by simp[Tm.rns,Tm.bdL]⟩
   |cons y r ih2=>
    intro i nm c hm h0 hb;rw[Tm.bdL,List.length_append]at hb⊢;obtain⟨h1,h2⟩:=ih y ps c (hx y (hm y (List.mem_cons_self ..))) h0 (by push_cast at hb;omega);obtain⟨h3,h4⟩:=ih2 (i+1) nm (c+y.bd.length) (fun z hz=>hm z (List.mem_cons_of_mem _ hz)) (by omega) (by push_cast at hb;omega);rw[Tm.rns,if_neg fun h=>hk6 h.1,h2];dsimp only;rw[Tm.bdL,N8];exact⟨h1.append h3,by rw[h4];push_cast;omega⟩
  have hC:∀(ys:List Cs) (c:Int),(∀y∈ys,y∈cs)→0≤c→c+(Cs.bdL ys).length<9223372036854775807→(Cs.bdL (Cs.rnL ys ps c).1).Perm (P6 c (Cs.bdL ys).length)∧(Cs.rnL ys ps c).2=c+(Cs.bdL ys).length:=by
   intro ys;induction ys with
   |nil=>intro c _ _ _;exact⟨by simp[Cs.rnL,Cs.bdL,P6],by simp[Cs.rnL,Cs.bdL]⟩
   |cons y r ih2=>
    intro c hm h0 hb;have hy:=hm y (List.mem_cons_self ..);obtain⟨t,ws,y⟩:=y;rw[Cs.bdL,Cs.bd,List.length_append,List.length_append]at hb⊢;obtain⟨e1,e2⟩:=Fq ws c h0 (by push_cast at hb;omega);obtain⟨h1,h2⟩:=ih y (ps++ws.zip (Xx ws c)) (c+ws.length) (hc _ hy).2 (by omega) (by push_cast at hb;omega);obtain⟨h3,h4⟩:=ih2 (c+ws.length+y.bd.length) (fun z hz=>hm z (List.mem_cons_of_mem _ hz)) (by omega) (by push_cast at hb;omega);rw[Cs.rnL,Cs.rn,e2,h2];dsimp only;rw[Cs.bdL,Cs.bd,N8,N8,show c+((ws.length+y.bd.length:Nat):Int)=c+ws.length+y.bd.length from by push_cast;omega,e1];exact⟨((List.Perm.refl _).append (by rw[←e1];exact h1)).append h3,by rw[h4];push_cast;omega⟩
  have hl:(Tm.mk k n a b vs xs cs).bd.length=(Tm.bdL xs).length+(Cs.bdL cs).length:=by simp[Tm.bd,hk6]
  rw[hl]at hb⊢;obtain⟨h1,h2⟩:=hL xs 0 a c (fun _ h=>h) h0 (by push_cast at hb;omega);obtain⟨h3,h4⟩:=hC cs (c+(Tm.bdL xs).length) (fun _ h=>h) (by omega) (by push_cast at hb;omega);rw[h2];dsimp only;rw[Tm.bd,if_neg hk6,List.nil_append,N8];exact⟨h1.append h3,by rw[h4];push_cast;omega⟩
def decVal (l:List UInt8):Nat:=l.foldl (fun a c=>a * 10+(c.toNat-48)) 0
theorem decVal_digits (u:Nat):decVal (Lib.decDigits u)=u:=by
 induction u using Nat.strongRecOn with
 |_ u ih=>
  by_cases h:u<10
  ·rw[Lib.decDigits,dif_pos h];have h1:(UInt8.ofNat (48+u)).toNat=48+u:=by rw[UInt8.toNat_ofNat'];omega
   simp only[decVal,List.foldl_cons,List.foldl_nil,h1];omega
  ·rw[Lib.decDigits,dif_neg h];have h1:(UInt8.ofNat (48+u % 10)).toNat=48+u % 10:=by rw[UInt8.toNat_ofNat'];omega
   have h2:=ih (u / 10) (by omega);unfold decVal at h2⊢;rw[List.foldl_append,h2,List.foldl_cons,List.foldl_nil,h1];omega
theorem itoaB_inj {a b:Int} (ha:0≤a) (hb:0≤b) (h:Hz a=Hz b):a=b:=by
 unfold Hz Lib.itoa at h;rw[if_neg (by omega),if_neg (by omega)]at h;injection h with h;have h1:Lib.decDigits a.toNat=Lib.decDigits b.toNat:=by
  have:=congrArg Array.toList h;simpa using this
 have h2:=congrArg decVal h1;rw[decVal_digits,decVal_digits]at h2;omega
theorem append_left_inj {p a b:ByteArray} (h:p++a=p++b):a=b:=by
 have h1:=congrArg (fun x:ByteArray=>x.data.toList) h;simp only[ByteArray.data_append,Array.toList_append]at h1;have h2:=List.append_cancel_left h1;obtain⟨a⟩:=a;obtain⟨b⟩:=b;congr 1;exact Array.toList_inj.1 h2
theorem vNm_inj {a b:Int} (ha:0≤a) (hb:0≤b) (h:vNm a=vNm b):a=b:=itoaB_inj ha hb (append_left_inj h)
theorem seqV_nodup {c:Int} (hc:0≤c) (n:Nat):(P6 c n).Nodup:=by
 unfold P6;rw[List.nodup_iff_pairwise_ne,List.pairwise_map];refine List.Pairwise.imp ?_ List.nodup_range;intro a b hab e;have:=vNm_inj (by omega) (by omega) e;omega
def Fn.bd (f:Fn):List ByteArray:=f.params++f.body.bd
theorem Fn.rn_bd (f:Fn) (hr:f.body.Rt 25) (hb:(f.bd.length:Int)<9223372036854775807):f.rn.bd.Nodup:=by
 unfold Fn.bd at hb;rw[List.length_append]at hb
 push_cast at hb
 obtain⟨h1,h2⟩:=Fq f.params 0 (by omega) (by omega);obtain⟨h3,_⟩:=bd_rn 25 f.body (f.params.zip (Xx f.params 0)) (V7 f.params 0) hr (by omega) (by omega);unfold Fn.bd Fn.rn;dsimp only;have h4:(Xx f.params 0++(f.body.rn (f.params.zip (Xx f.params 0)) (V7 f.params 0)).1.bd).Perm (P6 0 (f.params.length+f.body.bd.length)):=by
  rw[N8];exact(List.Perm.of_eq h1).append (h2▸h3)
 exact h4.nodup_iff.2 (seqV_nodup (by omega) _)
abbrev Out:=Vl×Int×Int
def bindE (ws:List ByteArray) (vs:List Vl) (env:Env):Env:=(ws.zip vs).reverse++env
mutual
def Vl.Fine:Vl→Prop
 | .mk _ n ks=>(-2147483648≤n∧n≤2147483647)∧ks.length≤6∧Vl.Fines ks
def Vl.Fines:List Vl→Prop
 |[]=>True
 |t::r=>t.Fine∧Vl.Fines r
end
def EnvF (env:Env):Prop:=∀p∈env,p.2.Fine
def CovE (env:Env) (names:List ByteArray):Prop:=∀s∈names,∃v,envGet env s=some v
def ORel (o o':Out):Prop:=o.2=o'.2∧(o.2.2=0→o.1=o'.1)
end Go.Proofs.YtlbcipohiepjmaaDoor
namespace Go.Proofs.YtlbcipohiepjmaaDoor
open Go.RowKit
attribute [local simp] runD mkRc ldOf stOf stOk Mj Tv Rz Kv Kw Yq Y8 Xz Y4 Bj evA Vj F4 Value.oneCell' Z9 Q5 Qw frOf Uv Qj AS.after Z4 V4 Y3 AV.ids M7 Q6.ids frNo Mx Gj Uw Hq Jv Y5 Vx U3 U2 K4 toD1 Ez setAt U9 O0 F5 Av H6 Aw binI AV.cells J4 Jj H5 Wj AV.kill Q6.kill AV.has AV.Yj Op.operands Call.operands Nk Mv Z8 cChk Z0 X3 Ev moQ M9 R7 Yz AV.ren Ej Q6.ren Q6.like kept K5 Sq AV.frz Px Ox frSub M5 D9 AS.frz C8 G7 Q6.frz Fx bleF Nat.ble_eq Gw G6 Y1 D.Y2 Tj G5 V8 Vk phO Az F6 D7 K6 V5 Low Ew
abbrev wkO (c:Int):Q6:=.blk 65 [.d (.int c)]
def bsR (b:ByteArray×Tm):List D:=.str b.1::b.2.row
def WtN (N:Nat):Prop:=∀(t:Tm) (c:Int),t.Rt N→t.Ok→
 Y9 Tryd.prog 32 [.ptr 1000 0,Xj t] [(1000,wkO c)] (Xj (t.pl c).1) [(1000,wkO (t.pl c).2)]
theorem cs_atoms (N:Nat) (ih:WtN N) (l:List Tm) (c:Int) (hn:l.length≤6) (hl:∀x∈l,x.Rt N∧x.Ok):Y9 Tryd.prog 47 [.ptr 1000 0,.d (.sl (l.map Tm.row))] [(1000,wkO c)] (.tuple [.d (.sl ((Tm.ats l c).1.map Tm.row)),.d (.sl ((Tm.ats l c).2.1.map bsR))]) [(1000,wkO (Tm.ats l c).2.2)]:=by
 obtain⟨R,hR⟩:∃R,R=Tm.ats l c:=⟨_,rfl⟩
 rw[←hR];refine Y9.of Tryd.func47 rfl rfl (Nat.le_of_ble_eq_true rfl) ?_;show AWp _ _ (Zw _ Tryd.f47 _ _) (K5 53 _ _);refine AWp.rg [] [] ?_ (hr:=by conv=>lhs;simp[Tm.row,Tm.Q3,Cs.Q3,G8,bsR]);refine AWp.rg [] [] ?_ (hr:=by conv=>lhs;simp[Tm.row,Tm.Q3,Cs.Q3,G8,bsR]);refine AWp.rg [] [] ?_ (hr:=by conv=>lhs;simp[Tm.row,Tm.Q3,Cs.Q3,G8,bsR]);refine AWp.rg [] [] ?_ (hr:=by conv=>lhs;simp[Tm.row,Tm.Q3,Cs.Q3,G8,bsR]);repeat (first|refine AWp.seq ?_|refine AWp.block ?_)
 refine AWp.le (Le.low [400,401] [] (fr:=[(0,.ptr 1000 0),(6,.arr 400 0 ([]:List Tm).length),(7,.arr 401 0 ([]:Bs).length),(11,.d (.sl (l.map Tm.row))),(12,.d (.int (l.length:Int))),(13,.d (.int (0:Int)))]) (mem:=[(400,some (.arr 32 7 (([]:List Tm).map Tm.row))),(401,some (.arr 99 8 (([]:Bs).map bsR))),(1000,some (.blk 65 [.d (.int (c:Int))]))]) rfl (by simp) (by simp)) ?_;refine AWp.loop (σ:=fun u:{u:Nat×List Tm×Bs×Int // u.1≤l.length∧(Tm.ats l c=(u.2.1++(Tm.ats (l.drop u.1) u.2.2.2).1,u.2.2.1++(Tm.ats (l.drop u.1) u.2.2.2).2.1,(Tm.ats (l.drop u.1) u.2.2.2).2.2)∧u.2.1.length=u.1∧u.2.2.1.length≤u.1)}=>⟨53,[(0,.ptr 1000 0),(6,.arr 400 0 u.1.2.1.length),(7,.arr 401 0 u.1.2.2.1.length),(11,.d (.sl (l.map Tm.row))),(12,.d (.int (l.length:Int))),(13,.d (.int (u.1.1:Int)))],[(400,some (.arr 32 7 (u.1.2.1.map Tm.row))),(401,some (.arr 99 8 (u.1.2.2.1.map bsR))),(1000,some (.blk 65 [.d (.int u.1.2.2.2)]))]⟩)
  (μ:=fun u=>l.length-u.1.1) ⟨(0,[],[],c),⟨Nat.zero_le _,⟨by simp,rfl,Nat.le_refl _⟩⟩⟩ (Le.sub (by simp) (by simp)) (fun⟨(i,vs,bs,k),⟨hi4,hw⟩⟩=>?_)
 dsimp only at hi4 hw⊢;refine AWp.rg [] [] ?_ (hr:=by conv=>lhs;simp[Tm.row,Tm.Q3,Cs.Q3,G8,bsR]);repeat (first|refine AWp.seq ?_|refine AWp.block ?_)
 refine AWp.cond rfl (fun hc=>?_) (fun hc=>?_)
 ·have hi1:i<l.length:=by have:=of_decide_eq_true hc;omega
  clear hc;have h1y:l[i]? =some l[i]:=List.getElem?_eq_getElem hi1;have hmy:l[i]∈l:=List.getElem_mem hi1;have hdy:l.drop i=l[i]::l.drop (i+1):=List.drop_eq_getElem_cons hi1;generalize l[i]=y at h1y hmy hdy;obtain⟨hap,hvl,hbl⟩:=hw;rw[hdy,Tm.ats]at hap;obtain⟨hyR,hyO⟩:=hl y hmy;obtain⟨yk,yn,ya,yb,yvs,yxs,ycs⟩:=y;rw[Tm.tk]at hap;refine AWp.skip ?_;refine AWp.rg [] [] ?_ (hr:=by conv=>lhs;simp[Tm.row,Tm.Q3,Cs.Q3,G8,bsR,h1y]);by_cases q1:yk=1
  ·refine AWp.rg [] [] ?_ (hr:=by conv=>lhs;simp[Tm.row,Tm.Q3,Cs.Q3,G8,bsR,h1y,q1]);refine AWp.cy ?_;subst q1;rw[if_pos rfl]at hap;refine AWp.rg [] [] ?_ (hr:=by conv=>lhs;simp[Tm.row,Tm.Q3,Cs.Q3,G8,bsR,h1y]);refine AWp.exit ?_;refine AWp.rg [] [] ?_ (hr:=by conv=>lhs;simp[Tm.row,Tm.Q3,Cs.Q3,G8,bsR,h1y]);refine⟨⟨(i+1,vs++[.mk 1 yn ya yb yvs yxs ycs],bs,k),hi1,⟨by rw[hap];simp,by simp[hvl],by dsimp only;omega⟩⟩,by simp;omega,?_⟩;dsimp only;exact Le.sub (by simp[bsR,Tm.row,Tm.Q3,Cs.Q3,hvl]) (by simp[bsR,Tm.row,Tm.Q3,Cs.Q3,hvl])
  refine AWp.rg [] [] ?_ (hr:=by conv=>lhs;simp[Tm.row,Tm.Q3,Cs.Q3,G8,bsR,h1y,q1]);refine AWp.cn ?_;refine AWp.skip ?_;rw[if_neg q1]at hap;obtain⟨e,he⟩:∃e:Int,wr (k+1)=e:=⟨_,rfl⟩
  rw[he]at hap;have heI:inI e:=by rw[←he];exact Mq _
  have hit:=sp_Itoa e heI;have hsz:=Uz heI;have h1s:(⟨#[119]⟩:ByteArray).size=1:=rfl;have hx:=ih (.mk yk yn ya yb yvs yxs ycs) e hyR hyO;generalize(Tm.mk yk yn ya yb yvs yxs ycs).pl e=o at hx hap;obtain⟨z,c2⟩:=o;dsimp only at hx hap;obtain⟨zk,zn,za,zb,zvs,zxs,zcs⟩:=z;refine AWp.rg [4] [] ?_ (hr:=by conv=>lhs;simp[Tm.row,Tm.Q3,Cs.Q3,G8,bsR,h1y,he,q1]);refine AWp.rg [] [.p (fun _=>.d (.str (Hz e))) none] ?_ (hr:=by conv=>lhs;simp[Tm.row,Tm.Q3,Cs.Q3,G8,bsR,h1y,he,q1]);obtain⟨s,hs⟩:∃s,s=⟨#[119]⟩++Hz e:=⟨_,rfl⟩
  rw[←hs];rw[wNm,←hs]at hap;refine AWp.rg [] [.c [] [.ptr 1000 0,.agg [.d (.int yk),.d (.int yn),.d (.str ya),.d (.str yb),.d (Q7 yvs),.d (.sl (yxs.map Tm.row)),.d (.sl (ycs.map Cs.row))]] [(1000,.blk 65 [.d (.int e)])] (.agg [.d (.int zk),.d (.int zn),.d (.str za),.d (.str zb),.d (Q7 zvs),.d (.sl (zxs.map Tm.row)),.d (.sl (zcs.map Cs.row))]) [(1000,.blk 65 [.d (.int c2)])]] ?_ (hr:=by conv=>lhs;simp[Tm.row,Tm.Q3,Cs.Q3,G8,bsR,h1y,q1]);refine AWp.rg [] [] ?_ (hr:=by conv=>lhs;simp[Tm.row,Tm.Q3,Cs.Q3,G8,bsR,h1y,q1]);refine AWp.rg [] [] ?_ (hr:=by conv=>lhs;simp[Tm.row,Tm.Q3,Cs.Q3,G8,bsR,h1y,q1]);refine⟨⟨(i+1,vs++[.mk 1 0 s .empty [] [] []],bs++[(s,.mk zk zn za zb zvs zxs zcs)],c2),hi1,⟨by rw[hap];simp[varT],by simp[hvl],by dsimp only;simp;omega⟩⟩,by simp;omega,?_⟩;dsimp only;exact Le.sub (by simp[bsR,Tm.row,Tm.Q3,Cs.Q3,hvl]) (by simp[bsR,Tm.row,Tm.Q3,Cs.Q3,hvl])
 have hi1:i=l.length:=by have:=of_decide_eq_false hc;omega
 subst hi1;clear hc;obtain⟨hap,hvl,hbl⟩:=hw;rw[List.drop_length,Tm.ats]at hap;simp only[List.append_nil]at hap;rw[hap]at hR;try dsimp only at hR
 subst hR;refine AWp.exit ?_;refine AWp.rg [] [] ?_ (hr:=by conv=>lhs;simp[Tm.row,Tm.Q3,Cs.Q3,G8,bsR]);refine AWp.ret ?_;try dsimp only[Qq,Q8]
 apply Zw.retF [400,401]
 ·rfl
 ·conv=>lhs;simp
 ·conv=>lhs;simp[Qz,Tryd.results47]
 ·rfl
 ·simp[Zx,Q5]
theorem sp_around (bs:Bs) (tk tn:Int) (ta tb:ByteArray) (tvs:List ByteArray) (txs:List Tm) (tcs:List Cs) (hn:bs.length≤6):Qv Tryd.prog 48 [.d (.sl (bs.map bsR)),Xj (.mk tk tn ta tb tvs txs tcs)] (fun _=>Xj (around bs (.mk tk tn ta tb tvs txs tcs))) none:=by
 obtain⟨R,hR⟩:∃R,R=around bs (.mk tk tn ta tb tvs txs tcs):=⟨_,rfl⟩
 rw[←hR];obtain⟨rk,rn,ra,rb,rvs,rxs,rcs⟩:=R;refine Qv.of Tryd.func48 rfl rfl rfl (Nat.le_of_ble_eq_true rfl) ?_;show AWp _ _ (Z5 _ Tryd.f48 _ _ _) (Qw 27 _);refine AWp.rg [] [] ?_ (hr:=by conv=>lhs;simp[Tm.row,Tm.Q3,Cs.Q3,bsR]);refine AWp.rg [] [] ?_ (hr:=by conv=>lhs;simp[Tm.row,Tm.Q3,Cs.Q3,bsR]);repeat (first|refine AWp.seq ?_|refine AWp.block ?_)
 refine AWp.loop (σ:=fun u:{u:Nat×Int×Int×ByteArray×ByteArray×List ByteArray×List Tm×List Cs // (around bs (.mk tk tn ta tb tvs txs tcs)=around (bs.take u.1) (.mk u.2.1 u.2.2.1 u.2.2.2.1 u.2.2.2.2.1 u.2.2.2.2.2.1 u.2.2.2.2.2.2.1 u.2.2.2.2.2.2.2)∧u.1≤bs.length)}=>⟨27,[(0,.d (.sl (bs.map bsR))),(3,.ptr 3 0),(4,.ptr 4 0),(5,.d (.int ((u.1.1:Int)-1)))],[(3,some (.blk 32 [.d (.int u.1.2.1),.d (.int u.1.2.2.1),.d (.str u.1.2.2.2.1),.d (.str u.1.2.2.2.2.1),.d (Q7 u.1.2.2.2.2.2.1),.d (.sl (u.1.2.2.2.2.2.2.1.map Tm.row)),.d (.sl (u.1.2.2.2.2.2.2.2.map Cs.row))])),(4,some (.blk 32 [.d (.int 0),.d (.int 0),.d (.str ByteArray.empty),.d (.str ByteArray.empty),.lit (.slice none 0 0),.lit (.slice none 0 0),.lit (.slice none 0 0)]))]⟩)
  (μ:=fun u=>u.1.1) ⟨(bs.length,tk,tn,ta,tb,tvs,txs,tcs),⟨by rw[List.take_length],Nat.le_refl _⟩⟩ (Le.sub (by simp) (by simp)) (fun⟨(j0,zk,zn,za,zb,zvs,zxs,zcs),hw⟩=>?_)
 dsimp only at hw⊢;obtain⟨hw,hj⟩:=hw;rcases j0 with _|j
 ·rw[show((0:Nat):Int)-1= -1 from rfl];refine AWp.rg [] [] ?_ (hr:=by conv=>lhs;simp[Tm.row,Tm.Q3,Cs.Q3,bsR]);refine AWp.cn ?_;refine AWp.exit ?_;rw[List.take_zero]at hw;obtain⟨rfl,rfl,rfl,rfl,rfl,rfl,rfl⟩:zk=rk∧zn=rn∧za=ra∧zb=rb∧zvs=rvs∧zxs=rxs∧zcs=rcs:=by simpa[around]using (hR.trans hw).symm
  refine AWp.rg [] [] ?_ (hr:=by conv=>lhs;simp[Tm.row,Tm.Q3,Cs.Q3,bsR]);refine AWp.ret ?_;try dsimp only[Qq,Q8]
  apply Z5.ret
  ·rfl
  ·conv=>lhs;simp[Qz,Tryd.results48]
  first|rfl|simp[Zz,Xj]
 rw[show((j+1:Nat):Int)-1=(j:Int)by omega];have hk0:=eq_true (Int.natCast_nonneg j);have hk1:j<bs.length:=by omega
 have h1p:bs[j]? =some bs[j]:=List.getElem?_eq_getElem hk1;have htk:bs.take (j+1)=bs.take j++[bs[j]]:=by rw[List.take_add_one,h1p];rfl
 generalize bs[j]=p at h1p htk;obtain⟨bn,xk,xn,xa,xb,xvs,xxs,xcs⟩:=p;rw[htk,around_append]at hw;dsimp only[around]at hw;refine AWp.rg [] [] ?_ (hr:=by conv=>lhs;simp[Tm.row,Tm.Q3,Cs.Q3,bsR,h1p,hk0]);refine AWp.cy ?_;refine AWp.skip ?_;refine AWp.dw [11] [] mixed ?_ (hr:=by conv=>lhs;simp[Tm.row,Tm.Q3,Cs.Q3,bsR,h1p,hk0]);repeat (first|refine AWp.seq ?_|refine AWp.block ?_)
 refine AWp.le (Le.low [] [] (fr:=[(0,.d (.sl (bs.map bsR))),(3,.ptr 3 0),(4,.ptr 4 0),(5,.d (.int (j:Int)))]) (mem:=[(3,some (.blk 32 [.d (.int 6),.d (.int 0),.d (.str bn),.d (.str ByteArray.empty),.d (.sl []),.d (.sl [[.int xk,.int xn,.str xa,.str xb,Q7 xvs,.sl (xxs.map Tm.row),.sl (xcs.map Cs.row)],[.int zk,.int zn,.str za,.str zb,Q7 zvs,.sl (zxs.map Tm.row),.sl (zcs.map Cs.row)]]),.d (.sl [])])),(4,some (.blk 32 [.d (.int 0),.d (.int 0),.d (.str ByteArray.empty),.d (.str ByteArray.empty),.lit (.slice none 0 0),.lit (.slice none 0 0),.lit (.slice none 0 0)]))]) rfl (by simp) (by simp)) ?_;refine AWp.rg [] [] ?_ (hr:=by conv=>lhs;simp[Tm.row,Tm.Q3,Cs.Q3,bsR,h1p,hk0]);refine⟨⟨(j,6,0,bn,.empty,[],[.mk xk xn xa xb xvs xxs xcs,.mk zk zn za zb zvs zxs zcs],[]),⟨hw,by omega⟩⟩,by simp only[];omega,?_⟩;dsimp only;exact Le.sub (by simp[Tm.row,Tm.Q3,Cs.Q3,Q7]) (by simp[Tm.row,Tm.Q3,Cs.Q3,Q7])
theorem E9:∀(l:List Tm) (c:Int),(Tm.ats l c).2.1.length≤l.length
 |[],_=>Nat.le_refl _
 |x::r,c=>by
  rw[Tm.ats];split
  ·have:=E9 r c;simp;omega
  ·have:=E9 r (x.pl (wr (c+1))).2;simp;omega
theorem wt_step (N:Nat) (ih:WtN N):WtN (N+1):=by
 intro t c hRt hO;obtain⟨R,hR⟩:∃R,R=t.pl c:=⟨_,rfl⟩
 rw[←hR];obtain⟨tk,tn,ta,tb,tvs,txs,tcs⟩:=t;obtain⟨hkk,hmany,h6,hxR,hcR0⟩:=hRt;have hxO:∀x∈txs,x.Ok:=fun x hx=>Tm.Zk.1 hO.2.2.1 x hx
 have hcR:∀d∈tcs,d.3.Rt N∧d.3.Ok:=fun d hd=>⟨(hcR0 d hd).2,by
  obtain⟨dt,dws,y⟩:=d;exact(Cs.Zk.1 hO.2.2.2 _ hd).2.2⟩
 refine Y9.of Tryd.func32 rfl rfl (Nat.le_of_ble_eq_true rfl) ?_;show AWp _ _ (Zw _ Tryd.f32 _ _) (K5 92 _ _);refine AWp.rg [] [] ?_ (hr:=by conv=>lhs;simp[Tm.row,Tm.Q3,Cs.Q3]);refine AWp.rg [] [] ?_ (hr:=by conv=>lhs;simp[Tm.row,Tm.Q3,Cs.Q3]);by_cases q1:tk=3
 ·refine AWp.rg [] [] ?_ (hr:=by conv=>lhs;simp[Tm.row,Tm.Q3,Cs.Q3,q1]);refine AWp.cy ?_;refine AWp.skip ?_;refine AWp.cy ?_;subst q1;rw[Tm.pl,if_pos (by omega)]at hR;have hat:=cs_atoms N ih txs c (by omega) (fun x hx=>⟨hxR x hx,hxO x hx⟩);have hbl:=E9 txs c;generalize Tm.ats txs c=o at hat hR hbl;obtain⟨vs,bs,c2⟩:=o;dsimp only at hat hR hbl;have har:=sp_around bs 3 tn ta .empty [] vs [] (by omega);generalize around bs (.mk 3 tn ta .empty [] vs [])=z at har hR;subst hR;obtain⟨zk,zn,za,zb,zvs,zxs,zcs⟩:=z;replace har:=Qv.nilArgs (args:=[.d (.sl (bs.map bsR)),.agg [.d (.int 3),.d (.int tn),.d (.str ta),.d (.str .empty),.lit (.slice none 0 0),.d (.sl (vs.map Tm.row)),.lit (.slice none 0 0)]]) har;refine AWp.rg [] [.c [] [.ptr 1000 0,.d (.sl (txs.map Tm.row))] [(1000,.blk 65 [.d (.int c)])] (.tuple [.d (.sl (vs.map Tm.row)),.d (.sl (bs.map bsR))]) [(1000,.blk 65 [.d (.int c2)])]] ?_ (hr:=by conv=>lhs;simp[Tm.row,Tm.Q3,Cs.Q3]);refine AWp.rg [] [.p (fun _=>.agg [.d (.int zk),.d (.int zn),.d (.str za),.d (.str zb),.d (Q7 zvs),.d (.sl (zxs.map Tm.row)),.d (.sl (zcs.map Cs.row))]) none] ?_ (hr:=by conv=>lhs;simp[Tm.row,Tm.Q3,Cs.Q3]);refine AWp.ret ?_;try dsimp only[Qq,Q8]
  apply Zw.ret
  ·rfl
  ·conv=>lhs;simp[Qz,Tryd.results32]
  ·first|rfl|simp[Zz,Xj,Tm.row,Tm.Q3,Cs.Q3,AV.X7,Jq,Q7]
  ·simp[Zx,Q5]
 refine AWp.rg [] [] ?_ (hr:=by conv=>lhs;simp[Tm.row,Tm.Q3,Cs.Q3,q1]);refine AWp.cn ?_;by_cases q2:tk=4
 ·refine AWp.rg [] [] ?_ (hr:=by conv=>lhs;simp[Tm.row,Tm.Q3,Cs.Q3,q1,q2]);refine AWp.cy ?_;refine AWp.skip ?_;refine AWp.cy ?_;subst q2;rw[Tm.pl,if_pos (by omega)]at hR;have hat:=cs_atoms N ih txs c (by omega) (fun x hx=>⟨hxR x hx,hxO x hx⟩);have hbl:=E9 txs c;generalize Tm.ats txs c=o at hat hR hbl;obtain⟨vs,bs,c2⟩:=o;dsimp only at hat hR hbl;have har:=sp_around bs 4 tn ta .empty [] vs [] (by omega);generalize around bs (.mk 4 tn ta .empty [] vs [])=z at har hR;subst hR;obtain⟨zk,zn,za,zb,zvs,zxs,zcs⟩:=z;replace har:=Qv.nilArgs (args:=[.d (.sl (bs.map bsR)),.agg [.d (.int 4),.d (.int tn),.d (.str ta),.d (.str .empty),.lit (.slice none 0 0),.d (.sl (vs.map Tm.row)),.lit (.slice none 0 0)]]) har;refine AWp.rg [] [.c [] [.ptr 1000 0,.d (.sl (txs.map Tm.row))] [(1000,.blk 65 [.d (.int c)])] (.tuple [.d (.sl (vs.map Tm.row)),.d (.sl (bs.map bsR))]) [(1000,.blk 65 [.d (.int c2)])]] ?_ (hr:=by conv=>lhs;simp[Tm.row,Tm.Q3,Cs.Q3,q1]);refine AWp.rg [] [.p (fun _=>.agg [.d (.int zk),.d (.int zn),.d (.str za),.d (.str zb),.d (Q7 zvs),.d (.sl (zxs.map Tm.row)),.d (.sl (zcs.map Cs.row))]) none] ?_ (hr:=by conv=>lhs;simp[Tm.row,Tm.Q3,Cs.Q3,q1]);refine AWp.ret ?_;try dsimp only[Qq,Q8]
  apply Zw.ret
  ·rfl
  ·conv=>lhs;simp[Qz,Tryd.results32]
  ·first|rfl|simp[Zz,Xj,Tm.row,Tm.Q3,Cs.Q3,AV.X7,Jq,Q7]
  ·simp[Zx,Q5]
 refine AWp.rg [] [] ?_ (hr:=by conv=>lhs;simp[Tm.row,Tm.Q3,Cs.Q3,q1,q2]);refine AWp.cn ?_;by_cases q3:tk=5
 ·refine AWp.rg [] [] ?_ (hr:=by conv=>lhs;simp[Tm.row,Tm.Q3,Cs.Q3,q1,q2,q3]);refine AWp.cy ?_;subst q3;rw[Tm.pl,if_pos (by omega)]at hR;have hat:=cs_atoms N ih txs c (by omega) (fun x hx=>⟨hxR x hx,hxO x hx⟩);have hbl:=E9 txs c;generalize Tm.ats txs c=o at hat hR hbl;obtain⟨vs,bs,c2⟩:=o;dsimp only at hat hR hbl;have har:=sp_around bs 5 tn ta .empty [] vs [] (by omega);generalize around bs (.mk 5 tn ta .empty [] vs [])=z at har hR;subst hR;obtain⟨zk,zn,za,zb,zvs,zxs,zcs⟩:=z;replace har:=Qv.nilArgs (args:=[.d (.sl (bs.map bsR)),.agg [.d (.int 5),.d (.int tn),.d (.str ta),.d (.str .empty),.lit (.slice none 0 0),.d (.sl (vs.map Tm.row)),.lit (.slice none 0 0)]]) har;refine AWp.rg [] [.c [] [.ptr 1000 0,.d (.sl (txs.map Tm.row))] [(1000,.blk 65 [.d (.int c)])] (.tuple [.d (.sl (vs.map Tm.row)),.d (.sl (bs.map bsR))]) [(1000,.blk 65 [.d (.int c2)])]] ?_ (hr:=by conv=>lhs;simp[Tm.row,Tm.Q3,Cs.Q3,q1,q2]);refine AWp.rg [] [.p (fun _=>.agg [.d (.int zk),.d (.int zn),.d (.str za),.d (.str zb),.d (Q7 zvs),.d (.sl (zxs.map Tm.row)),.d (.sl (zcs.map Cs.row))]) none] ?_ (hr:=by conv=>lhs;simp[Tm.row,Tm.Q3,Cs.Q3,q1,q2]);refine AWp.ret ?_;try dsimp only[Qq,Q8]
  apply Zw.ret
  ·rfl
  ·conv=>lhs;simp[Qz,Tryd.results32]
  ·first|rfl|simp[Zz,Xj,Tm.row,Tm.Q3,Cs.Q3,AV.X7,Jq,Q7]
  ·simp[Zx,Q5]
 refine AWp.rg [] [] ?_ (hr:=by conv=>lhs;simp[Tm.row,Tm.Q3,Cs.Q3,q1,q2,q3]);refine AWp.cn ?_;by_cases q4:tk=6
 ·refine AWp.rg [] [] ?_ (hr:=by conv=>lhs;simp[Tm.row,Tm.Q3,Cs.Q3,q1,q2,q3,q4]);refine AWp.cy ?_;subst q4;have hx2:txs.length=2∧tcs=[]:=by
   unfold Zv at hmany;simp at hmany;exact hmany
  obtain⟨hx2,rfl⟩:=hx2;obtain⟨x,y,rfl⟩:∃x y,txs=[x,y]:=by
   rcases txs with _|⟨x,_|⟨y,_|⟨z,l⟩⟩⟩
   ·cases hx2
   ·cases hx2
   ·exact⟨x,y,rfl⟩
   ·simp at hx2
  have hxx:=ih x c (hxR x (by simp)) (hxO x (by simp));rw[Tm.pl,if_neg (by omega),if_pos rfl,Tm.plL,Tm.plL,Tm.plL]at hR;dsimp only at hR;generalize x.pl c=o at hxx hR;obtain⟨z,c1⟩:=o;dsimp only at hxx hR;have hyy:=ih y c1 (hxR y (by simp)) (hxO y (by simp));generalize y.pl c1=o at hyy hR;obtain⟨u,c2⟩:=o;dsimp only at hyy hR;subst hR;obtain⟨xk,xn,xa,xb,xvs,xxs,xcs⟩:=x;obtain⟨yk,yn,ya,yb,yvs,yxs,ycs⟩:=y;obtain⟨zk,zn,za,zb,zvs,zxs,zcs⟩:=z;obtain⟨uk,un,ua,ub,uvs,uxs,ucs⟩:=u;refine AWp.rg [] [.c [] [.ptr 1000 0,.agg [.d (.int xk),.d (.int xn),.d (.str xa),.d (.str xb),.d (Q7 xvs),.d (.sl (xxs.map Tm.row)),.d (.sl (xcs.map Cs.row))]] [(1000,.blk 65 [.d (.int c)])] (.agg [.d (.int zk),.d (.int zn),.d (.str za),.d (.str zb),.d (Q7 zvs),.d (.sl (zxs.map Tm.row)),.d (.sl (zcs.map Cs.row))]) [(1000,.blk 65 [.d (.int c1)])]] ?_ (hr:=by conv=>lhs;simp[Tm.row,Tm.Q3,Cs.Q3,q1,q2,q3]);refine AWp.dw [9] [.c [] [.ptr 1000 0,.agg [.d (.int yk),.d (.int yn),.d (.str ya),.d (.str yb),.d (Q7 yvs),.d (.sl (yxs.map Tm.row)),.d (.sl (ycs.map Cs.row))]] [(1000,.blk 65 [.d (.int c1)])] (.agg [.d (.int uk),.d (.int un),.d (.str ua),.d (.str ub),.d (Q7 uvs),.d (.sl (uxs.map Tm.row)),.d (.sl (ucs.map Cs.row))]) [(1000,.blk 65 [.d (.int c2)])]] mixed ?_ (hr:=by conv=>lhs;simp[Tm.row,Tm.Q3,Cs.Q3,q1,q2,q3]);refine AWp.ret ?_;try dsimp only[Qq,Q8]
  apply Zw.ret
  ·rfl
  ·conv=>lhs;simp[Qz,Tryd.results32]
  ·first|rfl|simp[Zz,Xj,Tm.row,Tm.Q3,Cs.Q3,AV.X7,Jq,Q7]
  ·simp[Zx,Q5]
 refine AWp.rg [] [] ?_ (hr:=by conv=>lhs;simp[Tm.row,Tm.Q3,Cs.Q3,q1,q2,q3,q4]);refine AWp.cn ?_;by_cases q5:tk=7
 ·refine AWp.rg [] [] ?_ (hr:=by conv=>lhs;simp[Tm.row,Tm.Q3,Cs.Q3,q1,q2,q3,q4,q5]);refine AWp.cy ?_;subst q5;rw[Tm.pl,if_neg (by omega),if_neg (by omega),if_pos rfl]at hR;have hat:=cs_atoms N ih txs c (by omega) (fun x hx=>⟨hxR x hx,hxO x hx⟩);have hbl:=E9 txs c;generalize Tm.ats txs c=o at hat hR hbl;obtain⟨vs,bs,c2⟩:=o;dsimp only at hat hR hbl;refine AWp.rg [] [.c [] [.ptr 1000 0,.d (.sl (txs.map Tm.row))] [(1000,.blk 65 [.d (.int c)])] (.tuple [.d (.sl (vs.map Tm.row)),.d (.sl (bs.map bsR))]) [(1000,.blk 65 [.d (.int c2)])]] ?_ (hr:=by conv=>lhs;simp[Tm.row,Tm.Q3,Cs.Q3,q1,q2,q3,q4]);refine AWp.rg [] [] ?_ (hr:=by conv=>lhs;simp[Tm.row,Tm.Q3,Cs.Q3,q1,q2,q3,q4]);refine AWp.rg [] [] ?_ (hr:=by conv=>lhs;simp[Tm.row,Tm.Q3,Cs.Q3,q1,q2,q3,q4]);repeat (first|refine AWp.seq ?_|refine AWp.block ?_)
  refine AWp.le (Le.low [400] [] (fr:=[(0,.ptr 1000 0),(4,.ptr 4 0),(9,.d (.sl (bs.map bsR))),(10,.ptr 10 0),(67,.d (.sl (tcs.map Cs.row))),(68,.d (.int (tcs.length:Int))),(69,.d (.int (0:Int)))]) (mem:=[(4,some (.blk 32 [.d (.int 0),.d (.int 0),.d (.str ByteArray.empty),.d (.str ByteArray.empty),.lit (.slice none 0 0),.lit (.slice none 0 0),.lit (.slice none 0 0)])),(10,some (.blk 32 [.d (.int 7),.d (.int 0),.d (.str ByteArray.empty),.d (.str ByteArray.empty),.lit (.slice none 0 0),.d (.sl (vs.map Tm.row)),.arr 400 0 ([]:List Cs).length])),(400,some (.arr 42 9 (([]:List Cs).map Cs.row))),(1000,some (.blk 65 [.d (.int (c2:Int))]))]) rfl (by simp) (by simp)) ?_;refine AWp.loop (σ:=fun u:{u:Nat×List Cs×Int // u.1≤tcs.length∧(Cs.plL tcs c2=(u.2.1++(Cs.plL (tcs.drop u.1) u.2.2).1,(Cs.plL (tcs.drop u.1) u.2.2).2)∧u.2.1.length=u.1)}=>⟨92,[(0,.ptr 1000 0),(4,.ptr 4 0),(9,.d (.sl (bs.map bsR))),(10,.ptr 10 0),(67,.d (.sl (tcs.map Cs.row))),(68,.d (.int (tcs.length:Int))),(69,.d (.int (u.1.1:Int)))],[(4,some (.blk 32 [.d (.int 0),.d (.int 0),.d (.str ByteArray.empty),.d (.str ByteArray.empty),.lit (.slice none 0 0),.lit (.slice none 0 0),.lit (.slice none 0 0)])),(10,some (.blk 32 [.d (.int 7),.d (.int 0),.d (.str ByteArray.empty),.d (.str ByteArray.empty),.lit (.slice none 0 0),.d (.sl (vs.map Tm.row)),.arr 400 0 u.1.2.1.length])),(400,some (.arr 42 9 (u.1.2.1.map Cs.row))),(1000,some (.blk 65 [.d (.int u.1.2.2)]))]⟩)
   (μ:=fun u=>tcs.length-u.1.1) ⟨(0,[],c2),⟨Nat.zero_le _,⟨by simp,rfl⟩⟩⟩ (Le.sub (by simp) (by simp)) (fun⟨(i,ds,c3),⟨hi14,hw⟩⟩=>?_)
  dsimp only at hi14 hw⊢;refine AWp.rg [] [] ?_ (hr:=by conv=>lhs;simp[Tm.row,Tm.Q3,Cs.Q3,q1,q2,q3,q4]);repeat (first|refine AWp.seq ?_|refine AWp.block ?_)
  refine AWp.cond rfl (fun hc=>?_) (fun hc=>?_)
  ·have hi1:i<tcs.length:=by have:=of_decide_eq_true hc;omega
   clear hc;have h1d:tcs[i]? =some tcs[i]:=List.getElem?_eq_getElem hi1;have hmd:tcs[i]∈tcs:=List.getElem_mem hi1;have hdd:tcs.drop i=tcs[i]::tcs.drop (i+1):=List.drop_eq_getElem_cons hi1;generalize tcs[i]=d at h1d hmd hdd;obtain⟨hap,hdl⟩:=hw;rw[hdd,Cs.plL]at hap;obtain⟨hyR,hyO⟩:=hcR d hmd;obtain⟨dt,dws,y⟩:=d;try dsimp only at hyR hyO
   rw[Cs.pl]at hap;have hx:=ih y c3 hyR hyO;generalize y.pl c3=o at hx hap;obtain⟨z,c4⟩:=o;dsimp only at hx hap;obtain⟨dk,dn,da,db,dvs,dxs,dcs⟩:=y;obtain⟨zk,zn,za,zb,zvs,zxs,zcs⟩:=z;refine AWp.skip ?_;refine AWp.rg [] [] ?_ (hr:=by conv=>lhs;simp[Tm.row,Tm.Q3,Cs.Q3,h1d,Cs.row,q1,q2,q3,q4]);refine AWp.dw [] [.c [] [.ptr 1000 0,.agg [.d (.int dk),.d (.int dn),.d (.str da),.d (.str db),.d (Q7 dvs),.d (.sl (dxs.map Tm.row)),.d (.sl (dcs.map Cs.row))]] [(1000,.blk 65 [.d (.int c3)])] (.agg [.d (.int zk),.d (.int zn),.d (.str za),.d (.str zb),.d (Q7 zvs),.d (.sl (zxs.map Tm.row)),.d (.sl (zcs.map Cs.row))]) [(1000,.blk 65 [.d (.int c4)])]] mixed ?_ (hr:=by conv=>lhs;simp[Tm.row,Tm.Q3,Cs.Q3,h1d,Cs.row,q1,q2,q3,q4]);refine AWp.rg [] [] ?_ (hr:=by conv=>lhs;simp[Tm.row,Tm.Q3,Cs.Q3,h1d,Cs.row,q1,q2,q3,q4]);refine⟨⟨(i+1,ds++[.mk dt dws (.mk zk zn za zb zvs zxs zcs)],c4),hi1,⟨by rw[hap];simp,by simp[hdl]⟩⟩,by simp;omega,?_⟩;dsimp only;exact Le.sub (by simp[Cs.row,Tm.row,Tm.Q3,Cs.Q3,hdl]) (by simp[Cs.row,Tm.row,Tm.Q3,Cs.Q3,hdl])
  have hi1:i=tcs.length:=by have:=of_decide_eq_false hc;omega
  subst hi1;clear hc;obtain⟨hap,hdl⟩:=hw;rw[List.drop_length,Cs.plL]at hap;simp only[List.append_nil]at hap;rw[hap]at hR;try dsimp only at hR
  have har:=sp_around bs 7 0 .empty .empty [] vs ds (by omega);generalize around bs (.mk 7 0 .empty .empty [] vs ds)=z at har hR;subst hR;obtain⟨zk,zn,za,zb,zvs,zxs,zcs⟩:=z;replace har:=Qv.nilArgs (args:=[.d (.sl (bs.map bsR)),.agg [.d (.int 7),.d (.int 0),.d (.str .empty),.d (.str .empty),.lit (.slice none 0 0),.d (.sl (vs.map Tm.row)),.d (.sl (ds.map Cs.row))]]) har;have htk:List.take tcs.length (List.map Cs.row ds)=List.map Cs.row ds:=List.take_of_length_le (by simp;omega);refine AWp.exit ?_;apply AWp.D9 [400]
  ·conv=>lhs;simp
  refine AWp.rg [] [.p (fun _=>.agg [.d (.int zk),.d (.int zn),.d (.str za),.d (.str zb),.d (Q7 zvs),.d (.sl (zxs.map Tm.row)),.d (.sl (zcs.map Cs.row))]) none] ?_ (hr:=by conv=>lhs;simp[Tm.row,Tm.Q3,Cs.Q3,htk,q1,q2,q3,q4]);refine AWp.ret ?_;try dsimp only[Qq,Q8]
  apply Zw.ret
  ·rfl
  ·conv=>lhs;simp[Qz,Tryd.results32]
  ·first|rfl|simp[Zz,Xj,Tm.row,Tm.Q3,Cs.Q3,AV.X7,Jq,Q7]
  ·simp[Zx,Q5]
 refine AWp.rg [] [] ?_ (hr:=by conv=>lhs;simp[Tm.row,Tm.Q3,Cs.Q3,q1,q2,q3,q4,q5]);refine AWp.cn ?_;refine AWp.skip ?_;obtain rfl:R=(.mk tk tn ta tb tvs txs tcs,c):=by rw[hR,Tm.pl,if_neg (by omega),if_neg (by omega),if_neg (by omega)]
 refine AWp.rg [] [] ?_ (hr:=by conv=>lhs;simp[Tm.row,Tm.Q3,Cs.Q3,q1,q2,q3,q4,q5]);refine AWp.ret ?_;try dsimp only[Qq,Q8]
 apply Zw.ret
 ·rfl
 ·conv=>lhs;simp[Qz,Tryd.results32]
 ·first|rfl|simp[Zz,Xj,Tm.row,Tm.Q3,Cs.Q3,AV.X7,Jq,Q7]
 ·simp[Zx,Q5]
theorem wt_all:∀N,WtN N
 |0=>fun _ _ h=>h.elim
 |N+1=>wt_step N (wt_all N)
theorem Fn.rn_rt (f:Fn) (hr:f.body.Rt 25):f.rn.body.Rt 25:=Go.Proofs.YtlbcipohiepjmaaDoor.rn_rt 25 f.body _ _ hr
theorem sp_Plain (f:Fn) (hb:f.body.Ok) (hr:f.body.Rt 25) (hp:f.params.length≤6):Qv Tryd.prog 19 [Wz f] (fun _=>Wz f.pl) none:=by
 have hn:=sp_Named f hb hr hp;have hx:=wt_all 25 f.rn.body 0 (f.rn_rt hr) (f.rn_ok hb hr);unfold Fn.pl;generalize f.rn=g at hn hx⊢;obtain⟨gg,gps,gy⟩:=g;dsimp only at hx⊢;generalize gy.pl 0=o at hx⊢;obtain⟨z,c2⟩:=o;dsimp only at hx⊢;obtain⟨fg,fps,⟨fk,fn,fa,fb,fvs,fxs,fcs⟩⟩:=f;obtain⟨gk,gn,ga,gb,gvs,gxs,gcs⟩:=gy;obtain⟨zk,zn,za,zb,zvs,zxs,zcs⟩:=z;dsimp only[Wz]at hn;refine Qv.of Tryd.func19 rfl rfl rfl (Nat.le_of_ble_eq_true rfl) ?_;show AWp _ _ (Z5 _ Tryd.f19 _ _ _) (Qw 13 _);refine AWp.rg [] [] ?_ (hr:=by conv=>lhs;simp[Wz,Fn.row,Tm.row,Tm.Q3,Cs.Q3]);refine AWp.rg [] [.p (fun _=>.agg [.d (.str gg),.d (Q7 gps),.d (.int gk),.d (.int gn),.d (.str ga),.d (.str gb),.d (Q7 gvs),.d (.sl (gxs.map Tm.row)),.d (.sl (gcs.map Cs.row))]) none] ?_ (hr:=by conv=>lhs;simp[Wz,Fn.row,Tm.row,Tm.Q3,Cs.Q3]);refine AWp.rg [] [.c [(1000,7)] [.ptr 1000 0,.agg [.d (.int gk),.d (.int gn),.d (.str ga),.d (.str gb),.d (Q7 gvs),.d (.sl (gxs.map Tm.row)),.d (.sl (gcs.map Cs.row))]] [(1000,.blk 65 [.d (.int 0)])] (.agg [.d (.int zk),.d (.int zn),.d (.str za),.d (.str zb),.d (Q7 zvs),.d (.sl (zxs.map Tm.row)),.d (.sl (zcs.map Cs.row))]) [(1000,.blk 65 [.d (.int c2)])]] ?_ (hr:=by conv=>lhs;simp[Wz,Fn.row,Tm.row,Tm.Q3,Cs.Q3]);refine AWp.rg [] [] ?_ (hr:=by conv=>lhs;simp[Wz,Fn.row,Tm.row,Tm.Q3,Cs.Q3]);refine AWp.ret ?_;try dsimp only[Qq,Q8]
 apply Z5.ret
 ·rfl
 ·conv=>lhs;simp[Qz,Tryd.results19]
 rfl
theorem sp_EachPlain (l:List Fn) (hl:l.length≤879609302220) (hall:∀f∈l,f.body.Ok∧f.body.Rt 25∧f.params.length≤6):Qv Tryd.prog 18 [W9 l,.d (.fn 19)] (fun _=>W9 (l.map Fn.pl)) none:=by
 obtain⟨G,hG⟩:∃G,G=l.map Fn.pl:=⟨_,rfl⟩
 rw[←hG];refine Qv.of Tryd.func18 rfl rfl rfl (Nat.le_of_ble_eq_true rfl) ?_;show AWp _ _ (Z5 _ Tryd.f18 _ _ _) (Qw 22 _);refine AWp.rg [] [] ?_ (hr:=by conv=>lhs;simp[Fn.row,Tm.row,Tm.Q3,Cs.Q3]);refine AWp.rg [] [] ?_ (hr:=by conv=>lhs;simp[Fn.row,Tm.row,Tm.Q3,Cs.Q3]);refine AWp.rg [] [] ?_ (hr:=by conv=>lhs;simp[Fn.row,Tm.row,Tm.Q3,Cs.Q3]);repeat (first|refine AWp.seq ?_|refine AWp.block ?_)
 refine AWp.le (Le.low [400] [] (fr:=[(1,.d (.fn 19)),(5,.arr 400 0 ([]:List Fn).length),(8,.d (.sl (l.map Fn.row))),(9,.d (.int (l.length:Int))),(10,.d (.int (0:Int)))]) (mem:=[(400,some (.arr 34 9 (([]:List Fn).map Fn.row)))]) rfl (by simp) (by simp)) ?_;refine AWp.loop (σ:=fun u:{u:Nat×List Fn // u.1≤l.length∧u.2=(l.take u.1).map Fn.pl}=>⟨22,[(1,.d (.fn 19)),(5,.arr 400 0 u.1.2.length),(8,.d (.sl (l.map Fn.row))),(9,.d (.int (l.length:Int))),(10,.d (.int (u.1.1:Int)))],[(400,some (.arr 34 9 (u.1.2.map Fn.row)))]⟩)
  (μ:=fun u=>l.length-u.1.1) ⟨(0,[]),⟨Nat.zero_le _,by simp⟩⟩ (Le.sub (by simp) (by simp)) (fun⟨(i,gs),⟨hi3,hw⟩⟩=>?_)
 dsimp only at hi3 hw⊢;refine AWp.rg [] [] ?_ (hr:=by conv=>lhs;simp[Fn.row,Tm.row,Tm.Q3,Cs.Q3]);repeat (first|refine AWp.seq ?_|refine AWp.block ?_)
 refine AWp.cond rfl (fun hc=>?_) (fun hc=>?_)
 ·have hi1:i<l.length:=by have:=of_decide_eq_true hc;omega
  clear hc;have h1f:l[i]? =some l[i]:=List.getElem?_eq_getElem hi1;have hmf:l[i]∈l:=List.getElem_mem hi1;have hdf:l.drop i=l[i]::l.drop (i+1):=List.drop_eq_getElem_cons hi1;generalize l[i]=f at h1f hmf hdf;have hgl:gs.length=i:=by rw[hw,List.length_map,List.length_take];omega
  obtain⟨k1,k2,k3⟩:=hall f hmf;have hx:=sp_Plain f k1 k2 k3;generalize hz:f.pl=z at hx;obtain⟨fg,fps,⟨fk,fn,fa,fb,fvs,fxs,fcs⟩⟩:=f;obtain⟨zg,zps,⟨zk,zn,za,zb,zvs,zxs,zcs⟩⟩:=z;dsimp only[Wz]at hx;refine AWp.skip ?_;refine AWp.rg [] [] ?_ (hr:=by conv=>lhs;simp[Fn.row,Tm.row,Tm.Q3,Cs.Q3,h1f]);refine AWp.rg [] [.p (fun _=>.agg [.d (.str zg),.d (Q7 zps),.d (.int zk),.d (.int zn),.d (.str za),.d (.str zb),.d (Q7 zvs),.d (.sl (zxs.map Tm.row)),.d (.sl (zcs.map Cs.row))]) none] ?_ (hr:=by conv=>lhs;simp[Fn.row,Tm.row,Tm.Q3,Cs.Q3,h1f]);refine AWp.rg [] [] ?_ (hr:=by conv=>lhs;simp[Fn.row,Tm.row,Tm.Q3,Cs.Q3,h1f]);refine⟨⟨(i+1,gs++[⟨zg,zps,.mk zk zn za zb zvs zxs zcs⟩]),hi1,by rw[hw,List.take_add_one,h1f,List.map_append,←hz];rfl⟩,by simp;omega,?_⟩;dsimp only;exact Le.sub (by simp[Fn.row,Tm.row,Tm.Q3,Cs.Q3,hgl]) (by simp[Fn.row,Tm.row,Tm.Q3,Cs.Q3,hgl])
 have hi1:i=l.length:=by have:=of_decide_eq_false hc;omega
 subst hi1;clear hc;rw[List.take_length]at hw;obtain rfl:gs=G:=by rw[hw,hG]
 refine AWp.exit ?_;refine AWp.rg [] [] ?_ (hr:=by conv=>lhs;simp[Fn.row,Tm.row,Tm.Q3,Cs.Q3]);refine AWp.ret ?_;try dsimp only[Qq,Q8]
 apply Z5.retF [400]
 ·rfl
 ·conv=>lhs;simp
 ·conv=>lhs;simp[Qz,Tryd.results18]
 rfl
end Go.Proofs.YtlbcipohiepjmaaDoor
namespace Go.Proofs.YtlbcipohiepjmaaDoor
open Go.RowKit
theorem around_ok:∀(bs:Bs) (t:Tm),(∀b∈bs,b.1.size≤140737488355328∧b.2.Ok)→t.Ok→(around bs t).Ok
 |[],_,_,h=>h
 |b::r,t,hb,h=>by
  have h1:=around_ok r t (fun x hx=>hb x (List.mem_cons_of_mem _ hx)) h;obtain⟨h2,h3⟩:=hb b (List.mem_cons_self ..);exact⟨⟨h2,by simp,by simp⟩,⟨by simp,by simp,by simp⟩,⟨h3,h1,trivial⟩,trivial⟩
theorem varT_ok {s:ByteArray} (h:s.size≤140737488355328):(varT s).Ok:=
 ⟨⟨h,by simp,by simp⟩,⟨by simp,by simp,by simp⟩,trivial,trivial⟩
theorem pl_ok:∀(d:Nat) (t:Tm) (c:Int),t.Rt d→t.Ok→(t.pl c).1.Ok:=by
 intro d;induction d with
 |zero=>intro t _ h;exact h.elim
 |succ d ih=>
 intro t c hR hO;obtain⟨k,n,a,b,vs,xs,cs⟩:=t;obtain⟨_,_,_,hx,hc⟩:=hR;obtain⟨⟨o1,o2,o3⟩,⟨o4,o5,o6⟩,o7,o8⟩:=hO;have o7':=Tm.Zk.1 o7;have o8':=Cs.Zk.1 o8;have hA:∀(ys:List Tm) (c:Int),(∀y∈ys,y∈xs)→Tm.Oks (Tm.ats ys c).1∧∀b∈(Tm.ats ys c).2.1,b.1.size≤140737488355328∧b.2.Ok:=by
  intro ys;induction ys with
  |nil=>intro c _;exact⟨trivial,fun b h=>by simp[Tm.ats]at h⟩
  |cons y r ih2=>
   intro c hm;have hy:=hm y (List.mem_cons_self ..);rw[Tm.ats];split
   ·obtain⟨h1,h2⟩:=ih2 c fun z hz=>hm z (List.mem_cons_of_mem _ hz)
    exact⟨⟨o7' y hy,h1⟩,h2⟩
   ·obtain⟨h1,h2⟩:=ih2 (y.pl (wr (c+1))).2 fun z hz=>hm z (List.mem_cons_of_mem _ hz)
    refine⟨⟨varT_ok (wNm_le _),h1⟩,fun b hb=>?_⟩;rcases List.mem_cons.1 hb with rfl|hb
    ·exact⟨wNm_le _,ih y _ (hx y hy) (o7' y hy)⟩
    ·exact h2 b hb
 have hL:∀(ys:List Tm) (c:Int),(∀y∈ys,y∈xs)→Tm.Oks (Tm.plL ys c).1∧(Tm.plL ys c).1.length=ys.length:=by
  intro ys;induction ys with
  |nil=>intro c _;exact⟨trivial,rfl⟩
  |cons y r ih2=>
   intro c hm;have hy:=hm y (List.mem_cons_self ..);obtain⟨h1,h2⟩:=ih2 (y.pl c).2 fun z hz=>hm z (List.mem_cons_of_mem _ hz)
   rw[Tm.plL];exact⟨⟨ih y c (hx y hy) (o7' y hy),h1⟩,by simp[h2]⟩
 have hC:∀(ys:List Cs) (c:Int),(∀y∈ys,y∈cs)→Cs.Oks (Cs.plL ys c).1∧(Cs.plL ys c).1.length=ys.length:=by
  intro ys;induction ys with
  |nil=>intro c _;exact⟨trivial,rfl⟩
  |cons y r ih2=>
   intro c hm;have hy:=hm y (List.mem_cons_self ..);obtain⟨h1,h2⟩:=ih2 (y.pl c).2 fun z hz=>hm z (List.mem_cons_of_mem _ hz)
   obtain⟨t,ws,y⟩:=y;obtain⟨_,hyR⟩:=hc _ hy;obtain⟨p1,p2,p3⟩:=o8' _ hy;rw[Cs.plL];rw[Cs.pl]at h1 h2⊢;exact⟨⟨⟨p1,p2,ih y c hyR p3⟩,h1⟩,by simp[h2]⟩
 rw[Tm.pl];split
 ·obtain⟨h1,h2⟩:=hA xs c fun y hy=>hy
  refine around_ok _ _ h2 ⟨⟨o1,by simp,by simp⟩,⟨by simp,by rw[ats_len];exact o5,by simp⟩,h1,trivial⟩
 split
 ·obtain⟨h1,h2⟩:=hL xs c fun y hy=>hy
  exact⟨⟨o1,by simp,by simp⟩,⟨by simp,by rw[h2];exact o5,by simp⟩,h1,trivial⟩
 split
 ·obtain⟨h1,h2⟩:=hA xs c fun y hy=>hy
  obtain⟨h3,h4⟩:=hC cs (Tm.ats xs c).2.2 fun y hy=>hy
  exact around_ok _ _ h2 ⟨⟨by simp,by simp,by simp⟩,⟨by simp,by rw[ats_len];exact o5,by rw[h4];exact o6⟩,h1,h3⟩
 ·exact⟨⟨o1,o2,o3⟩,⟨o4,o5,o6⟩,o7,o8⟩
theorem Fn.pl_ok (f:Fn) (hb:f.body.Ok) (hr:f.body.Rt 25) (hp:f.params.length≤6):f.pl.body.Ok∧f.pl.params.length≤6:=
 ⟨Go.Proofs.YtlbcipohiepjmaaDoor.pl_ok 25 _ 0 (f.rn_rt hr) (f.rn_ok hb hr),by unfold Fn.pl Fn.rn;dsimp only;rw[Vw];exact hp⟩
mutual
def Tm.isP:Tm→Bool
 | .mk k _ _ _ _ xs cs=>Tm.isL k xs && Cs.isL cs
def Tm.isL (k:Int):List Tm→Bool
 |[]=>true
 |x::r=>(if k=6 then x.isP else decide (x.tk=1)) && Tm.isL k r
def Cs.isL:List Cs→Bool
 |[]=>true
 |c::r=>c.isP && Cs.isL r
def Cs.isP:Cs→Bool
 | .mk _ _ y=>y.isP
end
def Tm.xs:Tm→List Tm
 | .mk _ _ _ _ _ xs _=>xs
def Tm.a0 (t:Tm):Tm:=t.xs.headD t
mutual
def Tm.sr:Tm→List ByteArray→List ByteArray×Tm
 | .mk k n a b vs xs cs,rest=>if k=8∧hasB rest a=true then Tm.srL xs (woN rest [a]) (.mk k n a b vs xs cs)else (rest,.mk k n a b vs xs cs)
def Tm.srL:List Tm→List ByteArray→Tm→List ByteArray×Tm
 |[],rest,t=>(rest,t)
 |x::_,rest,_=>x.sr rest
end
def Wv (k:Int) (na:Nat) (nm:ByteArray) (ws:List ByteArray) (body:Tm):Tm:=
 if ws.length≠0∧na=1∧k=7∧(body.sr ws).2.tk=9∧(body.sr ws).2.nm=nm then .mk 10 0 nm .empty ws [cnt 9 (body.sr ws).1 (body.sr ws).2.a0] []else body
mutual
def Tm.fu:Tm→Tm
 | .mk k n a b vs xs cs=>.mk k n a b vs (Tm.fuL xs) (Cs.fuL k xs.length (nmH xs) cs)
def Tm.fuL:List Tm→List Tm
 |[]=>[]
 |x::r=>x.fu::Tm.fuL r
def Cs.fuL (k:Int) (na:Nat) (nm:ByteArray):List Cs→List Cs
 |[]=>[]
 |c::r=>c.fu k na nm::Cs.fuL k na nm r
def Cs.fu (k:Int) (na:Nat) (nm:ByteArray):Cs→Cs
 | .mk t ws y=>.mk t ws (Wv k na nm ws y.fu)
end
theorem Tm.Bq:∀l:List Tm,Tm.fuL l=l.map Tm.fu
 |[]=>rfl
 |x::r=>by rw[Tm.fuL,Tm.Bq r];rfl
theorem Cs.Bq (k:Int) (na:Nat) (nm:ByteArray):∀l:List Cs,Cs.fuL k na nm l=l.map (Cs.fu k na nm)
 |[]=>rfl
 |x::r=>by rw[Cs.fuL,Cs.Bq k na nm r];rfl
theorem Tm.fu_nm (t:Tm):t.fu.nm=t.nm:=by
 obtain⟨k,n,a,b,vs,xs,cs⟩:=t;rw[Tm.fu];rfl
def Fn.fu (f:Fn):Fn:=⟨f.name,f.params,f.body.fu⟩
mutual
def Tm.Du:Tm→Prop
 | .mk k _ _ _ _ xs cs=>(k=8∨k=9→xs≠[])∧Tm.DuL xs∧Cs.DuL cs
def Tm.DuL:List Tm→Prop
 |[]=>True
 |x::r=>x.Du∧Tm.DuL r
def Cs.DuL:List Cs→Prop
 |[]=>True
 |c::r=>c.Du∧Cs.DuL r
def Cs.Du:Cs→Prop
 | .mk _ ws y=>ws.length≤6∧y.Du
end
theorem Tm.Qe:∀{l:List Tm},Tm.DuL l↔∀x∈l,x.Du
 |[]=>by simp[Tm.DuL]
 |x::r=>by simp[Tm.DuL,Tm.Qe (l:=r)]
theorem Cs.Qe:∀{l:List Cs},Cs.DuL l↔∀x∈l,x.Du
 |[]=>by simp[Cs.DuL]
 |x::r=>by simp[Cs.DuL,Cs.Qe (l:=r)]
theorem Tm.Du.a0 {t:Tm} (h:t.Du):t.a0.Du:=by
 obtain⟨k,n,a,b,vs,xs,cs⟩:=t;unfold Tm.a0 Tm.xs;rcases xs with _|⟨x,r⟩
 ·exact h
 ·exact h.2.1.1
theorem cnt_du {k:Int}:∀(l:List ByteArray) {t:Tm},t.Du→(cnt k l t).Du
 |[],_,h=>h
 |s::r,t,h=>⟨fun _=>by simp,⟨cnt_du r h,trivial⟩,trivial⟩
theorem cnt_ok {k:Int}:∀(l:List ByteArray) {t:Tm},(∀s∈l,s.size≤140737488355328)→t.Ok→(cnt k l t).Ok
 |[],_,_,h=>h
 |s::r,t,hl,h=>⟨⟨hl s (List.mem_cons_self ..),by simp,by simp⟩,⟨by simp,by simp,by simp⟩,⟨cnt_ok r (fun x hx=>hl x (List.mem_cons_of_mem _ hx)) h,trivial⟩,trivial⟩
theorem Tm.Ok.a0 {t:Tm} (h:t.Ok):t.a0.Ok:=by
 obtain⟨k,n,a,b,vs,xs,cs⟩:=t;unfold Tm.a0 Tm.xs;rcases xs with _|⟨x,r⟩
 ·exact h
 ·exact h.2.2.1.1
mutual
theorem Tm.sr_ok:∀(t:Tm) (rest:List ByteArray),t.Ok→t.Du→(t.sr rest).2.Ok∧(t.sr rest).2.Du∧∀s∈(t.sr rest).1,s∈rest
 | .mk k n a b vs xs cs,rest,h,hd=>by
  rw[Tm.sr];split
  ·obtain⟨h1,h2,h3⟩:=Tm.srL_ok xs (woN rest [a]) (.mk k n a b vs xs cs) h hd h.2.2.1 hd.2.1;exact⟨h1,h2,fun s hs=>(List.mem_filter.1 (h3 s hs)).1⟩
  ·exact⟨h,hd,fun s hs=>hs⟩
theorem Tm.srL_ok:∀(l:List Tm) (rest:List ByteArray) (t:Tm),t.Ok→t.Du→Tm.Oks l→Tm.DuL l→(Tm.srL l rest t).2.Ok∧(Tm.srL l rest t).2.Du∧∀s∈(Tm.srL l rest t).1,s∈rest
 |[],rest,t,h,hd,_,_=>by rw[Tm.srL];exact⟨h,hd,fun s hs=>hs⟩
 |x::r,rest,t,_,_,h,hd=>by rw[Tm.srL];exact Tm.sr_ok x rest h.1 hd.1
end
theorem fuOne_ok {k:Int} {na:Nat} {nm:ByteArray} {ws:List ByteArray} {y:Tm} (h:y.Ok) (hd:y.Du) (hn:nm.size≤140737488355328) (hw:∀s∈ws,s.size≤140737488355328) (hwl:ws.length≤8796093022207):(Wv k na nm ws y).Ok∧(Wv k na nm ws y).Du:=by
 obtain⟨h1,h2,h3⟩:=Tm.sr_ok y ws h hd;unfold Wv;split
 ·exact⟨⟨⟨hn,by simp,hw⟩,⟨hwl,by simp,by simp⟩,⟨cnt_ok _ (fun s hs=>hw s (h3 s hs)) h1.a0,trivial⟩,trivial⟩,⟨fun _=>by simp,⟨cnt_du _ h2.a0,trivial⟩,trivial⟩⟩
 ·exact⟨h,hd⟩
theorem nmH_le {l:List Tm} (h:Tm.Oks l):(nmH l).size≤140737488355328:=by
 rcases l with _|⟨x,r⟩
 ·simp[nmH]
 ·exact h.1.nm
mutual
theorem Tm.fu_ok:∀(t:Tm),t.Ok→t.Du→t.fu.Ok∧t.fu.Du
 | .mk k n a b vs xs cs,h,hd=>by
  rw[Tm.fu];obtain⟨h1,h2,h3⟩:=Tm.fuL_ok xs h.2.2.1 hd.2.1;obtain⟨h4,h5,h6⟩:=Cs.fuL_ok k xs.length (nmH xs) (nmH_le h.2.2.1) cs h.2.2.2 hd.2.2;refine⟨⟨h.1,⟨h.2.1.1,by rw[h3];exact h.2.1.2.1,by rw[h6];exact h.2.1.2.2⟩,h1,h4⟩,fun hk e=>?_,h2,h5⟩;have:=hd.1 hk;rcases xs with _|⟨x,r⟩
  ·exact this rfl
  ·rw[Tm.fuL]at e;cases e
theorem Tm.fuL_ok:∀(l:List Tm),Tm.Oks l→Tm.DuL l→Tm.Oks (Tm.fuL l)∧Tm.DuL (Tm.fuL l)∧(Tm.fuL l).length=l.length
 |[],_,_=>by rw[Tm.fuL];exact⟨trivial,trivial,rfl⟩
 |x::r,h,hd=>by
  obtain⟨h1,h2⟩:=Tm.fu_ok x h.1 hd.1;obtain⟨h3,h4,h5⟩:=Tm.fuL_ok r h.2 hd.2;rw[Tm.fuL];exact⟨⟨h1,h3⟩,⟨h2,h4⟩,by simp[h5]⟩
theorem Cs.fuL_ok (k:Int) (na:Nat) (nm:ByteArray) (hn:nm.size≤140737488355328):∀(l:List Cs),Cs.Oks l→Cs.DuL l→Cs.Oks (Cs.fuL k na nm l)∧Cs.DuL (Cs.fuL k na nm l)∧(Cs.fuL k na nm l).length=l.length
 |[],_,_=>by rw[Cs.fuL];exact⟨trivial,trivial,rfl⟩
 |x::r,h,hd=>by
  obtain⟨h1,h2⟩:=Cs.fu_ok k na nm hn x h.1 hd.1;obtain⟨h3,h4,h5⟩:=Cs.fuL_ok k na nm hn r h.2 hd.2;rw[Cs.fuL];exact⟨⟨h1,h3⟩,⟨h2,h4⟩,by simp[h5]⟩
theorem Cs.fu_ok (k:Int) (na:Nat) (nm:ByteArray) (hn:nm.size≤140737488355328):∀(c:Cs),c.Ok→c.Du→(c.fu k na nm).Ok∧(c.fu k na nm).Du
 | .mk t ws y,h,hd=>by
  obtain⟨h1,h2⟩:=Tm.fu_ok y h.2.2 hd.2;obtain⟨h3,h4⟩:=fuOne_ok (k:=k) (na:=na) (nm:=nm) h1 h2 hn h.1 h.2.1;rw[Cs.fu];exact⟨⟨h.1,h.2.1,h3⟩,hd.1,h4⟩
end
theorem ow_ok:∀(d:Nat) (t:Tm) (has:List ByteArray),t.Rt d→t.Ok→(∀s∈has,s.size≤140737488355328)→(t.ow has).Ok∧(t.ow has).Du:=by
 intro d;induction d with
 |zero=>intro t _ h;exact h.elim
 |succ d ih=>
 intro t has hR hO hh;have hdu:∀t:Tm,∀d,t.Rt d→t.Du:=by
  intro t d;induction d generalizing t with
  |zero=>intro h;exact h.elim
  |succ d ih=>
   intro h;obtain⟨k,n,a,b,vs,xs,cs⟩:=t;obtain⟨h1,_,_,h2,h3⟩:=h;refine⟨fun hk=>by omega,Tm.Qe.2 fun x hx=>ih x (h2 x hx),Cs.Qe.2 fun c hc=>?_⟩;obtain⟨h4,h5⟩:=h3 c hc;obtain⟨t,ws,y⟩:=c;exact⟨h4,ih y h5⟩
 have hD:=hdu t _ hR;obtain⟨k,n,a,b,vs,xs,cs⟩:=t;obtain⟨hk,hmany,h6,hx,hc⟩:=hR;have hO':=hO;obtain⟨⟨o1,o2,o3⟩,⟨o4,o5,o6⟩,o7,o8⟩:=hO';have o7':=Tm.Zk.1 o7;have o8':=Cs.Zk.1 o8;rw[Tm.ow];generalize(Tm.mk k n a b vs xs cs).free=fr;have hG:∀s∈woN has fr,s.size≤140737488355328:=fun s hs=>hh s (List.mem_filter.1 hs).1
 have hI:∀s∈inN has fr,s.size≤140737488355328:=fun s hs=>hh s (List.mem_filter.1 hs).1
 generalize inN has fr=own at hI⊢
 suffices H:∀e:Tm,e.Ok→e.Du→(cnt 9 (woN has fr) e).Ok∧(cnt 9 (woN has fr) e).Du by
  split
  ·exact H _ (cnt_ok _ (fun s hs=>by
    obtain⟨x,hx,e⟩:=moreN_mem hs;rw[e];exact(o7' x hx).nm) hO) (cnt_du _ hD)
  split
  ·rename_i hk6;subst hk6;have hx2:xs.length=2∧cs=[]:=by
    unfold Zv at hmany;simp at hmany;exact hmany
   obtain⟨hx2,rfl⟩:=hx2;obtain⟨x,y,rfl⟩:∃x y,xs=[x,y]:=by
    rcases xs with _|⟨x,_|⟨y,_|⟨z,l⟩⟩⟩
    ·cases hx2
    ·cases hx2
    ·exact⟨x,y,rfl⟩
    ·simp at hx2
   rw[letD,letH,Tm.owZ,List.headD_cons,List.tail_cons,Tm.owZ,List.headD_cons,List.tail_cons,Tm.owZ];obtain⟨h1,h2⟩:=ih x (inN own x.free) (hx x (by simp)) (o7' x (by simp)) (fun s hs=>hI s (List.mem_filter.1 hs).1);obtain⟨h3,h4⟩:=ih y (inN own (woN y.free [a])++[a]) (hx y (by simp)) (o7' y (by simp)) (fun s hs=>(List.mem_append.1 hs).elim (fun h=>hI s (List.mem_filter.1 h).1) fun h=>by rw[List.mem_singleton.1 h];exact o1);exact H _ (cnt_ok _ (fun s hs=>hI s (List.mem_filter.1 (List.mem_filter.1 hs).1).1) ⟨⟨o1,by simp,by simp⟩,⟨by simp,by simp,by simp⟩,⟨h1,h3,trivial⟩,trivial⟩) (cnt_du _ ⟨fun h=>by omega,⟨h2,h4,trivial⟩,trivial⟩)
  split
  ·have hnm:=nmH_le o7;have hC:∀(l:List Cs),(∀c∈l,c∈cs)→Cs.Oks (Cs.owL l own (nmH xs))∧Cs.DuL (Cs.owL l own (nmH xs)):=by
    intro l;induction l with
    |nil=>intro _;exact⟨trivial,trivial⟩
    |cons c r ih2=>
     intro hm;have hcm:=hm c (List.mem_cons_self ..);obtain⟨g1,g2⟩:=ih2 fun z hz=>hm z (List.mem_cons_of_mem _ hz)
     obtain⟨t,ws,y⟩:=c;obtain⟨e1,e2⟩:=hc _ hcm;obtain⟨p1,p2,p3⟩:=o8' _ hcm;have hU:∀s∈inN ws y.free,s.size≤140737488355328:=fun s hs=>p1 s (List.mem_filter.1 hs).1
     have hH:∀s∈own++inN ws y.free,s.size≤140737488355328:=fun s hs=>(List.mem_append.1 hs).elim (hI s) (hU s)
     obtain⟨q1,q2⟩:=ih y (if hasB y.free (nmH xs)then own++inN ws y.free else woN (own++inN ws y.free) [nmH xs]) e2 p3 (fun s hs=>by
      split at hs
      ·exact hH s hs
      ·exact hH s (List.mem_filter.1 hs).1)
     rw[Cs.owL,Cs.ow];exact⟨⟨⟨p1,p2,cnt_ok _ hU (cnt_ok _ (fun s hs=>by split at hs<;> simp at hs;rw[hs];exact hnm) q1)⟩,g1⟩,⟨⟨e1,cnt_du _ (cnt_du _ q2)⟩,g2⟩⟩
   obtain⟨g1,g2⟩:=hC cs fun _ h=>h
   exact H _ ⟨⟨by simp,by simp,by simp⟩,⟨by simp,o5,by rw[Cs.owL_len];exact o6⟩,o7,g1⟩ ⟨fun h=>by omega,hD.2.1,g2⟩
  ·exact H _ hO hD
 exact fun e h1 h2=>⟨cnt_ok _ hG h1,cnt_du _ h2⟩
structure LS where
 ct:List (ByteArray×Int)
 inn:List (ByteArray×ByteArray)
 tk:List (ByteArray×Int)
def lkA {α:Type}:List (ByteArray×α)→ByteArray→Option α
 |[],_=>none
 |(k,v)::r,s=>if k=s then some v else lkA r s
def U1 {α:Type} (l:List (ByteArray×α)) (s:ByteArray) (v:α):List (ByteArray×α):=(s,v)::l.filter fun p=>decide (p.1≠s)
def delA {α:Type} (l:List (ByteArray×α)) (s:ByteArray):List (ByteArray×α):=l.filter fun p=>decide (p.1≠s)
def LS.c (s:LS) (n:ByteArray):Int:=(lkA s.ct n).getD 0
def LS.Ww (s:LS) (n:ByteArray):Int×LS:=match lkA s.ct n with
 |none=>(6,s)
 |some k=>if k<1 then (16,s)else (0,{ s with ct:=U1 s.ct n (k-1) })
def LS.left (s:LS):Bool:=s.ct.any (fun p=>decide (0<p.2))|| !s.tk.isEmpty
def LS.Bz (s:LS) (e:Int):Int:=if e=0∧s.left=true then 15 else e
def LS.R5 (s:LS):List Tm→Int×LS
 |[]=>(0,s)
 |x::r=>if x.tk≠1 then (2,s)else if (s.Ww x.nm).1≠0 then s.Ww x.nm else (s.Ww x.nm).2.R5 r
def LS.there (s:LS) (n:ByteArray):Bool:=decide (0<s.c n)||(match lkA s.inn n with|some up=>decide (0<s.c up)|none=>false)
def LS.inc (s:LS) (n:ByteArray):LS:={ s with ct:=U1 s.ct n (s.c n+1) }
def LS.U0 (s:LS) (nm:ByteArray):List ByteArray→Int×LS
 |[]=>(0,s)
 |v::r=>if (lkA s.inn v).getD .empty≠nm then (2,s)else (s.inc v).U0 nm r
def LS.Uk (s:LS) (nm:ByteArray) (vs:List ByteArray):Int×LS:=if (s.U0 nm vs).1≠0 then s.U0 nm vs else (s.U0 nm vs).2.Ww nm
def LS.D6 (s:LS) (nm:ByteArray):List ByteArray→Int×LS
 |[]=>(0,s)
 |v::r=>if (lkA s.ct v).isSome then (7,s)else ({ s with ct:=U1 s.ct v 0,inn:=U1 s.inn v nm }:LS).D6 nm r
def excl (b:ByteArray):ByteArray:=⟨#[33]⟩++b
mutual
def Tm.stN:Tm→List ByteArray
 | .mk k n a b vs xs cs=>(if k=1∨k=8∨k=9∨k=10∨k=11 then[a]else[])++(Tm.J9 xs++Cs.J9 cs)
def Tm.J9:List Tm→List ByteArray
 |[]=>[]
 |x::r=>x.stN++Tm.J9 r
def Cs.J9:List Cs→List ByteArray
 |[]=>[]
 |c::r=>c.stN++Cs.J9 r
def Cs.stN:Cs→List ByteArray
 | .mk t ws y=>y.stN
end
mutual
def Tm.stT:Tm→List ByteArray
 | .mk k n a b vs xs cs=>(if k=12∨k=13 then[b]else[])++(Tm.K8 xs++Cs.K8 cs)
def Tm.K8:List Tm→List ByteArray
 |[]=>[]
 |x::r=>x.stT++Tm.K8 r
def Cs.K8:List Cs→List ByteArray
 |[]=>[]
 |c::r=>c.stT++Cs.K8 r
def Cs.stT:Cs→List ByteArray
 | .mk t ws y=>y.stT
end
mutual
def Tm.Y7:Tm→List ByteArray
 | .mk k n a b vs xs cs=>(if k=6 then[a]else[])++((if k=11 then[excl b]else[])++(Tm.Jk xs++Cs.Jk cs))
def Tm.Jk:List Tm→List ByteArray
 |[]=>[]
 |x::r=>x.Y7++Tm.Jk r
def Cs.Jk:List Cs→List ByteArray
 |[]=>[]
 |c::r=>c.Y7++Cs.Jk r
def Cs.Y7:Cs→List ByteArray
 | .mk t ws y=>ws++y.Y7
end
def Tm.askN (t:Tm) (n:ByteArray):Bool:=hasB t.stN n && !hasB t.Y7 n
def Tm.askT (t:Tm) (b:ByteArray):Bool:=hasB t.stT b && !hasB t.Y7 (excl b)
def min1 (k:Int):Int:=if 1<k then 1 else k
def LS.fst (s:LS) (t:Tm):LS:=⟨(s.ct.filter fun p=>t.askN p.1).map fun p=>(p.1,min1 p.2),s.inn,s.tk.filter fun p=>t.askT p.1⟩
def LS.rst (s:LS) (t:Tm):LS:=⟨s.ct.map fun p=>(p.1,if t.askN p.1 then p.2-min1 p.2 else p.2),s.inn,s.tk.filter fun p=>!t.askT p.1⟩
def hdT0:List Tm→Tm
 |x::_=>x
 |[]=>.mk 0 0 .empty .empty [] [] []
mutual
def Tm.lin:Tm→LS→Int
 | .mk k n a b vs xs cs,s=>
  if k=1 then (s.Ww a).2.Bz (s.Ww a).1
  else if k=2 then s.Bz 0
  else if k=3∨k=4∨k=5 then (s.R5 xs).2.Bz (s.R5 xs).1
  else if k=12 then
   if (lkA s.tk b)≠some (xs.length:Int)then 6
   else (({ s with tk:=delA s.tk b }:LS).R5 xs).2.Bz (({ s with tk:=delA s.tk b }:LS).R5 xs).1
  else if k=6 then
   if xs.length≠2 then 2 else if (lkA s.ct a).isSome then 7
   else Tm.Sv xs [s.fst (hdT0 xs),{ s.rst (hdT0 xs)with ct:=U1 (s.rst (hdT0 xs)).ct a 1 }]
  else if k=7 then
   if xs.length≠1∨(hdT0 xs).tk≠1 then 2 else if s.c (hdT0 xs).nm<1 then 6 else Cs.Sv cs s (hdT0 xs).nm
  else if k=8∨k=9∨k=10∨k=11∨k=13 then
   if xs.length≠1 then 2
   else if k=8 then (if s.there a then Tm.Sv xs [s.inc a]else 6)
   else if k=9 then (if (s.Ww a).1≠0 then (s.Ww a).1 else Tm.Sv xs [(s.Ww a).2])
   else if k=13 then (if (lkA s.tk b).isSome then Tm.Sv xs [{ s with tk:=delA s.tk b }]else 6)
   else if (s.Uk a vs).1≠0 then (s.Uk a vs).1
   else if k=11 then (if (lkA s.tk b).isSome∨b= .empty then 7 else Tm.Sv xs [{ (s.Uk a vs).2 with tk:=U1 (s.Uk a vs).2.tk b (vs.length:Int) }])
   else Tm.Sv xs [(s.Uk a vs).2]
  else 1
def Tm.Sv:List Tm→List LS→Int
 |[],_=>0
 |x::r,ss=>if x.lin (ss.headD ⟨[],[],[]⟩)≠0 then x.lin (ss.headD ⟨[],[],[]⟩)else Tm.Sv r ss.tail
def Cs.Sv:List Cs→LS→ByteArray→Int
 |[],_,_=>0
 |c::r,s,nm=>if c.lin s nm≠0 then c.lin s nm else Cs.Sv r s nm
def Cs.lin:Cs→LS→ByteArray→Int
 | .mk t ws y,s,nm=>if (s.D6 nm ws).1≠0 then (s.D6 nm ws).1 else y.lin (s.D6 nm ws).2
end
def Fn.lin (f:Fn):Int:=if f.params.Nodup then f.body.lin ⟨f.params.map fun p=>(p,1),[],[]⟩else 7
section
variable {α:Type}
def KN (l:List (ByteArray×α)):Prop:=(l.map (·.1)).Nodup
theorem KN.nil:KN ([]:List (ByteArray×α)):=List.nodup_nil
theorem KN.filter {l:List (ByteArray×α)} (h:KN l) (p:ByteArray×α→Bool):KN (l.filter p):=by
 unfold KN at h⊢;exact(List.filter_sublist.map _).nodup h
theorem KN.put {l:List (ByteArray×α)} (h:KN l) (s:ByteArray) (v:α):KN (U1 l s v):=by
 unfold U1 KN;rw[List.map_cons,List.nodup_cons];refine⟨fun hm=>?_,h.filter _⟩;obtain⟨p,hp,e⟩:=List.mem_map.1 hm;have:=(List.mem_filter.1 hp).2;simp at this;exact this e
theorem U5 (q:ByteArray→Bool):∀(l:List (ByteArray×α)) (s:ByteArray),lkA (l.filter fun p=>q p.1) s=if q s then lkA l s else none
 |[],s=>by simp[lkA]
 |(k,v)::r,s=>by
  have ih:=U5 q r s;by_cases hk:q k=true
  ·rw[List.filter_cons_of_pos (by simpa using hk),lkA,lkA,ih];by_cases e:k=s
   ·subst e;rw[if_pos rfl,if_pos rfl,if_pos hk]
   ·rw[if_neg e,if_neg e]
  ·rw[List.filter_cons_of_neg (by simpa using hk),ih,lkA];by_cases e:k=s
   ·subst e;rw[if_neg hk,if_neg hk]
   ·rw[if_neg e]
theorem Kk (l:List (ByteArray×α)) (s:ByteArray) (v:α) (n:ByteArray):lkA (U1 l s v) n=if s=n then some v else lkA l n:=by
 unfold U1;rw[lkA,U5 (fun k=>decide (k≠s))];by_cases e:s=n
 ·rw[if_pos e,if_pos e]
 ·rw[if_neg e,if_neg e,if_pos (by simp;exact fun h=>e h.symm)]
theorem lk_del (l:List (ByteArray×α)) (s n:ByteArray):lkA (delA l s) n=if s=n then none else lkA l n:=by
 unfold delA;rw[U5 (fun k=>decide (k≠s))];by_cases e:s=n
 ·rw[if_pos e,if_neg (by simp;exact e.symm)]
 ·rw[if_neg e,if_pos (by simp;exact fun h=>e h.symm)]
theorem O7 {β:Type} (f:ByteArray→α→β):∀(l:List (ByteArray×α)) (s:ByteArray),lkA (l.map fun p=>(p.1,f p.1 p.2)) s=(lkA l s).map (f s)
 |[],s=>rfl
 |(k,v)::r,s=>by
  rw[List.map_cons,lkA,lkA,O7 f r s];by_cases e:k=s
  ·subst e;rw[if_pos rfl,if_pos rfl];rfl
  ·rw[if_neg e,if_neg e]
theorem lk_mem {l:List (ByteArray×α)} {s:ByteArray} {v:α} (h:lkA l s=some v):(s,v)∈l:=by
 induction l with
 |nil=>simp[lkA]at h
 |cons p r ih=>
  obtain⟨k,u⟩:=p;rw[lkA]at h;by_cases e:k=s
  ·subst e;rw[if_pos rfl]at h;injection h with h;subst h;simp
  ·rw[if_neg e]at h;exact List.mem_cons_of_mem _ (ih h)
theorem mem_lk {l:List (ByteArray×α)} (hn:KN l) {s:ByteArray} {v:α} (h:(s,v)∈l):lkA l s=some v:=by
 induction l with
 |nil=>cases h
 |cons p r ih=>
  obtain⟨k,u⟩:=p;unfold KN at hn;rw[List.map_cons,List.nodup_cons]at hn;rw[lkA];rcases List.mem_cons.1 h with e|h
  ·injection e with e1 e2;subst e1 e2;rw[if_pos rfl]
  ·rw[if_neg (fun e=>hn.1 (by subst e;exact List.mem_map.2 ⟨_,h,rfl⟩)),ih hn.2 h]
end
structure LS.Ok (s:LS):Prop where
 kc:KN s.ct
 kt:KN s.tk
 nn:∀n,0≤s.c n
theorem LS.c_put (s:LS) (n:ByteArray) (v:Int) (m:ByteArray):({ s with ct:=U1 s.ct n v }:LS).c m=if n=m then v else s.c m:=by
 unfold LS.c;rw[Kk];by_cases e:n=m
 ·rw[if_pos e,if_pos e];rfl
 ·rw[if_neg e,if_neg e]
theorem LS.I7 {s:LS} (h:s.Ok) {n:ByteArray} (h0:(s.Ww n).1=0):(s.Ww n).2.Ok∧(∀m,(s.Ww n).2.c m=if n=m then s.c m-1 else s.c m)∧(s.Ww n).2.tk=s.tk∧(s.Ww n).2.inn=s.inn∧(∀m,(lkA (s.Ww n).2.ct m).isSome=(lkA s.ct m).isSome)∧1≤s.c n:=by
 unfold LS.Ww at h0⊢;cases hk:lkA s.ct n with
 |none=>rw[hk]at h0;simp at h0
 |some k=>
  rw[hk]at h0;dsimp only at h0⊢;by_cases hk1:k<1
  ·rw[if_pos hk1]at h0;simp at h0
  ·rw[if_neg hk1];have hc:s.c n=k:=by unfold LS.c;rw[hk];rfl
   have hm:∀m,({ s with ct:=U1 s.ct n (k-1) }:LS).c m=if n=m then s.c m-1 else s.c m:=fun m=>by
    rw[LS.c_put];by_cases e:n=m
    ·subst e;rw[if_pos rfl,if_pos rfl,hc]
    ·rw[if_neg e,if_neg e]
   refine⟨⟨h.kc.put _ _,h.kt,fun m=>?_⟩,hm,rfl,rfl,fun m=>?_,by omega⟩
   ·have:=h.nn m;rw[hm];by_cases e:n=m
    ·subst e;rw[if_pos rfl];omega
    ·rw[if_neg e];exact this
   ·dsimp only;rw[Kk];by_cases e:n=m
    ·subst e;rw[if_pos rfl,hk];rfl
    ·rw[if_neg e]
def occ (l:List Tm) (n:ByteArray):Int:=((l.filter fun x=>decide (x.nm=n)).length:Int)
theorem occ_cons (x:Tm) (r:List Tm) (n:ByteArray):occ (x::r) n=(if x.nm=n then 1 else 0)+occ r n:=by
 unfold occ;by_cases h:x.nm=n
 ·rw[if_pos h,List.filter_cons_of_pos (by simpa using h),List.length_cons];omega
 ·rw[if_neg h,List.filter_cons_of_neg (by simpa using h)];omega
theorem LS.useL_ok:∀(xs:List Tm) {s:LS} (h:s.Ok) (h0:(s.R5 xs).1=0),(s.R5 xs).2.Ok∧(∀m,(s.R5 xs).2.c m=s.c m-occ xs m)∧(s.R5 xs).2.tk=s.tk
 |[],s,h,_=>⟨h,fun m=>by simp[LS.R5,occ],rfl⟩
 |x::r,s,h,h0=>by
  rw[LS.R5]at h0⊢;by_cases h1:x.tk≠1
  ·rw[if_pos h1]at h0;simp at h0
  ·rw[if_neg h1]at h0⊢;by_cases h2:(s.Ww x.nm).1≠0
   ·rw[if_pos h2]at h0;exact absurd h0 h2
   ·rw[if_neg h2]at h0⊢;obtain⟨g1,g2,g3,-,-,-⟩:=LS.I7 h (Decidable.not_not.1 h2);obtain⟨k1,k2,k3⟩:=LS.useL_ok r g1 h0;refine⟨k1,fun m=>?_,k3.trans g3⟩;rw[k2,g2,occ_cons];split<;> omega
theorem LS.inc_ok {s:LS} (h:s.Ok) (n:ByteArray):(s.inc n).Ok∧∀m,(s.inc n).c m=if n=m then s.c m+1 else s.c m:=by
 have hm:∀m,(s.inc n).c m=if n=m then s.c m+1 else s.c m:=fun m=>by
  unfold LS.inc;rw[LS.c_put];by_cases e:n=m
  ·subst e;simp
  ·rw[if_neg e,if_neg e]
 refine⟨⟨h.kc.put _ _,h.kt,fun m=>?_⟩,hm⟩;have:=h.nn m;rw[hm];split<;> omega
def occB (l:List ByteArray) (n:ByteArray):Int:=((l.filter fun x=>decide (x=n)).length:Int)
theorem A7 (x:ByteArray) (r:List ByteArray) (n:ByteArray):occB (x::r) n=(if x=n then 1 else 0)+occB r n:=by
 unfold occB;by_cases h:x=n
 ·rw[if_pos h,List.filter_cons_of_pos (by simpa using h),List.length_cons];omega
 ·rw[if_neg h,List.filter_cons_of_neg (by simpa using h)];omega
theorem LS.openL_ok (nm:ByteArray):∀(vs:List ByteArray) {s:LS} (h:s.Ok) (h0:(s.U0 nm vs).1=0),(s.U0 nm vs).2.Ok∧(∀m,(s.U0 nm vs).2.c m=s.c m+occB vs m)∧(s.U0 nm vs).2.tk=s.tk∧(s.U0 nm vs).2.inn=s.inn
 |[],s,h,_=>⟨h,fun m=>by simp[LS.U0,occB],rfl,rfl⟩
 |v::r,s,h,h0=>by
  rw[LS.U0]at h0⊢;by_cases h1:(lkA s.inn v).getD .empty≠nm
  ·rw[if_pos h1]at h0;simp at h0
  ·rw[if_neg h1]at h0⊢;obtain⟨g1,g2⟩:=LS.inc_ok h v;obtain⟨k1,k2,k3,k4⟩:=LS.openL_ok nm r g1 h0;refine⟨k1,fun m=>?_,k3,k4⟩;rw[k2,g2,A7];split<;> omega
theorem LS.newL_ok (nm:ByteArray):∀(vs:List ByteArray) {s:LS} (h:s.Ok) (h0:(s.D6 nm vs).1=0),(s.D6 nm vs).2.Ok∧(∀m,(s.D6 nm vs).2.c m=s.c m)∧(s.D6 nm vs).2.tk=s.tk
 |[],s,h,_=>⟨h,fun m=>rfl,rfl⟩
 |v::r,s,h,h0=>by
  rw[LS.D6]at h0⊢;by_cases h1:(lkA s.ct v).isSome=true
  ·rw[if_pos h1]at h0;simp at h0
  ·rw[if_neg h1]at h0⊢;have hm:∀m,({ s with ct:=U1 s.ct v 0,inn:=U1 s.inn v nm }:LS).c m=s.c m:=fun m=>by
    show(lkA (U1 s.ct v 0) m).getD 0=s.c m;rw[Kk];by_cases e:v=m
    ·subst e;rw[if_pos rfl];unfold LS.c;cases hk:lkA s.ct v with
     |none=>rfl
     |some k=>rw[hk]at h1;simp at h1
    ·rw[if_neg e];rfl
   obtain⟨k1,k2,k3⟩:=LS.newL_ok nm r (s:={ s with ct:=U1 s.ct v 0,inn:=U1 s.inn v nm }) ⟨h.kc.put _ _,h.kt,fun m=>by rw[hm];exact h.nn m⟩ h0;exact⟨k1,fun m=>by rw[k2,hm],k3⟩
theorem LS.fst_c (s:LS) (t:Tm) (n:ByteArray):(s.fst t).c n=if t.askN n then min1 (s.c n)else 0:=by
 unfold LS.fst LS.c;dsimp only;rw[O7 (fun _ k=>min1 k),U5 t.askN];by_cases h:t.askN n=true
 ·rw[if_pos h,if_pos h];cases lkA s.ct n<;> rfl
 ·rw[if_neg h,if_neg h];rfl
theorem LS.rst_c (s:LS) (t:Tm) (n:ByteArray):(s.rst t).c n=if t.askN n then s.c n-min1 (s.c n)else s.c n:=by
 unfold LS.rst LS.c;dsimp only;rw[O7 (fun k v=>if t.askN k then v-min1 v else v)];cases lkA s.ct n with
 |none=>
  show(0:Int)=_;split<;> rfl
 |some v=>
  show(if t.askN n then v-min1 v else v)=_;rfl
theorem LS.fst_ok {s:LS} (h:s.Ok) (t:Tm):(s.fst t).Ok:=by
 refine⟨?_,h.kt.filter _,fun n=>?_⟩
 ·unfold LS.fst KN;dsimp only;rw[List.map_map];exact h.kc.filter fun p=>t.askN p.1
 ·have:=h.nn n;rw[LS.fst_c];unfold min1;split
  ·split<;> omega
  ·exact Int.le_refl _
theorem LS.rst_ok {s:LS} (h:s.Ok) (t:Tm):(s.rst t).Ok:=by
 refine⟨?_,h.kt.filter _,fun n=>?_⟩
 ·unfold LS.rst KN;dsimp only;rw[List.map_map];exact h.kc
 ·have:=h.nn n;rw[LS.rst_c];unfold min1;split
  ·split<;> omega
  ·exact this
theorem LS.put_ok {s:LS} (h:s.Ok) (n:ByteArray) {v:Int} (hv:0≤v):({ s with ct:=U1 s.ct n v }:LS).Ok:=⟨h.kc.put _ _,h.kt,fun m=>by
 have:=h.nn m;rw[LS.c_put];split
 ·exact hv
 ·exact this⟩
theorem LS.tk_ok {s:LS} (h:s.Ok) {l:List (ByteArray×Int)} (hl:KN l):({ s with tk:=l }:LS).Ok:=⟨h.kc,hl,h.nn⟩
end Go.Proofs.YtlbcipohiepjmaaDoor
