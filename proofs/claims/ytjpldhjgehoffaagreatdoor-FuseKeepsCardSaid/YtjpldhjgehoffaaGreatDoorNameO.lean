import Derived.Test.YtjpldhjgehoffaaGreatDoorNameP
import Derived.Test.YtjpldhjgehoffaaGreatDoorFreeA
import Derived.Test.YtjpldhjgehoffaaGreatDoorOwnC
import Derived.Test.YtjpldhjgehoffaaGreatDoorParseB
set_option maxRecDepth 20000
set_option maxHeartbeats 16000000
namespace Go.Proofs.YtjpldhjgehoffaaGreatDoor
open Go.RowKit
attribute [local simp] Iz mkRc ldOf stOf stOk Nw Mv Rw Kj V9 Yj Yw J3 Y8 Bz evA Vj Dz Value.oneCell' Zj Q4 Z7 Qx1 U6 Z5 AS.after Zq Kq J8 AV.ids Mj Qz.ids frNo Nv G6 Wj H6 Y1 Y3 Vx U1 U0 Yz toD1 Sw setAt U9 Ij Dj L8 Gz L9 binI AV.cells J4 Jq Gq Wq AV.kill Qz.kill AV.has AV.K6 Op.operands Call.operands Dq Dw Zw Qv2 Zx Xq E8 moQ Mk R4 Yk AV.ren E5 Qz.ren Qz.like kept Zz Mw AV.frz Pz Ik Ak F8 Uk AS.frz Tw Rq Qz.frz Hq Hz bleF Nat.ble_eq G9 G7 Yq D.Y5 N7 R8 Vv Vw phO Ew Dk Gx Uj Kv Low Ex
set_option linter.unusedVariables false
set_option linter.unusedSimpArgs false
def arD (f:Jj):List (D×List D):=f.map fun x=>(.str x.1,[.int x.2])
theorem Kk (f:Jj) (s:ByteArray):D.Xz (.str s) (arD f)=(f.get s).map fun n=>[.int n]:=by
 unfold arD Jj.get;induction f with
 |nil=>simp[D.Xz]
 |cons x r ih=>
  simp only[List.map_cons,List.find?_cons];by_cases h:x.1=s
  ·simp[D.Xz,D.keq,h]
  ·have h':¬s=x.1:=fun e=>h e.symm
   simp only[h,decide_false];rw[←ih];simp[D.Xz,D.keq,h]
theorem Tm.Ok.names {k n:Int} {a b:ByteArray} {vs:List ByteArray} {xs:List Tm} {cs:List Cs} (h:(Tm.mk k n a b vs xs cs).Ok):∀{t:Int} {ws:List ByteArray} {x:Tm},Cs.mk t ws x∈cs→∀s∈ws,s.size≤140737488355328:=
 fun hm=>(h.case hm).sizes
def csObj (g:Int) (ws:List ByteArray) (k n:Int) (a b:ByteArray) (vs:List ByteArray) (xs:List Tm) (cs:List Cs):Option Qz:=some (.blk 90 (.d (.int g):: .d (Q8 ws)::tmCells k n a b vs xs cs))
abbrev Fj (f:Jj):Qz:=fnsObj (arD f)
theorem cs_Wrong_at (f:Jj):∀(N:Nat) (t:Tm) (names:List ByteArray) (deep:Int),t.sz<N→t.Ok→0≤deep→deep≤25→(names.length:Int)≤1048576+8 * deep→
  Qv Tryz.prog 27 [.mp 1000,X9 t,Zk names,.d (.int deep)] [(1000,Fj f)] (.d (.int (t.wrong f names deep))) [(1000,Fj f)]:=by
 intro N;induction N with
 |zero=>intro t _ _ h;omega
 |succ N ih=>
 intro t names deep hN hO hd0 hd1 hnl;obtain⟨k,n,a,b,vs,xs,cs⟩:=t;obtain⟨o1,o2,o3,o4,o5⟩:=hO.vars;refine Qv.of Tryz.func27 rfl rfl (Nat.le_of_ble_eq_true rfl) ?_;show AWp _ _ (Qk _ Tryz.f27 _ _) (Zz 235 _ _);repeat (first|refine AWp.seq ?_|refine AWp.block ?_)
 apply AWp.reg [] []
 ·conv=>lhs;simp
 ·trivial
 by_cases hdeep:24<deep
 ·repeat (first|refine AWp.seq ?_|refine AWp.block ?_)
  apply AWp.reg [] []
  ·conv=>lhs;simp[hdeep]
  ·trivial
  refine AWp.cy ?_;repeat (first|refine AWp.seq ?_|refine AWp.block ?_)
  apply AWp.reg [] []
  ·conv=>lhs;simp
  ·trivial
  refine AWp.ret ?_;try dsimp only[Qq,Q6]
  apply Qk.ret
  ·rfl
  ·conv=>lhs;simp[Q9,Tryz.results27]
  ·simp only[Tm.wrong,if_pos hdeep];rfl
  ·simp[Qx,Q4]
 repeat (first|refine AWp.seq ?_|refine AWp.block ?_)
 apply AWp.reg [] []
 ·conv=>lhs;simp[hdeep]
 ·trivial
 refine AWp.cn ?_;refine AWp.skip ?_;by_cases hk1:k<1
 ·repeat (first|refine AWp.seq ?_|refine AWp.block ?_)
  apply AWp.reg [] []
  ·conv=>lhs;simp[hk1]
  ·trivial
  refine AWp.cy ?_;repeat (first|refine AWp.seq ?_|refine AWp.block ?_)
  apply AWp.reg [] []
  ·conv=>lhs;simp
  ·trivial
  refine AWp.ret ?_;try dsimp only[Qq,Q6]
  apply Qk.ret
  ·rfl
  ·conv=>lhs;simp[Q9,Tryz.results27]
  ·simp only[Tm.wrong,if_neg hdeep,if_pos (Or.inl hk1:k<1∨7<k)];rfl
  ·simp[Qx,Q4]
 by_cases hk7:7<k
 ·repeat (first|refine AWp.seq ?_|refine AWp.block ?_)
  apply AWp.reg [] []
  ·conv=>lhs;simp[hk1,hk7]
  ·trivial
  refine AWp.cy ?_;repeat (first|refine AWp.seq ?_|refine AWp.block ?_)
  apply AWp.reg [] []
  ·conv=>lhs;simp
  ·trivial
  refine AWp.ret ?_;try dsimp only[Qq,Q6]
  apply Qk.ret
  ·rfl
  ·conv=>lhs;simp[Q9,Tryz.results27]
  ·simp only[Tm.wrong,if_neg hdeep,if_pos (Or.inr hk7:k<1∨7<k)];rfl
  ·simp[Qx,Q4]
 repeat (first|refine AWp.seq ?_|refine AWp.block ?_)
 apply AWp.reg [] []
 ·conv=>lhs;simp[hk1,hk7]
 ·trivial
 refine AWp.cn ?_;refine AWp.skip ?_;have hkk:¬(k<1∨7<k):=by omega
 have hk:k=1∨k=2∨k=3∨k=4∨k=5∨k=6∨k=7:=by omega
 obtain⟨A,hA⟩:∃A:Int,(xs.length:Int)=A:=⟨_,rfl⟩
 obtain⟨C,hC⟩:∃C:Int,(cs.length:Int)=C:=⟨_,rfl⟩
 obtain⟨na,hN0⟩:∃na:Nat,xs.length=na:=⟨_,rfl⟩
 obtain⟨nc,hC0⟩:∃nc:Nat,cs.length=nc:=⟨_,rfl⟩
 have hA1:A=na:=by omega
 have hC1:C=nc:=by omega
 by_cases hm:X6 k na nc=true
 ·rcases hk with rfl|rfl|rfl|rfl|rfl|rfl|rfl
  ·refine AWp.rg [] [] ?_;by_cases c1:0<A
   ·refine AWp.rg [] [] ?_ (hr:=by conv=>lhs;simp[Qj,hA,hC,c1]);refine AWp.cy ?_;refine AWp.rg [] [] ?_;refine AWp.ret ?_;try dsimp only[Qq,Q6]
    apply Qk.ret
    ·rfl
    ·conv=>lhs;simp[Q9,Tryz.results27]
    ·simp only[Tm.wrong,if_neg hdeep,if_neg hkk,hN0,hC0,if_pos hm];rfl
    ·simp[Qx,Q4]
   by_cases c2:A=0
   ·have c3:0<C:=by simp[X6]at hm;omega
    refine AWp.rg [] [] ?_ (hr:=by conv=>lhs;simp[Qj,hA,hC,c1,c2,c3]);refine AWp.cy ?_;refine AWp.rg [] [] ?_;refine AWp.ret ?_;try dsimp only[Qq,Q6]
    apply Qk.ret
    ·rfl
    ·conv=>lhs;simp[Q9,Tryz.results27]
    ·simp only[Tm.wrong,if_neg hdeep,if_neg hkk,hN0,hC0,if_pos hm];rfl
    ·simp[Qx,Q4]
   refine AWp.rg [] [] ?_ (hr:=by conv=>lhs;simp[Qj,hA,hC,c1,c2]);refine AWp.cy ?_;refine AWp.rg [] [] ?_;refine AWp.ret ?_;try dsimp only[Qq,Q6]
   apply Qk.ret
   ·rfl
   ·conv=>lhs;simp[Q9,Tryz.results27]
   ·simp only[Tm.wrong,if_neg hdeep,if_neg hkk,hN0,hC0,if_pos hm];rfl
   ·simp[Qx,Q4]
  ·refine AWp.rg [] [] ?_;by_cases c1:0<A
   ·refine AWp.rg [] [] ?_ (hr:=by conv=>lhs;simp[Qj,hA,hC,c1]);refine AWp.cy ?_;refine AWp.rg [] [] ?_;refine AWp.ret ?_;try dsimp only[Qq,Q6]
    apply Qk.ret
    ·rfl
    ·conv=>lhs;simp[Q9,Tryz.results27]
    ·simp only[Tm.wrong,if_neg hdeep,if_neg hkk,hN0,hC0,if_pos hm];rfl
    ·simp[Qx,Q4]
   by_cases c2:A=0
   ·have c3:0<C:=by simp[X6]at hm;omega
    refine AWp.rg [] [] ?_ (hr:=by conv=>lhs;simp[Qj,hA,hC,c1,c2,c3]);refine AWp.cy ?_;refine AWp.rg [] [] ?_;refine AWp.ret ?_;try dsimp only[Qq,Q6]
    apply Qk.ret
    ·rfl
    ·conv=>lhs;simp[Q9,Tryz.results27]
    ·simp only[Tm.wrong,if_neg hdeep,if_neg hkk,hN0,hC0,if_pos hm];rfl
    ·simp[Qx,Q4]
   refine AWp.rg [] [] ?_ (hr:=by conv=>lhs;simp[Qj,hA,hC,c1,c2]);refine AWp.cy ?_;refine AWp.rg [] [] ?_;refine AWp.ret ?_;try dsimp only[Qq,Q6]
   apply Qk.ret
   ·rfl
   ·conv=>lhs;simp[Q9,Tryz.results27]
   ·simp only[Tm.wrong,if_neg hdeep,if_neg hkk,hN0,hC0,if_pos hm];rfl
   ·simp[Qx,Q4]
  ·refine AWp.rg [] [] ?_;by_cases c1:6<A
   ·refine AWp.rg [] [] ?_ (hr:=by conv=>lhs;simp[Qj,hA,hC,c1]);refine AWp.cy ?_;refine AWp.rg [] [] ?_;refine AWp.ret ?_;try dsimp only[Qq,Q6]
    apply Qk.ret
    ·rfl
    ·conv=>lhs;simp[Q9,Tryz.results27]
    ·simp only[Tm.wrong,if_neg hdeep,if_neg hkk,hN0,hC0,if_pos hm];rfl
    ·simp[Qx,Q4]
   have c3:0<C:=by simp[X6]at hm;omega
   refine AWp.rg [] [] ?_ (hr:=by conv=>lhs;simp[Qj,hA,hC,c1,c3]);refine AWp.cy ?_;refine AWp.rg [] [] ?_;refine AWp.ret ?_;try dsimp only[Qq,Q6]
   apply Qk.ret
   ·rfl
   ·conv=>lhs;simp[Q9,Tryz.results27]
   ·simp only[Tm.wrong,if_neg hdeep,if_neg hkk,hN0,hC0,if_pos hm];rfl
   ·simp[Qx,Q4]
  ·refine AWp.rg [] [] ?_;by_cases c1:6<A
   ·refine AWp.rg [] [] ?_ (hr:=by conv=>lhs;simp[Qj,hA,hC,c1]);refine AWp.cy ?_;refine AWp.rg [] [] ?_;refine AWp.ret ?_;try dsimp only[Qq,Q6]
    apply Qk.ret
    ·rfl
    ·conv=>lhs;simp[Q9,Tryz.results27]
    ·simp only[Tm.wrong,if_neg hdeep,if_neg hkk,hN0,hC0,if_pos hm];rfl
    ·simp[Qx,Q4]
   have c3:0<C:=by simp[X6]at hm;omega
   refine AWp.rg [] [] ?_ (hr:=by conv=>lhs;simp[Qj,hA,hC,c1,c3]);refine AWp.cy ?_;refine AWp.rg [] [] ?_;refine AWp.ret ?_;try dsimp only[Qq,Q6]
   apply Qk.ret
   ·rfl
   ·conv=>lhs;simp[Q9,Tryz.results27]
   ·simp only[Tm.wrong,if_neg hdeep,if_neg hkk,hN0,hC0,if_pos hm];rfl
   ·simp[Qx,Q4]
  ·refine AWp.rg [] [] ?_;by_cases c1:2<A
   ·refine AWp.rg [] [] ?_ (hr:=by conv=>lhs;simp[Qj,hA,hC,c1]);refine AWp.cy ?_;refine AWp.rg [] [] ?_;refine AWp.ret ?_;try dsimp only[Qq,Q6]
    apply Qk.ret
    ·rfl
    ·conv=>lhs;simp[Q9,Tryz.results27]
    ·simp only[Tm.wrong,if_neg hdeep,if_neg hkk,hN0,hC0,if_pos hm];rfl
    ·simp[Qx,Q4]
   by_cases c2:A=2
   ·have c3:0<C:=by simp[X6]at hm;omega
    refine AWp.rg [] [] ?_ (hr:=by conv=>lhs;simp[Qj,hA,hC,c1,c2,c3]);refine AWp.cy ?_;refine AWp.rg [] [] ?_;refine AWp.ret ?_;try dsimp only[Qq,Q6]
    apply Qk.ret
    ·rfl
    ·conv=>lhs;simp[Q9,Tryz.results27]
    ·simp only[Tm.wrong,if_neg hdeep,if_neg hkk,hN0,hC0,if_pos hm];rfl
    ·simp[Qx,Q4]
   refine AWp.rg [] [] ?_ (hr:=by conv=>lhs;simp[Qj,hA,hC,c1,c2]);refine AWp.cy ?_;refine AWp.rg [] [] ?_;refine AWp.ret ?_;try dsimp only[Qq,Q6]
   apply Qk.ret
   ·rfl
   ·conv=>lhs;simp[Q9,Tryz.results27]
   ·simp only[Tm.wrong,if_neg hdeep,if_neg hkk,hN0,hC0,if_pos hm];rfl
   ·simp[Qx,Q4]
  ·refine AWp.rg [] [] ?_;by_cases c1:2<A
   ·refine AWp.rg [] [] ?_ (hr:=by conv=>lhs;simp[Qj,hA,hC,c1]);refine AWp.cy ?_;refine AWp.rg [] [] ?_;refine AWp.ret ?_;try dsimp only[Qq,Q6]
    apply Qk.ret
    ·rfl
    ·conv=>lhs;simp[Q9,Tryz.results27]
    ·simp only[Tm.wrong,if_neg hdeep,if_neg hkk,hN0,hC0,if_pos hm];rfl
    ·simp[Qx,Q4]
   by_cases c2:A=2
   ·have c3:0<C:=by simp[X6]at hm;omega
    refine AWp.rg [] [] ?_ (hr:=by conv=>lhs;simp[Qj,hA,hC,c1,c2,c3]);refine AWp.cy ?_;refine AWp.rg [] [] ?_;refine AWp.ret ?_;try dsimp only[Qq,Q6]
    apply Qk.ret
    ·rfl
    ·conv=>lhs;simp[Q9,Tryz.results27]
    ·simp only[Tm.wrong,if_neg hdeep,if_neg hkk,hN0,hC0,if_pos hm];rfl
    ·simp[Qx,Q4]
   refine AWp.rg [] [] ?_ (hr:=by conv=>lhs;simp[Qj,hA,hC,c1,c2]);refine AWp.cy ?_;refine AWp.rg [] [] ?_;refine AWp.ret ?_;try dsimp only[Qq,Q6]
   apply Qk.ret
   ·rfl
   ·conv=>lhs;simp[Q9,Tryz.results27]
   ·simp only[Tm.wrong,if_neg hdeep,if_neg hkk,hN0,hC0,if_pos hm];rfl
   ·simp[Qx,Q4]
  ·refine AWp.rg [] [] ?_;by_cases c1:1<A
   ·refine AWp.rg [] [] ?_ (hr:=by conv=>lhs;simp[Qj,hA,hC,c1]);refine AWp.cy ?_;refine AWp.rg [] [] ?_;refine AWp.ret ?_;try dsimp only[Qq,Q6]
    apply Qk.ret
    ·rfl
    ·conv=>lhs;simp[Q9,Tryz.results27]
    ·simp only[Tm.wrong,if_neg hdeep,if_neg hkk,hN0,hC0,if_pos hm];rfl
    ·simp[Qx,Q4]
   have c2:¬A=1:=by simp[X6]at hm;omega
   refine AWp.rg [] [] ?_ (hr:=by conv=>lhs;simp[Qj,hA,hC,c1,c2]);refine AWp.cy ?_;refine AWp.rg [] [] ?_;refine AWp.ret ?_;try dsimp only[Qq,Q6]
   apply Qk.ret
   ·rfl
   ·conv=>lhs;simp[Q9,Tryz.results27]
   ·simp only[Tm.wrong,if_neg hdeep,if_neg hkk,hN0,hC0,if_pos hm];rfl
   ·simp[Qx,Q4]
 refine AWp.seqJ2 ⟨235,[(0,.mp 1000),(2,Zk names),(3,.d (.int deep)),(5,.ptr 5 0)],[(5,Qj k n a b vs xs cs),(1000,some (Fj f))]⟩ ?_ (fun W hW=>?_);rotate_left
 ·rcases hk with rfl|rfl|rfl|rfl|rfl|rfl|rfl
  ·have c1:¬0<A:=by simp[X6]at hm;omega
   have c2:A=0:=by simp[X6]at hm;omega
   have c3:¬0<C:=by simp[X6]at hm;omega
   refine AWp.rg [] [] ?_;refine AWp.rg [] [] ?_ (hr:=by conv=>lhs;simp[Qj,hA,hC,c1,c2,c3]);refine AWp.cn ?_;refine AWp.skip ?_;exact hW _ (Le.sub (by simp) (by simp[Qj]))
  ·have c1:¬0<A:=by simp[X6]at hm;omega
   have c2:A=0:=by simp[X6]at hm;omega
   have c3:¬0<C:=by simp[X6]at hm;omega
   refine AWp.rg [] [] ?_;refine AWp.rg [] [] ?_ (hr:=by conv=>lhs;simp[Qj,hA,hC,c1,c2,c3]);refine AWp.cn ?_;refine AWp.skip ?_;exact hW _ (Le.sub (by simp) (by simp[Qj]))
  ·have c1:¬6<A:=by simp[X6]at hm;omega
   have c3:¬0<C:=by simp[X6]at hm;omega
   refine AWp.rg [] [] ?_;refine AWp.rg [] [] ?_ (hr:=by conv=>lhs;simp[Qj,hA,hC,c1,c3]);refine AWp.cn ?_;refine AWp.skip ?_;exact hW _ (Le.sub (by simp) (by simp[Qj]))
  ·have c1:¬6<A:=by simp[X6]at hm;omega
   have c3:¬0<C:=by simp[X6]at hm;omega
   refine AWp.rg [] [] ?_;refine AWp.rg [] [] ?_ (hr:=by conv=>lhs;simp[Qj,hA,hC,c1,c3]);refine AWp.cn ?_;refine AWp.skip ?_;exact hW _ (Le.sub (by simp) (by simp[Qj]))
  ·have c1:¬2<A:=by simp[X6]at hm;omega
   have c2:A=2:=by simp[X6]at hm;omega
   have c3:¬0<C:=by simp[X6]at hm;omega
   refine AWp.rg [] [] ?_;refine AWp.rg [] [] ?_ (hr:=by conv=>lhs;simp[Qj,hA,hC,c1,c2,c3]);refine AWp.cn ?_;refine AWp.skip ?_;exact hW _ (Le.sub (by simp) (by simp[Qj]))
  ·have c1:¬2<A:=by simp[X6]at hm;omega
   have c2:A=2:=by simp[X6]at hm;omega
   have c3:¬0<C:=by simp[X6]at hm;omega
   refine AWp.rg [] [] ?_;refine AWp.rg [] [] ?_ (hr:=by conv=>lhs;simp[Qj,hA,hC,c1,c2,c3]);refine AWp.cn ?_;refine AWp.skip ?_;exact hW _ (Le.sub (by simp) (by simp[Qj]))
  ·have c1:¬1<A:=by simp[X6]at hm;omega
   have c2:A=1:=by simp[X6]at hm;omega
   refine AWp.rg [] [] ?_;refine AWp.rg [] [] ?_ (hr:=by conv=>lhs;simp[Qj,hA,hC,c1,c2]);refine AWp.cn ?_;refine AWp.skip ?_;exact hW _ (Le.sub (by simp) (by simp[Qj]))
 have hm':X6 k na nc=false:=by simpa using hm
 have hna:na≤6:=by
  rcases hk with rfl|rfl|rfl|rfl|rfl|rfl|rfl<;> simp[X6]at hm'<;> omega
 have hHas:=sp_Has names a (by omega);have hNm:=sp_Name a (by omega);by_cases hh:J9 f k n a names na=0;rotate_left
 ·rcases hk with rfl|rfl|rfl|rfl|rfl|rfl|rfl
  ·refine AWp.rg [] [] ?_ (hr:=by conv=>lhs;simp[Qj]);refine AWp.rg [] [] ?_ (hr:=by conv=>lhs;simp[Qj]);refine AWp.cy ?_;have hv:hasB names a=false:=by simp[J9]at hh;exact hh
   rw[hv]at hHas;repeat (first|refine AWp.seq ?_|refine AWp.block ?_)
   apply AWp.reg [] [.p (fun _=>.d (.bool false)) none]
   ·conv=>lhs;simp[Qj]
   ·exact hHas
   refine AWp.cy ?_;refine AWp.rg [] [] ?_;refine AWp.ret ?_;try dsimp only[Qq,Q6]
   apply Qk.ret
   ·rfl
   ·conv=>lhs;simp[Q9,Tryz.results27]
   ·simp only[Tm.wrong,if_neg hdeep,if_neg hkk,hN0,hC0,if_neg hm,J9,hv];rfl
   ·simp[Qx,Q4]
  ·refine AWp.rg [] [] ?_ (hr:=by conv=>lhs;simp[Qj]);refine AWp.rg [] [] ?_ (hr:=by conv=>lhs;simp[Qj]);refine AWp.cn ?_;refine AWp.rg [] [] ?_ (hr:=by conv=>lhs;simp[Qj]);refine AWp.cy ?_;by_cases c1:n< -2147483648
   ·refine AWp.rg [] [] ?_ (hr:=by conv=>lhs;simp[Qj,c1]);refine AWp.cy ?_;refine AWp.rg [] [] ?_;refine AWp.ret ?_;try dsimp only[Qq,Q6]
    apply Qk.ret
    ·rfl
    ·conv=>lhs;simp[Q9,Tryz.results27]
    ·simp only[Tm.wrong,if_neg hdeep,if_neg hkk,hN0,hC0,if_neg hm,J9,c1];rfl
    ·simp[Qx,Q4]
   have c2:2147483647<n:=by simp[J9]at hh;omega
   refine AWp.rg [] [] ?_ (hr:=by conv=>lhs;simp[Qj,c1,c2]);refine AWp.cy ?_;refine AWp.rg [] [] ?_;refine AWp.ret ?_;try dsimp only[Qq,Q6]
   apply Qk.ret
   ·rfl
   ·conv=>lhs;simp[Q9,Tryz.results27]
   ·simp only[Tm.wrong,if_neg hdeep,if_neg hkk,hN0,hC0,if_neg hm,J9,c1,c2];rfl
   ·simp[Qx,Q4]
  ·refine AWp.rg [] [] ?_ (hr:=by conv=>lhs;simp[Qj]);refine AWp.rg [] [] ?_ (hr:=by conv=>lhs;simp[Qj]);refine AWp.cn ?_;refine AWp.rg [] [] ?_ (hr:=by conv=>lhs;simp[Qj]);refine AWp.cn ?_;refine AWp.rg [] [] ?_ (hr:=by conv=>lhs;simp[Qj]);refine AWp.cy ?_;by_cases c1:n<0
   ·refine AWp.rg [] [] ?_ (hr:=by conv=>lhs;simp[Qj,c1]);refine AWp.cy ?_;refine AWp.rg [] [] ?_;refine AWp.ret ?_;try dsimp only[Qq,Q6]
    apply Qk.ret
    ·rfl
    ·conv=>lhs;simp[Q9,Tryz.results27]
    ·simp only[Tm.wrong,if_neg hdeep,if_neg hkk,hN0,hC0,if_neg hm,J9,c1];rfl
    ·simp[Qx,Q4]
   have c2:9<n:=by simp[J9]at hh;omega
   refine AWp.rg [] [] ?_ (hr:=by conv=>lhs;simp[Qj,c1,c2]);refine AWp.cy ?_;refine AWp.rg [] [] ?_;refine AWp.ret ?_;try dsimp only[Qq,Q6]
   apply Qk.ret
   ·rfl
   ·conv=>lhs;simp[Q9,Tryz.results27]
   ·simp only[Tm.wrong,if_neg hdeep,if_neg hkk,hN0,hC0,if_neg hm,J9,c1,c2];rfl
   ·simp[Qx,Q4]
  ·refine AWp.rg [] [] ?_ (hr:=by conv=>lhs;simp[Qj]);refine AWp.rg [] [] ?_ (hr:=by conv=>lhs;simp[Qj]);refine AWp.cn ?_;refine AWp.rg [] [] ?_ (hr:=by conv=>lhs;simp[Qj]);refine AWp.cn ?_;refine AWp.rg [] [] ?_ (hr:=by conv=>lhs;simp[Qj]);refine AWp.cn ?_;refine AWp.rg [] [] ?_ (hr:=by conv=>lhs;simp[Qj]);refine AWp.cn ?_;refine AWp.rg [] [] ?_ (hr:=by conv=>lhs;simp[Qj]);refine AWp.cn ?_;refine AWp.rg [] [] ?_ (hr:=by conv=>lhs;simp[Qj]);refine AWp.cy ?_;cases hf:f.get a with
   |none=>
    refine AWp.rg [] [] ?_ (hr:=by conv=>lhs;simp[Qj,Kk,hf]);refine AWp.rg [] [] ?_;refine AWp.cy ?_;refine AWp.rg [] [] ?_;refine AWp.ret ?_;try dsimp only[Qq,Q6]
    apply Qk.ret
    ·rfl
    ·conv=>lhs;simp[Q9,Tryz.results27]
    ·simp only[Tm.wrong,if_neg hdeep,if_neg hkk,hN0,hC0,if_neg hm,J9,hf];rfl
    ·simp[Qx,Q4]
   |some w=>
    have c1:¬w=na:=by simp[J9,hf]at hh;exact hh
    have c1i:¬(w:Int)=A:=by omega
    refine AWp.rg [] [] ?_ (hr:=by conv=>lhs;simp[Qj,Kk,hf]);refine AWp.rg [] [] ?_;refine AWp.cn ?_;refine AWp.skip ?_;refine AWp.rg [] [] ?_ (hr:=by conv=>lhs;simp[Qj,hA,c1,c1i]);refine AWp.cy ?_;refine AWp.rg [] [] ?_;refine AWp.ret ?_;try dsimp only[Qq,Q6]
    apply Qk.ret
    ·rfl
    ·conv=>lhs;simp[Q9,Tryz.results27]
    ·simp only[Tm.wrong,if_neg hdeep,if_neg hkk,hN0,hC0,if_neg hm,J9,hf,c1,c1i];rfl
    ·simp[Qx,Q4]
  ·refine AWp.rg [] [] ?_ (hr:=by conv=>lhs;simp[Qj]);refine AWp.rg [] [] ?_ (hr:=by conv=>lhs;simp[Qj]);refine AWp.cn ?_;refine AWp.rg [] [] ?_ (hr:=by conv=>lhs;simp[Qj]);refine AWp.cn ?_;refine AWp.rg [] [] ?_ (hr:=by conv=>lhs;simp[Qj]);refine AWp.cn ?_;refine AWp.rg [] [] ?_ (hr:=by conv=>lhs;simp[Qj]);refine AWp.cy ?_;by_cases c1:n<1
   ·refine AWp.rg [] [] ?_ (hr:=by conv=>lhs;simp[Qj,c1]);refine AWp.cy ?_;refine AWp.rg [] [] ?_;refine AWp.ret ?_;try dsimp only[Qq,Q6]
    apply Qk.ret
    ·rfl
    ·conv=>lhs;simp[Q9,Tryz.results27]
    ·simp only[Tm.wrong,if_neg hdeep,if_neg hkk,hN0,hC0,if_neg hm,J9,c1];rfl
    ·simp[Qx,Q4]
   have c2:5<n:=by simp[J9]at hh;omega
   refine AWp.rg [] [] ?_ (hr:=by conv=>lhs;simp[Qj,c1,c2]);refine AWp.cy ?_;refine AWp.rg [] [] ?_;refine AWp.ret ?_;try dsimp only[Qq,Q6]
   apply Qk.ret
   ·rfl
   ·conv=>lhs;simp[Q9,Tryz.results27]
   ·simp only[Tm.wrong,if_neg hdeep,if_neg hkk,hN0,hC0,if_neg hm,J9,c1,c2];rfl
   ·simp[Qx,Q4]
  ·refine AWp.rg [] [] ?_ (hr:=by conv=>lhs;simp[Qj]);refine AWp.rg [] [] ?_ (hr:=by conv=>lhs;simp[Qj]);refine AWp.cn ?_;refine AWp.rg [] [] ?_ (hr:=by conv=>lhs;simp[Qj]);refine AWp.cn ?_;refine AWp.rg [] [] ?_ (hr:=by conv=>lhs;simp[Qj]);refine AWp.cn ?_;refine AWp.rg [] [] ?_ (hr:=by conv=>lhs;simp[Qj]);refine AWp.cn ?_;refine AWp.rg [] [] ?_ (hr:=by conv=>lhs;simp[Qj]);refine AWp.cy ?_;have hv:R7 a=false:=by simp[J9]at hh;exact hh
   rw[hv]at hNm;repeat (first|refine AWp.seq ?_|refine AWp.block ?_)
   apply AWp.reg [] [.p (fun _=>.d (.bool false)) none]
   ·conv=>lhs;simp[Qj]
   ·exact hNm
   refine AWp.cy ?_;refine AWp.rg [] [] ?_;refine AWp.ret ?_;try dsimp only[Qq,Q6]
   apply Qk.ret
   ·rfl
   ·conv=>lhs;simp[Q9,Tryz.results27]
   ·simp only[Tm.wrong,if_neg hdeep,if_neg hkk,hN0,hC0,if_neg hm,J9,hv];rfl
   ·simp[Qx,Q4]
  ·simp[J9]at hh
 refine AWp.seqJ ⟨235,[(0,.mp 1000),(2,Zk names),(3,.d (.int deep)),(5,.ptr 5 0)],[(5,Qj k n a b vs xs cs),(1000,some (Fj f))]⟩ ?_ (fun W hW=>?_);rotate_left
 ·rcases hk with rfl|rfl|rfl|rfl|rfl|rfl|rfl
  ·refine AWp.rg [] [] ?_ (hr:=by conv=>lhs;simp[Qj]);refine AWp.rg [] [] ?_ (hr:=by conv=>lhs;simp[Qj]);refine AWp.cy ?_;have hv:hasB names a=true:=by simp[J9]at hh;exact hh
   rw[hv]at hHas;repeat (first|refine AWp.seq ?_|refine AWp.block ?_)
   apply AWp.reg [] [.p (fun _=>.d (.bool true)) none]
   ·conv=>lhs;simp[Qj]
   ·exact hHas
   refine AWp.cn ?_;refine AWp.skip ?_;exact hW _ (Le.sub (by simp) (by simp[Qj]))
  ·refine AWp.rg [] [] ?_ (hr:=by conv=>lhs;simp[Qj]);refine AWp.rg [] [] ?_ (hr:=by conv=>lhs;simp[Qj]);refine AWp.cn ?_;refine AWp.rg [] [] ?_ (hr:=by conv=>lhs;simp[Qj]);refine AWp.cy ?_;have c1:¬n< -2147483648:=by simp[J9]at hh;omega
   have c2:¬2147483647<n:=by simp[J9]at hh;omega
   refine AWp.rg [] [] ?_ (hr:=by conv=>lhs;simp[Qj,c1,c2]);refine AWp.cn ?_;refine AWp.skip ?_;exact hW _ (Le.sub (by simp) (by simp[Qj]))
  ·refine AWp.rg [] [] ?_ (hr:=by conv=>lhs;simp[Qj]);refine AWp.rg [] [] ?_ (hr:=by conv=>lhs;simp[Qj]);refine AWp.cn ?_;refine AWp.rg [] [] ?_ (hr:=by conv=>lhs;simp[Qj]);refine AWp.cn ?_;refine AWp.rg [] [] ?_ (hr:=by conv=>lhs;simp[Qj]);refine AWp.cy ?_;have c1:¬n<0:=by simp[J9]at hh;omega
   have c2:¬9<n:=by simp[J9]at hh;omega
   refine AWp.rg [] [] ?_ (hr:=by conv=>lhs;simp[Qj,c1,c2]);refine AWp.cn ?_;refine AWp.skip ?_;exact hW _ (Le.sub (by simp) (by simp[Qj]))
  ·refine AWp.rg [] [] ?_ (hr:=by conv=>lhs;simp[Qj]);refine AWp.rg [] [] ?_ (hr:=by conv=>lhs;simp[Qj]);refine AWp.cn ?_;refine AWp.rg [] [] ?_ (hr:=by conv=>lhs;simp[Qj]);refine AWp.cn ?_;refine AWp.rg [] [] ?_ (hr:=by conv=>lhs;simp[Qj]);refine AWp.cn ?_;refine AWp.rg [] [] ?_ (hr:=by conv=>lhs;simp[Qj]);refine AWp.cn ?_;refine AWp.rg [] [] ?_ (hr:=by conv=>lhs;simp[Qj]);refine AWp.cn ?_;refine AWp.rg [] [] ?_ (hr:=by conv=>lhs;simp[Qj]);refine AWp.cy ?_;obtain⟨w,hw,hwa⟩:∃w,f.get a=some w∧w=na:=by
    simp only[J9]at hh;cases hf:f.get a with
    |none=>simp[hf]at hh
    |some w=>exact⟨w,rfl,by simp[hf]at hh;exact hh⟩
   have c1:(w:Int)=A:=by omega
   refine AWp.rg [] [] ?_ (hr:=by conv=>lhs;simp[Qj,Kk,hw]);refine AWp.rg [] [] ?_;refine AWp.cn ?_;refine AWp.skip ?_;refine AWp.rg [] [] ?_ (hr:=by conv=>lhs;simp[Qj,hA,c1]);refine AWp.cn ?_;refine AWp.skip ?_;exact hW _ (Le.sub (by simp) (by simp[Qj]))
  ·refine AWp.rg [] [] ?_ (hr:=by conv=>lhs;simp[Qj]);refine AWp.rg [] [] ?_ (hr:=by conv=>lhs;simp[Qj]);refine AWp.cn ?_;refine AWp.rg [] [] ?_ (hr:=by conv=>lhs;simp[Qj]);refine AWp.cn ?_;refine AWp.rg [] [] ?_ (hr:=by conv=>lhs;simp[Qj]);refine AWp.cn ?_;refine AWp.rg [] [] ?_ (hr:=by conv=>lhs;simp[Qj]);refine AWp.cy ?_;have c1:¬n<1:=by simp[J9]at hh;omega
   have c2:¬5<n:=by simp[J9]at hh;omega
   refine AWp.rg [] [] ?_ (hr:=by conv=>lhs;simp[Qj,c1,c2]);refine AWp.cn ?_;refine AWp.skip ?_;exact hW _ (Le.sub (by simp) (by simp[Qj]))
  ·refine AWp.rg [] [] ?_ (hr:=by conv=>lhs;simp[Qj]);refine AWp.rg [] [] ?_ (hr:=by conv=>lhs;simp[Qj]);refine AWp.cn ?_;refine AWp.rg [] [] ?_ (hr:=by conv=>lhs;simp[Qj]);refine AWp.cn ?_;refine AWp.rg [] [] ?_ (hr:=by conv=>lhs;simp[Qj]);refine AWp.cn ?_;refine AWp.rg [] [] ?_ (hr:=by conv=>lhs;simp[Qj]);refine AWp.cn ?_;refine AWp.rg [] [] ?_ (hr:=by conv=>lhs;simp[Qj]);refine AWp.cy ?_;have hv:R7 a=true:=by simp[J9]at hh;exact hh
   rw[hv]at hNm;repeat (first|refine AWp.seq ?_|refine AWp.block ?_)
   apply AWp.reg [] [.p (fun _=>.d (.bool true)) none]
   ·conv=>lhs;simp[Qj]
   ·exact hNm
   refine AWp.cn ?_;refine AWp.skip ?_;exact hW _ (Le.sub (by simp) (by simp[Qj]))
  ·refine AWp.rg [] [] ?_ (hr:=by conv=>lhs;simp[Qj]);refine AWp.rg [] [] ?_ (hr:=by conv=>lhs;simp[Qj]);refine AWp.cn ?_;refine AWp.rg [] [] ?_ (hr:=by conv=>lhs;simp[Qj]);refine AWp.cn ?_;refine AWp.rg [] [] ?_ (hr:=by conv=>lhs;simp[Qj]);refine AWp.cn ?_;refine AWp.rg [] [] ?_ (hr:=by conv=>lhs;simp[Qj]);refine AWp.cn ?_;refine AWp.rg [] [] ?_ (hr:=by conv=>lhs;simp[Qj]);refine AWp.cn ?_;refine AWp.rg [] [] ?_ (hr:=by conv=>lhs;simp[Qj]);refine AWp.cn ?_;refine AWp.skip ?_;exact hW _ (Le.sub (by simp) (by simp[Qj]))
 repeat (first|refine AWp.seq ?_|refine AWp.block ?_)
 apply AWp.reg [] []
 ·conv=>lhs;simp[Qj]
 ·trivial
 repeat (first|refine AWp.seq ?_|refine AWp.block ?_)
 refine AWp.loop (σ:=fun u:{i:Nat // i≤xs.length∧Tm.J5 f k a names deep 0 xs=Tm.J5 f k a names deep i (xs.drop i)}=>⟨235,[(0,.mp 1000),(2,Zk names),(3,.d (.int deep)),(5,.ptr 5 0),(131,.d (.sl (xs.map Tm.row))),(132,.d (.int xs.length)),(133,.d (.int u.1))],[(5,Qj k n a b vs xs cs),(1000,some (Fj f))]⟩)
  (μ:=fun u=>xs.length-u.1) ⟨0,Nat.zero_le _,rfl⟩ (Le.sub (by simp) (by simp[Qj])) (fun⟨i,hi,hw⟩=>?_)
 dsimp only;repeat (first|refine AWp.seq ?_|refine AWp.block ?_)
 apply AWp.reg [] []
 ·conv=>lhs;simp
 ·trivial
 repeat (first|refine AWp.seq ?_|refine AWp.block ?_)
 refine AWp.cond rfl (fun h=>?_) (fun h=>?_)
 ·have hi1:i<xs.length:=by have:=of_decide_eq_true h;omega
  have h1:xs[i]? =some xs[i]:=List.getElem?_eq_getElem hi1;have hmem:xs[i]∈xs:=List.getElem_mem hi1;have hdr:xs.drop i=xs[i]::xs.drop (i+1):=List.drop_eq_getElem_cons hi1;generalize xs[i]=x at h1 hmem hdr;obtain⟨ins,hins⟩:∃ins,ins=if k=6∧i=1 then names++[a]else names:=⟨_,rfl⟩
  have hil:(ins.length:Int)≤1048576+8 * (deep+1):=by rw[hins];split<;> (try rw[List.length_append,List.length_singleton])<;> omega
  have hp:=ih x ins (deep+1) (by have:=Tm.Qj3 (k:=k) (n:=n) (a:=a) (b:=b) (vs:=vs) (cs:=cs) hmem;omega) (hO.arg hmem) (by omega) (by omega) hil;rw[hdr]at hw;simp only[Tm.J5,←hins]at hw;generalize x.wrong f ins (deep+1)=e at hp hw;obtain⟨xk,xn,xa,xb,xv,xx,xc⟩:=x;refine AWp.skip ?_;refine AWp.rg [] [] ?_ (hr:=by conv=>lhs;simp[h1,Tm.row,Tm.Q3,Cs.Q3,Qj]);repeat (first|refine AWp.seq ?_|refine AWp.block ?_)
  apply AWp.reg [] []
  ·conv=>lhs;simp
  ·trivial
  refine AWp.seqJ ⟨235,[(0,.mp 1000),(2,Zk names),(3,.d (.int deep)),(5,.ptr 5 0),(131,.d (.sl (xs.map Tm.row))),(132,.d (.int xs.length)),(133,.d (.int i)),(13,.ptr 13 0),(14,Zk ins)],[(5,Qj k n a b vs xs cs),(13,Qj xk xn xa xb xv xx xc),(1000,some (Fj f))]⟩ ?_ (fun W hW=>?_);rotate_left
  ·by_cases k6:k=6
   ·subst k6;by_cases i1:i=1
    ·subst i1;rw[if_pos ⟨rfl,rfl⟩]at hins;subst hins;repeat (first|refine AWp.seq ?_|refine AWp.block ?_)
     apply AWp.reg [] []
     ·conv=>lhs;simp
     ·trivial
     refine AWp.cy ?_;repeat (first|refine AWp.seq ?_|refine AWp.block ?_)
     apply AWp.draw [6] [] mixed
     ·conv=>lhs;simp
     ·kernel_rfl
     ·exact⟨by simp[maxLen];omega,by simp[maxLen];omega⟩
     exact hW _ (Le.sub (by simp[Qj];rw[List.take_of_length_le (by simp)]) (by simp[Qj]))
    ·have i1':¬(i:Int)=1:=by omega
     rw[if_neg (by omega)]at hins;subst hins;repeat (first|refine AWp.seq ?_|refine AWp.block ?_)
     apply AWp.reg [] []
     ·conv=>lhs;simp[i1,i1']
     ·trivial
     refine AWp.cn ?_;refine AWp.skip ?_;exact hW _ (Le.sub (by simp[Qj]) (by simp[Qj]))
   ·rw[if_neg (by omega)]at hins;subst hins;repeat (first|refine AWp.seq ?_|refine AWp.block ?_)
    apply AWp.reg [] []
    ·conv=>lhs;simp[k6]
    ·trivial
    refine AWp.cn ?_;refine AWp.skip ?_;exact hW _ (Le.sub (by simp[Qj]) (by simp[Qj]))
  repeat (first|refine AWp.seq ?_|refine AWp.block ?_)
  apply AWp.reg [] [.c [] [.mp 1000,X9 (.mk xk xn xa xb xv xx xc),Zk ins,.d (.int (deep+1))] [(1000,Fj f)] (.d (.int e)) [(1000,Fj f)]]
  ·conv=>lhs;simp[Qj]
  ·exact⟨by simp[inI];omega,hp⟩
  by_cases he:e=0
  ·subst he;simp only[ne_eq,not_true_eq_false,if_false]at hw;repeat (first|refine AWp.seq ?_|refine AWp.block ?_)
   apply AWp.reg [] []
   ·conv=>lhs;simp
   ·trivial
   refine AWp.cn ?_;refine AWp.skip ?_;refine AWp.rg [] [] ?_;refine⟨⟨i+1,hi1,hw⟩,by simp;omega,Le.sub (by simp[Qj]) (by simp[Qj])⟩
  ·rw[if_pos he]at hw;repeat (first|refine AWp.seq ?_|refine AWp.block ?_)
   apply AWp.reg [] []
   ·conv=>lhs;simp[he]
   ·trivial
   refine AWp.cy ?_;repeat (first|refine AWp.seq ?_|refine AWp.block ?_)
   apply AWp.reg [] []
   ·conv=>lhs;simp
   ·trivial
   refine AWp.ret ?_;try dsimp only[Qq,Q6]
   apply Qk.ret
   ·rfl
   ·conv=>lhs;simp[Q9,Tryz.results27]
   ·simp only[Tm.wrong,if_neg hdeep,if_neg hkk,hN0,hC0,if_neg hm,hh,hw,if_pos he,ne_eq,not_true_eq_false,if_false];rfl
   ·simp[Qx,Q4,Qj]
 have hi1:i=xs.length:=by have:=of_decide_eq_false h;omega
 subst hi1;rw[List.drop_length]at hw;simp only[Tm.J5]at hw;clear h;refine AWp.exit ?_;by_cases k7:k=7;rotate_left
 ·repeat (first|refine AWp.seq ?_|refine AWp.block ?_)
  apply AWp.reg [] []
  ·conv=>lhs;simp[k7,Qj]
  ·trivial
  refine AWp.cy ?_;repeat (first|refine AWp.seq ?_|refine AWp.block ?_)
  apply AWp.reg [] []
  ·conv=>lhs;simp
  ·trivial
  refine AWp.ret ?_;try dsimp only[Qq,Q6]
  apply Qk.ret
  ·rfl
  ·conv=>lhs;simp[Q9,Tryz.results27]
  ·simp only[Tm.wrong,if_neg hdeep,if_neg hkk,hN0,hC0,if_neg hm,hh,hw,if_pos k7,ne_eq,not_true_eq_false,if_false];rfl
  ·simp[Qx,Q4,Qj]
 subst k7;repeat (first|refine AWp.seq ?_|refine AWp.block ?_)
 apply AWp.reg [] []
 ·conv=>lhs;simp[Qj]
 ·trivial
 refine AWp.cn ?_;refine AWp.skip ?_;by_cases c0:C=0
 ·repeat (first|refine AWp.seq ?_|refine AWp.block ?_)
  apply AWp.reg [] []
  ·conv=>lhs;simp[Qj,hC,c0]
  ·trivial
  refine AWp.cy ?_;repeat (first|refine AWp.seq ?_|refine AWp.block ?_)
  apply AWp.reg [] []
  ·conv=>lhs;simp
  ·trivial
  refine AWp.ret ?_;try dsimp only[Qq,Q6]
  apply Qk.ret
  ·rfl
  ·conv=>lhs;simp[Q9,Tryz.results27]
  ·simp only[Tm.wrong,if_neg hdeep,if_neg hkk,hN0,hC0,if_neg hm,hh,hw,if_pos (show nc=0∨5<nc by omega),ne_eq,not_true_eq_false,if_false];rfl
  ·simp[Qx,Q4,Qj]
 by_cases c5:5<C
 ·repeat (first|refine AWp.seq ?_|refine AWp.block ?_)
  apply AWp.reg [] []
  ·conv=>lhs;simp[Qj,hC,c0,c5]
  ·trivial
  refine AWp.cy ?_;repeat (first|refine AWp.seq ?_|refine AWp.block ?_)
  apply AWp.reg [] []
  ·conv=>lhs;simp
  ·trivial
  refine AWp.ret ?_;try dsimp only[Qq,Q6]
  apply Qk.ret
  ·rfl
  ·conv=>lhs;simp[Q9,Tryz.results27]
  ·simp only[Tm.wrong,if_neg hdeep,if_neg hkk,hN0,hC0,if_neg hm,hh,hw,if_pos (show nc=0∨5<nc by omega),ne_eq,not_true_eq_false,if_false];rfl
  ·simp[Qx,Q4,Qj]
 repeat (first|refine AWp.seq ?_|refine AWp.block ?_)
 apply AWp.reg [] []
 ·conv=>lhs;simp[Qj,hC,c0,c5]
 ·trivial
 refine AWp.cn ?_;refine AWp.skip ?_;have hfin:Cs.J5 f names deep [] cs=Tm.wrong f (.mk 7 n a b vs xs cs) names deep:=by
  simp only[Tm.wrong,if_neg hdeep,if_neg hkk,hN0,hC0,if_neg hm,hh,hw,if_neg (show¬(nc=0∨5<nc)by omega),ne_eq,not_true_eq_false,if_false]
 repeat (first|refine AWp.seq ?_|refine AWp.block ?_)
 apply AWp.reg [] []
 ·conv=>lhs;simp[Qj]
 ·trivial
 repeat (first|refine AWp.seq ?_|refine AWp.block ?_)
 refine AWp.loop (σ:=fun u:{i:Nat // i≤cs.length∧Cs.J5 f names deep [] cs=Cs.J5 f names deep ((cs.take i).map Cs.tag).reverse (cs.drop i)}=>⟨235,[(0,.mp 1000),(2,Zk names),(3,.d (.int deep)),(5,.ptr 5 0),(177,.d (.sl (cs.map Cs.row))),(178,.d (.int cs.length)),(179,.d (.int u.1))],[(5,Qj 7 n a b vs xs cs),(1000,some (Fj f))]⟩)
  (μ:=fun u=>cs.length-u.1) ⟨0,Nat.zero_le _,rfl⟩ (Le.sub (by simp) (by simp[Qj])) (fun⟨i,hi,hw2⟩=>?_)
 dsimp only;repeat (first|refine AWp.seq ?_|refine AWp.block ?_)
 apply AWp.reg [] []
 ·conv=>lhs;simp
 ·trivial
 repeat (first|refine AWp.seq ?_|refine AWp.block ?_)
 refine AWp.cond rfl (fun h=>?_) (fun h=>?_);rotate_left
 ·have hi1:i=cs.length:=by have:=of_decide_eq_false h;omega
  subst hi1;rw[List.drop_length]at hw2;simp only[Cs.J5]at hw2;refine AWp.exit ?_;repeat (first|refine AWp.seq ?_|refine AWp.block ?_)
  apply AWp.reg [] []
  ·conv=>lhs;simp
  ·trivial
  refine AWp.ret ?_;try dsimp only[Qq,Q6]
  apply Qk.ret
  ·rfl
  ·conv=>lhs;simp[Q9,Tryz.results27]
  ·rw[←hfin,hw2];rfl
  ·simp[Qx,Q4,Qj]
 have hi1:i<cs.length:=by have:=of_decide_eq_true h;omega
 have h1:cs[i]? =some cs[i]:=List.getElem?_eq_getElem hi1;have hmem:cs[i]∈cs:=List.getElem_mem hi1;have hdr:cs.drop i=cs[i]::cs.drop (i+1):=List.drop_eq_getElem_cons hi1;generalize cs[i]=c at h1 hmem hdr;obtain⟨g,ws,x⟩:=c;have hsn:((cs.take (i+1)).map Cs.tag).reverse=g::((cs.take i).map Cs.tag).reverse:=by rw[List.take_add_one,h1];simp[Cs.tag]
 obtain⟨oc1,oc2⟩:=(hO.case hmem).body;have hws:=(hO.case hmem).sizes;rw[hdr]at hw2;simp only[Cs.J5]at hw2;rw[show(Cs.mk g ws x).tag=g from rfl,←hsn]at hw2;obtain⟨E,hE⟩:∃E,E=Cs.wrongC f names deep ((cs.take i).map Cs.tag).reverse (.mk g ws x):=⟨_,rfl⟩
 rw[←hE]at hw2;have hw3:=hw2;rw[hfin]at hw3;simp only[Cs.wrongC]at hE;have hal:((names++ws).length:Int)=names.length+ws.length:=by simp
 have hx:=fun q:((names++ws).length:Int)≤1048576+8 * (deep+1)=>ih x (names++ws) (deep+1) (by have:=Tm.O4 (k:=7) (n:=n) (a:=a) (b:=b) (vs:=vs) (xs:=xs) hmem;omega) oc1 (by omega) (by omega) q
 generalize x.wrong f (names++ws) (deep+1)=e at hx hE;have htw:=sp_twice ws (by omega);have hbd:=sp_bad ws (by omega) (fun s hs=>by have:=hws s hs;omega);refine AWp.skip ?_;obtain⟨xk,xn,xa,xb,xv,xx,xc⟩:=x;refine AWp.rg [] [] ?_ (hr:=by conv=>lhs;simp[h1,Cs.row,Tm.row,Tm.Q3,Cs.Q3,Qj]);by_cases g0:g<0
 ·rw[if_pos (show g<0∨9<g by omega)]at hE;repeat (first|refine AWp.seq ?_|refine AWp.block ?_)
  apply AWp.reg [] []
  ·conv=>lhs;simp[g0]
  ·trivial
  refine AWp.cy ?_;repeat (first|refine AWp.seq ?_|refine AWp.block ?_)
  apply AWp.reg [] []
  ·conv=>lhs;simp
  ·trivial
  refine AWp.ret ?_;try dsimp only[Qq,Q6]
  apply Qk.ret
  ·rfl
  ·conv=>lhs;simp[Q9,Tryz.results27]
  ·rw[hw3,hE];rfl
  ·simp[Qx,Q4,Qj]
 by_cases g9:9<g
 ·rw[if_pos (show g<0∨9<g by omega)]at hE;repeat (first|refine AWp.seq ?_|refine AWp.block ?_)
  apply AWp.reg [] []
  ·conv=>lhs;simp[g0,g9]
  ·trivial
  refine AWp.cy ?_;repeat (first|refine AWp.seq ?_|refine AWp.block ?_)
  apply AWp.reg [] []
  ·conv=>lhs;simp
  ·trivial
  refine AWp.ret ?_;try dsimp only[Qq,Q6]
  apply Qk.ret
  ·rfl
  ·conv=>lhs;simp[Q9,Tryz.results27]
  ·rw[hw3,hE];rfl
  ·simp[Qx,Q4,Qj]
 rw[if_neg (show¬(g<0∨9<g)by omega)]at hE;repeat (first|refine AWp.seq ?_|refine AWp.block ?_)
 apply AWp.reg [] []
 ·conv=>lhs;simp[g0,g9]
 ·trivial
 refine AWp.cn ?_;refine AWp.skip ?_;repeat (first|refine AWp.seq ?_|refine AWp.block ?_)
 apply AWp.reg [] []
 ·conv=>lhs;simp[Qj]
 ·exact⟨hi,fun i a _=>Cs.row_len a⟩
 repeat (first|refine AWp.seq ?_|refine AWp.block ?_)
 refine AWp.loop (σ:=fun u:{j:Nat // j≤i∧∀d∈cs.take j,d.tag≠g}=>⟨235,[(0,.mp 1000),(2,Zk names),(3,.d (.int deep)),(5,.ptr 5 0),(177,.d (.sl (cs.map Cs.row))),(178,.d (.int cs.length)),(179,.d (.int i)),(17,.ptr 17 0),(195,.d (.sl (List.take i (cs.map Cs.row)))),(196,.d (.int i)),(197,.d (.int u.1))],[(5,Qj 7 n a b vs xs cs),(17,csObj g ws xk xn xa xb xv xx xc),(1000,some (Fj f))]⟩)
  (μ:=fun u=>i-u.1) ⟨0,Nat.zero_le _,by simp⟩ (Le.sub (by simp[Nat.min_eq_left hi]) (by simp[Qj,csObj])) (fun⟨j,hj,hj2⟩=>?_)
 dsimp only;repeat (first|refine AWp.seq ?_|refine AWp.block ?_)
 apply AWp.reg [] []
 ·conv=>lhs;simp
 ·trivial
 repeat (first|refine AWp.seq ?_|refine AWp.block ?_)
 refine AWp.cond rfl (fun h3=>?_) (fun h3=>?_)
 ·have hj1:j<i:=by have:=of_decide_eq_true h3;omega
  have hjl:j<cs.length:=by omega
  have k1:cs[j]? =some cs[j]:=List.getElem?_eq_getElem hjl;have k2:cs[j]∈cs.take i:=List.mem_take_iff_getElem.2 ⟨j,by omega,rfl⟩;generalize cs[j]=d at k1 k2;obtain⟨g',ws',y⟩:=d;obtain⟨yk,yn,ya,yb,yv,yx,yc⟩:=y;refine AWp.skip ?_;refine AWp.rg [] [] ?_ (hr:=by conv=>lhs;simp[hj1,k1,Cs.row,Tm.row,Tm.Q3,Cs.Q3,Qj]);by_cases hg:g'=g
  ·subst hg;repeat (first|refine AWp.seq ?_|refine AWp.block ?_)
   apply AWp.reg [] []
   ·conv=>lhs;simp[csObj]
   ·trivial
   refine AWp.cy ?_;repeat (first|refine AWp.seq ?_|refine AWp.block ?_)
   apply AWp.reg [] []
   ·conv=>lhs;simp
   ·trivial
   refine AWp.ret ?_;try dsimp only[Qq,Q6]
   apply Qk.ret
   ·rfl
   ·conv=>lhs;simp[Q9,Tryz.results27]
   ·rw[if_pos (by
     have:(((cs.take i).map Cs.tag).reverse).contains g'=true:=by
      rw[List.contains_iff_mem,List.mem_reverse];exact List.mem_map.2 ⟨_,k2,rfl⟩
     rw[this];rfl)]at hE
    rw[hw3,hE];rfl
   ·simp[Qx,Q4,Qj]
  ·repeat (first|refine AWp.seq ?_|refine AWp.block ?_)
   apply AWp.reg [] []
   ·conv=>lhs;simp[hg,csObj]
   ·trivial
   refine AWp.cn ?_;refine AWp.skip ?_;refine AWp.rg [] [] ?_;refine⟨⟨j+1,by omega,?_⟩,by simp;omega,Le.sub (by simp[Qj]) (by simp[Qj,csObj])⟩;intro d hd;rw[List.take_add_one,k1]at hd;rcases List.mem_append.1 hd with hd|hd
   ·exact hj2 d hd
   ·simp at hd;subst hd;exact hg
 have hj1:j=i:=by have:=of_decide_eq_false h3;omega
 subst hj1;have hct:(((cs.take j).map Cs.tag).reverse).contains g=false:=by
  rw[←Bool.not_eq_true,List.contains_iff_mem,List.mem_reverse];intro hmm;obtain⟨d,hd,he⟩:=List.mem_map.1 hmm;exact hj2 d hd he
 rw[hct]at hE;simp only[Bool.false_or]at hE;clear h3;refine AWp.exit ?_;cases ht:twB ws with
 |true=>
  rw[ht]at htw hE;repeat (first|refine AWp.seq ?_|refine AWp.block ?_)
  apply AWp.reg [] [.p (fun _=>.d (.bool true)) none]
  ·conv=>lhs;simp[csObj]
  ·exact htw
  refine AWp.cy ?_;repeat (first|refine AWp.seq ?_|refine AWp.block ?_)
  apply AWp.reg [] []
  ·conv=>lhs;simp
  ·trivial
  refine AWp.ret ?_;try dsimp only[Qq,Q6]
  apply Qk.ret
  ·rfl
  ·conv=>lhs;simp[Q9,Tryz.results27]
  ·rw[hw3,hE];rfl
  ·simp[Qx,Q4,Qj]
 |false=>
 rw[ht]at htw hE;cases hbb:badB ws with
 |true=>
  rw[hbb]at hbd hE;repeat (first|refine AWp.seq ?_|refine AWp.block ?_)
  apply AWp.reg [] [.p (fun _=>.d (.bool false)) none,.p (fun _=>.d (.bool true)) none]
  ·conv=>lhs;simp[csObj]
  ·exact⟨htw,hbd⟩
  refine AWp.cy ?_;repeat (first|refine AWp.seq ?_|refine AWp.block ?_)
  apply AWp.reg [] []
  ·conv=>lhs;simp
  ·trivial
  refine AWp.ret ?_;try dsimp only[Qq,Q6]
  apply Qk.ret
  ·rfl
  ·conv=>lhs;simp[Q9,Tryz.results27]
  ·rw[hw3,hE];rfl
  ·simp[Qx,Q4,Qj]
 |false=>
 rw[hbb]at hbd hE;simp only[Bool.or_self,Bool.false_eq_true,if_false]at hE;repeat (first|refine AWp.seq ?_|refine AWp.block ?_)
 apply AWp.reg [] [.p (fun _=>.d (.bool false)) none,.p (fun _=>.d (.bool false)) none]
 ·conv=>lhs;simp[csObj]
 ·exact⟨htw,hbd⟩
 refine AWp.cn ?_;refine AWp.skip ?_;by_cases hl6:6<ws.length
 ·rw[if_pos hl6]at hE;have hl6':(6:Int)<ws.length:=by omega
  repeat (first|refine AWp.seq ?_|refine AWp.block ?_)
  apply AWp.reg [] []
  ·conv=>lhs;simp[csObj,hl6,hl6']
  ·trivial
  refine AWp.cy ?_;repeat (first|refine AWp.seq ?_|refine AWp.block ?_)
  apply AWp.reg [] []
  ·conv=>lhs;simp
  ·trivial
  refine AWp.ret ?_;try dsimp only[Qq,Q6]
  apply Qk.ret
  ·rfl
  ·conv=>lhs;simp[Q9,Tryz.results27]
  ·rw[hw3,hE];rfl
  ·simp[Qx,Q4,Qj]
 rw[if_neg hl6]at hE;subst hE;have hl6':¬(6:Int)<ws.length:=by omega
 repeat (first|refine AWp.seq ?_|refine AWp.block ?_)
 apply AWp.reg [] []
 ·conv=>lhs;simp[csObj,hl6,hl6']
 ·trivial
 refine AWp.cn ?_;refine AWp.skip ?_;have hx:=hx (by omega);obtain⟨nw,hnw⟩:∃nw,nw=names++ws:=⟨_,rfl⟩
 have hnw2:List.take (names.length+ws.length) (List.map Z0 names++List.map Z0 ws)=List.map Z0 nw:=by rw[hnw,List.map_append,List.take_of_length_le (by simp)]
 rw[←hnw]at hx;apply AWp.keep [0,2,3,5,177,178,179,17] [5,17,1000]
 ·conv=>lhs;simp[Dq,Zj]
 ·conv=>lhs;simp[Dw,Q4]
 repeat (first|refine AWp.seq ?_|refine AWp.block ?_)
 apply AWp.draw [8] [.c [] [.mp 1000,X9 (.mk xk xn xa xb xv xx xc),Zk nw,.d (.int (deep+1))] [(1000,Fj f)] (.d (.int E)) [(1000,Fj f)]] mixed
 ·conv=>lhs;simp[csObj,hnw2,X9]
 ·kernel_rfl
 ·exact⟨by simp[maxLen];omega,by simp[maxLen];omega,by simp[inI];omega,hx⟩
 by_cases he:E=0
 ·subst he;simp only[ne_eq,not_true_eq_false,if_false]at hw2;repeat (first|refine AWp.seq ?_|refine AWp.block ?_)
  apply AWp.reg [] []
  ·conv=>lhs;simp
  ·trivial
  refine AWp.cn ?_;refine AWp.skip ?_;refine AWp.rg [] [] ?_;refine⟨⟨j+1,hi1,hw2⟩,by simp;omega,Le.sub (by simp[Qj]) (by simp[Qj])⟩
 ·rw[if_pos he]at hw3;repeat (first|refine AWp.seq ?_|refine AWp.block ?_)
  apply AWp.reg [] []
  ·conv=>lhs;simp[he]
  ·trivial
  refine AWp.cy ?_;repeat (first|refine AWp.seq ?_|refine AWp.block ?_)
  apply AWp.reg [] []
  ·conv=>lhs;simp
  ·trivial
  refine AWp.ret ?_;try dsimp only[Qq,Q6]
  apply Qk.ret
  ·rfl
  ·conv=>lhs;simp[Q9,Tryz.results27]
  ·rw[hw3];rfl
  ·simp[Qx,Q4,Qj]
theorem cs_Wrong (f:Jj) (t:Tm) (names:List ByteArray) (hO:t.Ok) (hn:names.length≤1048576):
  Qv Tryz.prog 27 [.mp 1000,X9 t,Zk names,.d (.int 0)] [(1000,Fj f)] (.d (.int (t.wrong f names 0))) [(1000,Fj f)]:=
 cs_Wrong_at f _ t names 0 (Nat.lt_succ_self _) hO (by omega) (by omega) (by omega)
theorem arD_put {f:Jj} {g:ByteArray} {n:Nat} (h:f.get g=none):D.Fz (.str g) [.int n] (arD f)=arD ((g,n)::f):=by
 unfold D.Fz;rw[D.adel_all]
 ·rfl
 ·intro p hp;unfold arD at hp;obtain⟨t,ht,rfl⟩:=List.mem_map.1 hp;intro e;simp only[D.str.injEq]at e;subst e;unfold Jj.get at h;rw[Option.map_eq_none_iff,List.find?_eq_none]at h;have:=h t ht;simp at this
theorem sp_refCheck (l:List Fn) (hl:M9 l):Z4 Tryz.prog 9 [L6 l] (fun _=>.d (.int (Kz l))) none:=by
 have hll:=hl.len;obtain⟨C,hC⟩:∃C:Int,(l.length:Int)=C:=⟨_,rfl⟩
 refine Z4.of Tryz.func9 rfl rfl rfl (Nat.le_of_ble_eq_true rfl) ?_;show AWp _ _ (Z8 _ Tryz.f9 _ _ _) (Z7 81 _);refine AWp.rg [] [] ?_ (hr:=by conv=>lhs;simp[hC,Fn.row,Tm.row,Tm.Q3,Cs.Q3]);by_cases q1:C=0
 ·refine AWp.rg [] [] ?_ (hr:=by conv=>lhs;simp[hC,Fn.row,Tm.row,Tm.Q3,Cs.Q3,q1]);refine AWp.cy ?_;refine AWp.rg [] [] ?_ (hr:=by conv=>lhs;simp[hC,Fn.row,Tm.row,Tm.Q3,Cs.Q3,q1]);refine AWp.ret ?_;try dsimp only[Qq,Q6]
  apply Z8.ret
  ·rfl
  ·conv=>lhs;simp[Q9,Tryz.results9]
  ·rw[Kz,if_pos (show l.length=0∨6<l.length by omega)];rfl
 by_cases q2:6<C
 ·refine AWp.rg [] [] ?_ (hr:=by conv=>lhs;simp[hC,Fn.row,Tm.row,Tm.Q3,Cs.Q3,q1,q2]);refine AWp.cy ?_;refine AWp.rg [] [] ?_ (hr:=by conv=>lhs;simp[hC,Fn.row,Tm.row,Tm.Q3,Cs.Q3,q1,q2]);refine AWp.ret ?_;try dsimp only[Qq,Q6]
  apply Z8.ret
  ·rfl
  ·conv=>lhs;simp[Q9,Tryz.results9]
  ·rw[Kz,if_pos (show l.length=0∨6<l.length by omega)];rfl
 refine AWp.rg [] [] ?_ (hr:=by conv=>lhs;simp[hC,Fn.row,Tm.row,Tm.Q3,Cs.Q3,q1,q2]);refine AWp.cn ?_;refine AWp.skip ?_;have hlen:¬(l.length=0∨6<l.length):=by omega
 refine AWp.rg [] [] ?_ (hr:=by conv=>lhs;simp[hC,Fn.row,Tm.row,Tm.Q3,Cs.Q3,q1,q2]);refine AWp.rg [] [] ?_ (hr:=by conv=>lhs;simp[hC,Fn.row,Tm.row,Tm.Q3,Cs.Q3,q1,q2]);repeat (first|refine AWp.seq ?_|refine AWp.block ?_)
 refine AWp.loop (σ:=fun u:{i:Nat // i≤l.length∧Ow [] l=Ow (Qv5 (l.take i)) (l.drop i)}=>⟨81,[(0,L6 l),(3,.mp 19),(20,L6 l),(21,.d (.int l.length)),(22,.d (.int u.1))],[(19,some (Fj (Qv5 (l.take u.1))))]⟩)
  (μ:=fun u=>l.length-u.1) ⟨0,Nat.zero_le _,rfl⟩ (Le.sub (by simp[Qv5,Fj,arD,hC,nmObj]) (by simp[Qv5,Fj,arD,hC,nmObj])) (fun⟨i,hi,hwi⟩=>?_)
 dsimp only;repeat (first|refine AWp.seq ?_|refine AWp.block ?_)
 apply AWp.reg [] []
 ·conv=>lhs;simp
 ·trivial
 repeat (first|refine AWp.seq ?_|refine AWp.block ?_)
 refine AWp.cond rfl (fun hci=>?_) (fun hci=>?_)
 ·have hi1:i<l.length:=by have:=of_decide_eq_true hci;omega
  have h1c:l[i]? =some l[i]:=List.getElem?_eq_getElem hi1;have hmc:l[i]∈l:=List.getElem_mem hi1;have hdc:l.drop i=l[i]::l.drop (i+1):=List.drop_eq_getElem_cons hi1;generalize l[i]=c at h1c hmc hdc;obtain⟨g,ps,bd⟩:=c;have hsn:Qv5 (l.take (i+1))=(g,ps.length)::Qv5 (l.take i):=by rw[List.take_add_one,h1c];exact arOf_snoc _ _
  obtain⟨o1,o2,o3,o4⟩:=hl.all _ hmc;dsimp only at o1 o2 o3 o4;rw[hdc]at hwi;simp only[Ow]at hwi;rw[←hsn]at hwi;obtain⟨f,hf⟩:∃f,f=Qv5 (l.take i):=⟨_,rfl⟩
  rw[←hf]at hwi hsn⊢;obtain⟨E,hE⟩:∃E,E=Fn.J9 f ⟨g,ps,bd⟩:=⟨_,rfl⟩
  rw[←hE]at hwi;simp only[Fn.J9]at hE;have hNm:=sp_Name g (by omega);have hTw:=sp_twice ps (by omega);have hBd:=sp_bad ps (by omega) (fun s hs=>by have:=o3 s hs;omega);have hSz:=sp_refSize bd o4;obtain⟨S,hS⟩:∃S,S=wr bd.sz:=⟨_,rfl⟩
  rw[←hS]at hSz hE;obtain⟨B,hB⟩:∃B:Int,(ps.length:Int)=B:=⟨_,rfl⟩
  obtain⟨xk,xn,xa,xb,xv,xx,xc⟩:=bd;refine AWp.skip ?_;refine AWp.rg [] [] ?_ (hr:=by conv=>lhs;simp[hC,Fn.row,Tm.row,Tm.Q3,Cs.Q3,h1c,hB,q1,q2]);cases hg:f.get g with
  |some m=>
   refine AWp.rg [] [] ?_ (hr:=by conv=>lhs;simp[hC,Fn.row,Tm.row,Tm.Q3,Cs.Q3,h1c,hB,Kk,hg,q1,q2]);refine AWp.rg [] [] ?_ (hr:=by conv=>lhs;simp[hC,Fn.row,Tm.row,Tm.Q3,Cs.Q3,h1c,hB,Kk,hg,q1,q2]);refine AWp.cy ?_;refine AWp.rg [] [] ?_ (hr:=by conv=>lhs;simp[hC,Fn.row,Tm.row,Tm.Q3,Cs.Q3,h1c,hB,Kk,hg,q1,q2]);refine AWp.ret ?_;rw[if_pos (by simp[hg])]at hE;rw[if_pos (by omega)]at hwi;try dsimp only[Qq,Q6]
   apply Z8.ret
   ·rfl
   ·conv=>lhs;simp[Q9,Tryz.results9]
   ·rw[Kz,if_neg hlen,hwi,if_pos (by omega),hE];rfl
  |none=>
   refine AWp.rg [] [] ?_ (hr:=by conv=>lhs;simp[hC,Fn.row,Tm.row,Tm.Q3,Cs.Q3,h1c,hB,Kk,hg,q1,q2]);cases q3:R7 g with
   |true=>
    rw[q3]at hNm;cases q4:twB ps with
    |true=>
     rw[q4]at hTw;refine AWp.rg [] [.p (fun _=>.d (.bool true)) none,.p (fun _=>.d (.bool true)) none] ?_ (hr:=by conv=>lhs;simp[hC,Fn.row,Tm.row,Tm.Q3,Cs.Q3,h1c,hB,Kk,hg,q3,q4,q1,q2]);refine AWp.cy ?_;refine AWp.rg [] [] ?_ (hr:=by conv=>lhs;simp[hC,Fn.row,Tm.row,Tm.Q3,Cs.Q3,h1c,hB,Kk,hg,q3,q4,q1,q2]);refine AWp.ret ?_;rw[if_pos (by simp[hg,q3,q4])]at hE;rw[if_pos (by omega)]at hwi;try dsimp only[Qq,Q6]
     apply Z8.ret
     ·rfl
     ·conv=>lhs;simp[Q9,Tryz.results9]
     ·rw[Kz,if_neg hlen,hwi,if_pos (by omega),hE];rfl
    |false=>
     rw[q4]at hTw;cases q5:badB ps with
     |true=>
      rw[q5]at hBd;refine AWp.rg [] [.p (fun _=>.d (.bool true)) none,.p (fun _=>.d (.bool false)) none,.p (fun _=>.d (.bool true)) none] ?_ (hr:=by conv=>lhs;simp[hC,Fn.row,Tm.row,Tm.Q3,Cs.Q3,h1c,hB,Kk,hg,q3,q4,q5,q1,q2]);refine AWp.cy ?_;refine AWp.rg [] [] ?_ (hr:=by conv=>lhs;simp[hC,Fn.row,Tm.row,Tm.Q3,Cs.Q3,h1c,hB,Kk,hg,q3,q4,q5,q1,q2]);refine AWp.ret ?_;rw[if_pos (by simp[hg,q3,q4,q5])]at hE;rw[if_pos (by omega)]at hwi;try dsimp only[Qq,Q6]
      apply Z8.ret
      ·rfl
      ·conv=>lhs;simp[Q9,Tryz.results9]
      ·rw[Kz,if_neg hlen,hwi,if_pos (by omega),hE];rfl
     |false=>
      rw[q5]at hBd;refine AWp.rg [] [.p (fun _=>.d (.bool true)) none,.p (fun _=>.d (.bool false)) none,.p (fun _=>.d (.bool false)) none] ?_ (hr:=by conv=>lhs;simp[hC,Fn.row,Tm.row,Tm.Q3,Cs.Q3,h1c,hB,Kk,hg,q3,q4,q5,q1,q2]);refine AWp.cn ?_;refine AWp.skip ?_;by_cases q6:6<B
      ·refine AWp.rg [] [] ?_ (hr:=by conv=>lhs;simp[hC,Fn.row,Tm.row,Tm.Q3,Cs.Q3,h1c,hB,Kk,hg,q3,q4,q5,q1,q2,q6]);refine AWp.cy ?_;refine AWp.rg [] [] ?_ (hr:=by conv=>lhs;simp[hC,Fn.row,Tm.row,Tm.Q3,Cs.Q3,h1c,hB,Kk,hg,q3,q4,q5,q1,q2,q6]);refine AWp.ret ?_;rw[if_neg (by simp[hg,q3,q4,q5]),if_pos (show 6<ps.length by omega)]at hE;rw[if_pos (by omega)]at hwi;try dsimp only[Qq,Q6]
       apply Z8.ret
       ·rfl
       ·conv=>lhs;simp[Q9,Tryz.results9]
       ·rw[Kz,if_neg hlen,hwi,if_pos (by omega),hE];rfl
      refine AWp.rg [] [] ?_ (hr:=by conv=>lhs;simp[hC,Fn.row,Tm.row,Tm.Q3,Cs.Q3,h1c,hB,Kk,hg,q3,q4,q5,q1,q2,q6]);refine AWp.cn ?_;refine AWp.skip ?_;by_cases q7:400<S
      ·refine AWp.rg [] [.p (fun _=>.d (.int S)) none] ?_ (hr:=by conv=>lhs;simp[hC,Fn.row,Tm.row,Tm.Q3,Cs.Q3,h1c,hB,Kk,hg,q3,q4,q5,q1,q2,q6,q7]);refine AWp.cy ?_;refine AWp.rg [] [] ?_ (hr:=by conv=>lhs;simp[hC,Fn.row,Tm.row,Tm.Q3,Cs.Q3,h1c,hB,Kk,hg,q3,q4,q5,q1,q2,q6,q7]);refine AWp.ret ?_;rw[if_neg (by simp[hg,q3,q4,q5]),if_neg (show¬6<ps.length by omega),if_pos (show 400<S by omega)]at hE;rw[if_pos (by omega)]at hwi;try dsimp only[Qq,Q6]
       apply Z8.ret
       ·rfl
       ·conv=>lhs;simp[Q9,Tryz.results9]
       ·rw[Kz,if_neg hlen,hwi,if_pos (by omega),hE];rfl
      refine AWp.rg [] [.p (fun _=>.d (.int S)) none] ?_ (hr:=by conv=>lhs;simp[hC,Fn.row,Tm.row,Tm.Q3,Cs.Q3,h1c,hB,Kk,hg,q3,q4,q5,q1,q2,q6,q7]);refine AWp.cn ?_;refine AWp.skip ?_;rw[if_neg (by simp[hg,q3,q4,q5]),if_neg (show¬6<ps.length by omega),if_neg (show¬400<S by omega)]at hE;rw[if_neg (show¬(E≠0)by omega)]at hwi;have hput:D.Fz (.str g) [.int B] (arD f)=arD ((g,ps.length)::f):=by rw[←hB];exact arD_put hg
      refine AWp.rg [] [] ?_ (hr:=by conv=>lhs;simp[hC,Fn.row,Tm.row,Tm.Q3,Cs.Q3,h1c,hB,Kk,hg,q3,q4,q5,hput,q1,q2,q6,q7]);refine AWp.rg [] [] ?_ (hr:=by conv=>lhs;simp[hC,Fn.row,Tm.row,Tm.Q3,Cs.Q3,h1c,hB,Kk,hg,q3,q4,q5,hput,q1,q2,q6,q7]);refine⟨⟨i+1,hi1,hwi⟩,by simp;omega,?_⟩;dsimp only;rw[hsn];exact Le.sub (by simp[hC]) (by simp[nmObj])
   |false=>
    rw[q3]at hNm;refine AWp.rg [] [.p (fun _=>.d (.bool false)) none] ?_ (hr:=by conv=>lhs;simp[hC,Fn.row,Tm.row,Tm.Q3,Cs.Q3,h1c,hB,Kk,hg,q3,q1,q2]);refine AWp.cy ?_;refine AWp.rg [] [] ?_ (hr:=by conv=>lhs;simp[hC,Fn.row,Tm.row,Tm.Q3,Cs.Q3,h1c,hB,Kk,hg,q3,q1,q2]);refine AWp.ret ?_;rw[if_pos (by simp[hg,q3])]at hE;rw[if_pos (by omega)]at hwi;try dsimp only[Qq,Q6]
    apply Z8.ret
    ·rfl
    ·conv=>lhs;simp[Q9,Tryz.results9]
    ·rw[Kz,if_neg hlen,hwi,if_pos (by omega),hE];rfl
 have hi1:i=l.length:=by have:=of_decide_eq_false hci;omega
 subst hi1;clear hci;rw[List.drop_length]at hwi;simp only[Ow]at hwi;rw[List.take_length];have hall:=heads_zero hwi;refine AWp.exit ?_;refine AWp.rg [] [] ?_ (hr:=by conv=>lhs;simp[hC,Fn.row,Tm.row,Tm.Q3,Cs.Q3,q1,q2]);repeat (first|refine AWp.seq ?_|refine AWp.block ?_)
 refine AWp.loop (σ:=fun u:{j:Nat // j≤l.length∧Oq (Qv5 l) l=Oq (Qv5 l) (l.drop j)}=>⟨81,[(0,L6 l),(3,.mp 19),(65,L6 l),(66,.d (.int l.length)),(67,.d (.int u.1))],[(19,some (Fj (Qv5 l)))]⟩)
  (μ:=fun u=>l.length-u.1) ⟨0,Nat.zero_le _,rfl⟩ (Le.sub (by simp[hC,nmObj]) (by simp[hC,nmObj])) (fun⟨j,hi,hwj⟩=>?_)
 dsimp only;repeat (first|refine AWp.seq ?_|refine AWp.block ?_)
 apply AWp.reg [] []
 ·conv=>lhs;simp
 ·trivial
 repeat (first|refine AWp.seq ?_|refine AWp.block ?_)
 refine AWp.cond rfl (fun hcj=>?_) (fun hcj=>?_)
 ·have hi1:j<l.length:=by have:=of_decide_eq_true hcj;omega
  have h1c:l[j]? =some l[j]:=List.getElem?_eq_getElem hi1;have hmc:l[j]∈l:=List.getElem_mem hi1;have hdc:l.drop j=l[j]::l.drop (j+1):=List.drop_eq_getElem_cons hi1;generalize l[j]=c at h1c hmc hdc;have hps:=(hall _ hmc).2.2.2.1;obtain⟨g,ps,bd⟩:=c;obtain⟨o1,o2,o3,o4⟩:=hl.all _ hmc;dsimp only at o1 o2 o3 o4 hps;rw[hdc]at hwj;simp only[Oq]at hwj;have hx:=cs_Wrong (Qv5 l) bd ps o4 (by omega);obtain⟨E,hE⟩:∃E,E=bd.wrong (Qv5 l) ps 0:=⟨_,rfl⟩
  rw[←hE]at hwj hx;obtain⟨xk,xn,xa,xb,xv,xx,xc⟩:=bd;refine AWp.skip ?_;refine AWp.rg [] [] ?_ (hr:=by conv=>lhs;simp[hC,Fn.row,Tm.row,Tm.Q3,Cs.Q3,h1c,q1,q2]);refine AWp.rg [] [.c [(1000,19)] [.mp 1000,X9 (.mk xk xn xa xb xv xx xc),Zk ps,.d (.int 0)] [(1000,Fj (Qv5 l))] (.d (.int E)) [(1000,Fj (Qv5 l))]] ?_ (hr:=by conv=>lhs;simp[hC,Fn.row,Tm.row,Tm.Q3,Cs.Q3,h1c,q1,q2]);by_cases q8:E=0
  ·refine AWp.rg [] [] ?_ (hr:=by conv=>lhs;simp[hC,Fn.row,Tm.row,Tm.Q3,Cs.Q3,h1c,q1,q2,q8]);refine AWp.cn ?_;refine AWp.skip ?_;rw[if_neg (show¬(E≠0)by omega)]at hwj;refine AWp.rg [] [] ?_ (hr:=by conv=>lhs;simp[hC,Fn.row,Tm.row,Tm.Q3,Cs.Q3,h1c,q1,q2,q8]);refine⟨⟨j+1,hi1,hwj⟩,by simp;omega,?_⟩;dsimp only;exact Le.sub (by simp[hC]) (by simp[nmObj])
  refine AWp.rg [] [] ?_ (hr:=by conv=>lhs;simp[hC,Fn.row,Tm.row,Tm.Q3,Cs.Q3,h1c,q1,q2,q8]);refine AWp.cy ?_;refine AWp.rg [] [] ?_ (hr:=by conv=>lhs;simp[hC,Fn.row,Tm.row,Tm.Q3,Cs.Q3,h1c,q1,q2,q8]);refine AWp.ret ?_;rw[if_pos (by omega)]at hwj;try dsimp only[Qq,Q6]
  apply Z8.ret
  ·rfl
  ·conv=>lhs;simp[Q9,Tryz.results9]
  ·rw[Kz,if_neg hlen,hwi,if_neg (by omega),hwj];rfl
 have hi1:j=l.length:=by have:=of_decide_eq_false hcj;omega
 subst hi1;clear hcj;rw[List.drop_length]at hwj;simp only[Oq]at hwj;refine AWp.exit ?_;refine AWp.rg [] [] ?_ (hr:=by conv=>lhs;simp[hC,Fn.row,Tm.row,Tm.Q3,Cs.Q3,q1,q2]);refine AWp.ret ?_;try dsimp only[Qq,Q6]
 apply Z8.ret
 ·rfl
 ·conv=>lhs;simp[Q9,Tryz.results9]
 ·rw[Kz,if_neg hlen,hwi,if_neg (by omega),hwj];rfl
abbrev Env:=List (ByteArray×Vl)
def H9:Env→ByteArray→Option Vl
 |[],_=>none
 |(x,v)::r,s=>if x=s then some v else H9 r s
abbrev zeroV:Vl:=.mk false 0 []
def envVal (e:Env) (s:ByteArray):Vl:=(H9 e s).getD zeroV
def bi (b:Bool):Int:=if b then 1 else 0
end Go.Proofs.YtjpldhjgehoffaaGreatDoor
namespace Go.Proofs.YtjpldhjgehoffaaGreatDoor
open Go.RowKit
set_option linter.unusedVariables false
set_option linter.unusedSimpArgs false
theorem vNm_le (c:Int):(vNm (wr c)).size≤140737488355328:=by
 have:=vsz (wr c) (wr_in c);omega
theorem nowP_le:∀(ps:Ps) (s:ByteArray),s.size≤140737488355328→(∀p∈ps,p.2.size≤140737488355328)→(nowP ps s).size≤140737488355328:=by
 intro ps s hs hp;unfold nowP;have:∀(ps:Ps) (o:ByteArray),o.size≤140737488355328→(∀p∈ps,p.2.size≤140737488355328)→(ps.foldl (fun o p=>if p.1=s then p.2 else o) o).size≤140737488355328:=by
  intro ps;induction ps with
  |nil=>intro o ho _;exact ho
  |cons p r ih=>
   intro o ho h;simp only[List.foldl_cons];refine ih _ ?_ fun q hq=>h q (List.mem_cons_of_mem _ hq)
   split
   ·exact h p (List.mem_cons_self ..)
   ·exact ho
 exact this ps s hs hp
theorem Qx0:∀(l:List ByteArray) (c:Int),∀s∈J2 l c,s.size≤140737488355328
 |[],_,s,h=>by cases h
 |_::r,c,s,h=>by
  rw[J2]at h;rcases List.mem_cons.1 h with rfl|h
  ·exact vNm_le _
  ·exact Qx0 r _ s h
theorem rn_ok:∀(d:Nat) (t:Tm) (ps:Ps) (c:Int),t.Rt d→t.Ok→(∀p∈ps,p.2.size≤140737488355328)→(t.rn ps c).1.Ok:=by
 intro d;induction d with
 |zero=>intro t _ _ h;exact h.elim
 |succ d ih=>
 intro t ps c hR hO hps;obtain⟨k,n,a,b,vs,xs,cs⟩:=t;obtain⟨_,_,_,hx,hc⟩:=hR;obtain⟨⟨o1,o2,o3⟩,⟨o4,o5,o6⟩,o7,o8⟩:=hO;rw[Tm.X8]at o7;rw[Cs.X8]at o8;have hL:∀(ys:List Tm) (i:Nat) (nm:ByteArray) (c:Int),(∀y∈ys,y∈xs)→nm.size≤140737488355328→Tm.Oks (Tm.rns k a ps i ys nm c).1∧(Tm.rns k a ps i ys nm c).2.1.size≤140737488355328∧(Tm.rns k a ps i ys nm c).1.length=ys.length:=by
  intro ys;induction ys with
  |nil=>intro i nm c _ h;exact⟨trivial,h,rfl⟩
  |cons y r ih2=>
   intro i nm c hm hn;have hy:=hm y (List.mem_cons_self ..);rw[Tm.rns];split
   ·have h1:=ih y (ps++[(a,vNm (wr (c+1)))]) (wr (c+1)) (hx y hy) (o7 y hy) (fun p hp=>(List.mem_append.1 hp).elim (hps p) fun hp=>by rw[List.mem_singleton.1 hp];exact vNm_le _);obtain⟨h2,h3,h4⟩:=ih2 (i+1) (vNm (wr (c+1))) (y.rn (ps++[(a,vNm (wr (c+1)))]) (wr (c+1))).2 (fun z hz=>hm z (List.mem_cons_of_mem _ hz)) (vNm_le _);exact⟨⟨h1,h2⟩,h3,by simp[h4]⟩
   ·have h1:=ih y ps c (hx y hy) (o7 y hy) hps;obtain⟨h2,h3,h4⟩:=ih2 (i+1) nm (y.rn ps c).2 (fun z hz=>hm z (List.mem_cons_of_mem _ hz)) hn;exact⟨⟨h1,h2⟩,h3,by simp[h4]⟩
 have hC:∀(ys:List Cs) (c:Int),(∀y∈ys,y∈cs)→Cs.Oks (Cs.rnL ys ps c).1∧(Cs.rnL ys ps c).1.length=ys.length:=by
  intro ys;induction ys with
  |nil=>intro c _;exact⟨trivial,rfl⟩
  |cons y r ih2=>
   intro c hm;have hy:=hm y (List.mem_cons_self ..);obtain⟨t,ws,y⟩:=y;obtain⟨hw,hyR⟩:=hc _ hy;obtain⟨p1,p2,p3⟩:=o8 _ hy;rw[Cs.rnL,Cs.rn];have h1:=ih y (ps++ws.zip (J2 ws c)) (U7 ws c) hyR p3 (fun p hp=>(List.mem_append.1 hp).elim (hps p) fun hp=>Qx0 ws c _ (List.of_mem_zip hp).2);obtain⟨h2,h4⟩:=ih2 (y.rn (ps++ws.zip (J2 ws c)) (U7 ws c)).2 fun z hz=>hm z (List.mem_cons_of_mem _ hz)
   exact⟨⟨⟨Qx0 ws c,by rw[Wx];exact p2,h1⟩,h2⟩,by simp[h4]⟩
 rw[Tm.rn];split
 ·exact⟨⟨nowP_le ps a o1 hps,o2,o3⟩,⟨o4,by simp,by simp⟩,trivial,trivial⟩
 ·obtain⟨h1,h2,h3⟩:=hL xs 0 a c (fun y hy=>hy) o1;obtain⟨h4,h5⟩:=hC cs (Tm.rns k a ps 0 xs a c).2.2 fun y hy=>hy
  exact⟨⟨h2,o2,o3⟩,⟨o4,by rw[h3];exact o5,by rw[h5];exact o6⟩,h1,h4⟩
theorem Fn.rn_ok (f:Fn) (hb:f.body.Ok) (hr:f.body.Rt 25):f.rn.body.Ok:=
 Go.Proofs.YtjpldhjgehoffaaGreatDoor.rn_ok 25 f.body _ _ hr hb fun p hp=>Qx0 _ _ _ (List.of_mem_zip hp).2
theorem P9 {l:List Fn} (hl:M9 l) (h:Kz l=0):∀f∈l,f.body.Ok∧f.body.Rt 25∧f.params.length≤6:=fun f hf=>by
 have hr:=(Qv1 h).2.2.2 f hf;exact⟨(hl.all f hf).body,wrong_rt _ 25 _ _ 0 (by omega) hr.wrong,hr.params⟩
def wNm (c:Int):ByteArray:=⟨#[119]⟩++Gj c
theorem Dv:((⟨#[119]⟩:ByteArray).size≤maxLen)=True:=eq_true (by show 1≤9223372036854775807;omega)
theorem wsz (e:Int) (h:inI e):(wNm e).size≤22:=by
 have:=Rx h;show(⟨#[119]⟩++Gj e:ByteArray).size≤22;rw[ByteArray.size_append];have h1:(⟨#[119]⟩:ByteArray).size=1:=rfl;omega
theorem wNm_le (c:Int):(wNm (wr c)).size≤140737488355328:=by
 have:=wsz (wr c) (wr_in c);omega
abbrev Bs:=List (ByteArray×Tm)
def Tm.tk:Tm→Int
 | .mk k _ _ _ _ _ _=>k
def varT (s:ByteArray):Tm:=.mk 1 0 s .empty [] [] []
def around:Bs→Tm→Tm
 |[],t=>t
 |b::r,t=>.mk 6 0 b.1 .empty [] [b.2,around r t] []
theorem around_append:∀(x y:Bs) (t:Tm),around (x++y) t=around x (around y t)
 |[],_,_=>rfl
 |b::r,y,t=>by simp only[List.cons_append,around,around_append r y t]
mutual
def Tm.pl:Tm→Int→Tm×Int
 | .mk k n a b vs xs cs,c=>
  if k=3∨k=4∨k=5 then (around (Tm.ats xs c).2.1 (.mk k n a .empty [] (Tm.ats xs c).1 []),(Tm.ats xs c).2.2)
  else if k=6 then (.mk 6 0 a .empty [] (Tm.plL xs c).1 [],(Tm.plL xs c).2)
  else if k=7 then (around (Tm.ats xs c).2.1 (.mk 7 0 .empty .empty [] (Tm.ats xs c).1 (Cs.plL cs (Tm.ats xs c).2.2).1),(Cs.plL cs (Tm.ats xs c).2.2).2)
  else (.mk k n a b vs xs cs,c)
def Tm.ats:List Tm→Int→List Tm×Bs×Int
 |[],c=>([],[],c)
 |x::r,c=>if x.tk=1 then (x::(Tm.ats r c).1,(Tm.ats r c).2.1,(Tm.ats r c).2.2)
  else (varT (wNm (wr (c+1)))::(Tm.ats r (x.pl (wr (c+1))).2).1,(wNm (wr (c+1)),(x.pl (wr (c+1))).1)::(Tm.ats r (x.pl (wr (c+1))).2).2.1,(Tm.ats r (x.pl (wr (c+1))).2).2.2)
def Tm.plL:List Tm→Int→List Tm×Int
 |[],c=>([],c)
 |x::r,c=>((x.pl c).1::(Tm.plL r (x.pl c).2).1,(Tm.plL r (x.pl c).2).2)
def Cs.plL:List Cs→Int→List Cs×Int
 |[],c=>([],c)
 |d::r,c=>((d.pl c).1::(Cs.plL r (d.pl c).2).1,(Cs.plL r (d.pl c).2).2)
def Cs.pl:Cs→Int→Cs×Int
 | .mk t ws y,c=>(.mk t ws (y.pl c).1,(y.pl c).2)
end
theorem ats_len:∀(l:List Tm) (c:Int),(Tm.ats l c).1.length=l.length
 |[],_=>rfl
 |x::r,c=>by
  rw[Tm.ats];split<;> simp[ats_len r]
def Fn.pl (f:Fn):Fn:=⟨f.rn.name,f.rn.params,(f.rn.body.pl 0).1⟩
theorem O6:∀(d:Nat) (t:Tm) (ps:Ps) (c:Int),t.Rt d→(t.rn ps c).1.Rt d:=by
 intro d;induction d with
 |zero=>intro t _ _ h;exact h.elim
 |succ d ih=>
 intro t ps c hR;obtain⟨k,n,a,b,vs,xs,cs⟩:=t;obtain⟨h1,h2,h3,hx,hc⟩:=hR;have hL:∀(ys:List Tm) (i:Nat) (nm:ByteArray) (c:Int),(∀y∈ys,y∈xs)→(∀y∈(Tm.rns k a ps i ys nm c).1,y.Rt d)∧(Tm.rns k a ps i ys nm c).1.length=ys.length:=by
  intro ys;induction ys with
  |nil=>intro i nm c _;exact⟨fun y h=>by simp[Tm.rns]at h,rfl⟩
  |cons y r ih2=>
   intro i nm c hm;have hy:=hm y (List.mem_cons_self ..);rw[Tm.rns];split
   ·obtain⟨h2,h4⟩:=ih2 (i+1) (vNm (wr (c+1))) (y.rn (ps++[(a,vNm (wr (c+1)))]) (wr (c+1))).2 (fun z hz=>hm z (List.mem_cons_of_mem _ hz));exact⟨fun z hz=>(List.mem_cons.1 hz).elim (fun e=>e▸ih y _ _ (hx y hy)) (h2 z),by simp[h4]⟩
   ·obtain⟨h2,h4⟩:=ih2 (i+1) nm (y.rn ps c).2 (fun z hz=>hm z (List.mem_cons_of_mem _ hz));exact⟨fun z hz=>(List.mem_cons.1 hz).elim (fun e=>e▸ih y _ _ (hx y hy)) (h2 z),by simp[h4]⟩
 have hC:∀(ys:List Cs) (c:Int),(∀y∈ys,y∈cs)→(∀y∈(Cs.rnL ys ps c).1,y.2.length≤6∧y.3.Rt d)∧(Cs.rnL ys ps c).1.length=ys.length:=by
  intro ys;induction ys with
  |nil=>intro c _;exact⟨fun y h=>by simp[Cs.rnL]at h,rfl⟩
  |cons y r ih2=>
   intro c hm;have hy:=hc y (hm y (List.mem_cons_self ..));rw[Cs.rnL];obtain⟨h2,h4⟩:=ih2 (y.rn ps c).2 (fun z hz=>hm z (List.mem_cons_of_mem _ hz));obtain⟨t,ws,z⟩:=y;refine⟨fun z hz=>(List.mem_cons.1 hz).elim (fun e=>?_) (h2 z),by simp[h4]⟩;rw[e,Cs.rn];exact⟨by dsimp only;rw[Wx];exact hy.1,ih _ _ _ hy.2⟩
 rw[Tm.rn];split
 ·rename_i hk;subst hk;have h2':=h2;unfold X6 at h2';simp at h2';obtain⟨e1,e2⟩:=h2';subst e1 e2;have h0:Tm.Rt (d+1) (.mk 1 n (nowP ps a) b vs [] []):=by
   rw[Tm.Rt];exact⟨h1,h2,h3,by simp,by simp⟩
  exact h0
 ·obtain⟨q1,q2⟩:=hL xs 0 a c (fun _ h=>h);obtain⟨q3,q4⟩:=hC cs (Tm.rns k a ps 0 xs a c).2.2 (fun _ h=>h);refine⟨h1,?_,?_,q1,q3⟩
  ·rw[q2,q4];exact h2
  ·rw[q2,q4];exact h3
def Ej:Nat→List ByteArray→ByteArray→ByteArray
 |_,[],o=>o
 |i,x::r,o=>Ej (i+1) r ((if 0<i then o++⟨#[32]⟩else o)++x)
def shK (k n:Int) (a b V A M:ByteArray):ByteArray:=
 if k=1 then a else if k=2 then Gj n
 else if k=3 then ((⟨#[40]⟩++(⟨#[35]⟩++Gj n))++A)++⟨#[41]⟩
 else if k=4 then ((⟨#[40]⟩++a)++A)++⟨#[41]⟩
 else if k=5 then (if 0<n∧n<6 then ((⟨#[40]⟩++(⟨#[43,45,42,60,61]⟩:ByteArray).extract (n-1).toNat n.toNat)++A)++⟨#[41]⟩else⟨#[63]⟩)
 else if k=6 then ((⟨#[40,108,101,116,32]⟩++a)++A)++⟨#[41]⟩
 else if k=7 then M++⟨#[41]⟩
 else if k=8 then ((⟨#[40,100,117,112,32]⟩++a)++A)++⟨#[41]⟩
 else if k=9 then ((⟨#[40,100,114,111,112,32]⟩++a)++A)++⟨#[41]⟩
 else if k=10 then (((((⟨#[40,116,97,107,101,32]⟩++a)++⟨#[32,40]⟩)++V)++⟨#[41]⟩)++A)++⟨#[41]⟩
 else if k=11 then (((((((⟨#[40,104,111,108,100,32]⟩++a)++⟨#[32]⟩)++b)++⟨#[32,40]⟩)++V)++⟨#[41]⟩)++A)++⟨#[41]⟩
 else if k=12 then ((((⟨#[40,117,115,101,32]⟩++b)++⟨#[32]⟩)++(⟨#[35]⟩++Gj n))++A)++⟨#[41]⟩
 else if k=13 then ((⟨#[40,102,114,101,101,32]⟩++b)++A)++⟨#[41]⟩
 else⟨#[63]⟩
mutual
def Tm.sh:Tm→ByteArray
 | .mk k n a b vs xs cs=>shK k n a b (Ej 0 vs ⟨#[]⟩) (Tm.shL xs ⟨#[]⟩) (Cs.shL cs (⟨#[40,109,97,116,99,104]⟩++Tm.shL xs ⟨#[]⟩))
def Tm.shL:List Tm→ByteArray→ByteArray
 |[],o=>o
 |x::r,o=>Tm.shL r ((o++⟨#[32]⟩)++x.sh)
def Cs.shL:List Cs→ByteArray→ByteArray
 |[],o=>o
 |c::r,o=>Cs.shL r (c.shC o)
def Cs.shC:Cs→ByteArray→ByteArray
 | .mk t ws y,o=>((Ej 0 ws (((o++⟨#[32,40,35]⟩)++Gj t)++⟨#[32,40]⟩)++⟨#[41,32]⟩)++y.sh)++⟨#[41]⟩
end
def Fn.shL:List Fn→ByteArray→ByteArray
 |[],o=>o
 |f::r,o=>Fn.shL r (((Ej 0 f.params (((o++⟨#[40,102,110,32]⟩)++f.name)++⟨#[32,40]⟩)++⟨#[41,32]⟩)++f.body.sh)++⟨#[41,10]⟩)
theorem Tm.sz_ge (t:Tm):1≤t.sz:=by obtain⟨k,n,a,b,vs,xs,cs⟩:=t;simp only[Tm.sz];omega
def strW:List ByteArray→Nat
 |[]=>0
 |s::r=>s.size+1+strW r
mutual
def Tm.wt:Tm→Nat
 | .mk k n a b vs xs cs=>60+a.size+b.size+strW vs+Tm.wtL xs+Cs.wtL cs
def Tm.wtL:List Tm→Nat
 |[]=>0
 |x::r=>1+x.wt+Tm.wtL r
def Cs.wtL:List Cs→Nat
 |[]=>0
 |c::r=>c.wt+Cs.wtL r
def Cs.wt:Cs→Nat
 | .mk t ws y=>40+strW ws+y.wt
end
mutual
def Tm.In:Tm→Prop
 | .mk k n a b vs xs cs=>inI n∧Tm.InL xs∧Cs.InL cs
def Tm.InL:List Tm→Prop
 |[]=>True
 |x::r=>x.In∧Tm.InL r
def Cs.InL:List Cs→Prop
 |[]=>True
 |c::r=>c.In∧Cs.InL r
def Cs.In:Cs→Prop
 | .mk t ws y=>inI t∧y.In
end
theorem Tm.InL_iff:∀{l:List Tm},Tm.InL l↔∀x∈l,x.In
 |[]=>by simp[Tm.InL]
 |x::r=>by simp[Tm.InL,Tm.InL_iff (l:=r)]
theorem Cs.InL_iff:∀{l:List Cs},Cs.InL l↔∀x∈l,x.In
 |[]=>by simp[Cs.InL]
 |x::r=>by simp[Cs.InL,Cs.InL_iff (l:=r)]
theorem strW_len:∀l:List ByteArray,l.length≤strW l
 |[]=>Nat.le_refl _
 |x::r=>by have:=strW_len r;simp only[strW,List.length_cons];omega
theorem Tm.Qj1:∀l:List Tm,l.length≤Tm.wtL l
 |[]=>Nat.le_refl _
 |x::r=>by have:=Tm.Qj1 r;simp only[Tm.wtL,List.length_cons];omega
theorem Cs.Qj1:∀l:List Cs,l.length≤Cs.wtL l
 |[]=>Nat.le_refl _
 | .mk t ws y::r=>by have:=Cs.Qj1 r;simp only[Cs.wtL,Cs.wt,List.length_cons];omega
theorem Qk4:∀(l:List ByteArray) (i:Nat) (o:ByteArray),(Ej i l o).size≤o.size+strW l
 |[],_,o=>Nat.le_refl _
 |x::r,i,o=>by
  have h:=Qk4 r (i+1) ((if 0<i then o++⟨#[32]⟩else o)++x);rw[Ej,strW];have h2:((if 0<i then o++⟨#[32]⟩else o)++x).size≤o.size+1+x.size:=by
   split<;> simp[ByteArray.size_append]
  omega
theorem zl0:(⟨#[35]⟩:ByteArray).size=1:=rfl
theorem zl1:(⟨#[63]⟩:ByteArray).size=1:=rfl
theorem zl2:(⟨#[40]⟩:ByteArray).size=1:=rfl
theorem zl3:(⟨#[32]⟩:ByteArray).size=1:=rfl
theorem zl4:(⟨#[41]⟩:ByteArray).size=1:=rfl
theorem zl5:(⟨#[41,32]⟩:ByteArray).size=2:=rfl
theorem zl6:(⟨#[41,10]⟩:ByteArray).size=2:=rfl
theorem zl7:(⟨#[32,40]⟩:ByteArray).size=2:=rfl
theorem zl8:(⟨#[32,40,35]⟩:ByteArray).size=3:=rfl
theorem zl9:(⟨#[40,102,110,32]⟩:ByteArray).size=4:=rfl
theorem Qq9:(⟨#[43,45,42,60,61]⟩:ByteArray).size=5:=rfl
theorem Qq8:(⟨#[40,100,117,112,32]⟩:ByteArray).size=5:=rfl
theorem Qq7:(⟨#[40,117,115,101,32]⟩:ByteArray).size=5:=rfl
theorem Qq6:(⟨#[40,108,101,116,32]⟩:ByteArray).size=5:=rfl
theorem Qq5:(⟨#[40,116,97,107,101,32]⟩:ByteArray).size=6:=rfl
theorem Qq4:(⟨#[40,109,97,116,99,104]⟩:ByteArray).size=6:=rfl
theorem Qq3:(⟨#[40,102,114,101,101,32]⟩:ByteArray).size=6:=rfl
theorem Qq2:(⟨#[40,100,114,111,112,32]⟩:ByteArray).size=6:=rfl
theorem Qq1:(⟨#[40,104,111,108,100,32]⟩:ByteArray).size=6:=rfl
theorem shK_size {k n:Int} {a b V A M:ByteArray} (hn:inI n):(shK k n a b V A M).size≤50+a.size+b.size+V.size+A.size+(if k=7 then M.size else 0):=by
 have h1:=Rx hn;have h2:((⟨#[43,45,42,60,61]⟩:ByteArray).extract (n-1).toNat n.toNat).size≤5:=by
  have e5:(⟨#[43,45,42,60,61]⟩:ByteArray).size=5:=rfl;rw[ByteArray.size_extract,e5];omega
 by_cases hk7:k=7
 ·subst hk7;unfold shK;rw[if_neg (by omega),if_neg (by omega),if_neg (by omega),if_neg (by omega),if_neg (by omega),if_neg (by omega),if_pos rfl,if_pos rfl,ByteArray.size_append,zl4];omega
 rw[if_neg hk7];unfold shK;by_cases k1:k=1
 ·rw[if_pos k1];omega
 rw[if_neg k1];by_cases k2:k=2
 ·rw[if_pos k2];omega
 rw[if_neg k2];by_cases k3:k=3
 ·rw[if_pos k3];simp only[ByteArray.size_append,zl0,zl1,zl2,zl3,zl4,zl5,zl6,zl7,zl8,zl9,Qq9,Qq8,Qq7,Qq6,Qq5,Qq4,Qq3,Qq2,Qq1];omega
 rw[if_neg k3];by_cases k4:k=4
 ·rw[if_pos k4];simp only[ByteArray.size_append,zl0,zl1,zl2,zl3,zl4,zl5,zl6,zl7,zl8,zl9,Qq9,Qq8,Qq7,Qq6,Qq5,Qq4,Qq3,Qq2,Qq1];omega
 rw[if_neg k4];by_cases k5:k=5
 ·rw[if_pos k5];split
  ·simp only[ByteArray.size_append,zl0,zl1,zl2,zl3,zl4,zl5,zl6,zl7,zl8,zl9,Qq9,Qq8,Qq7,Qq6,Qq5,Qq4,Qq3,Qq2,Qq1];omega
  ·simp only[zl0,zl1,zl2,zl3,zl4,zl5,zl6,zl7,zl8,zl9,Qq9,Qq8,Qq7,Qq6,Qq5,Qq4,Qq3,Qq2,Qq1];omega
 rw[if_neg k5];by_cases k6:k=6
 ·rw[if_pos k6];simp only[ByteArray.size_append,zl0,zl1,zl2,zl3,zl4,zl5,zl6,zl7,zl8,zl9,Qq9,Qq8,Qq7,Qq6,Qq5,Qq4,Qq3,Qq2,Qq1];omega
 rw[if_neg k6];rw[if_neg hk7];by_cases k8:k=8
 ·rw[if_pos k8];simp only[ByteArray.size_append,zl0,zl1,zl2,zl3,zl4,zl5,zl6,zl7,zl8,zl9,Qq9,Qq8,Qq7,Qq6,Qq5,Qq4,Qq3,Qq2,Qq1];omega
 rw[if_neg k8];by_cases k9:k=9
 ·rw[if_pos k9];simp only[ByteArray.size_append,zl0,zl1,zl2,zl3,zl4,zl5,zl6,zl7,zl8,zl9,Qq9,Qq8,Qq7,Qq6,Qq5,Qq4,Qq3,Qq2,Qq1];omega
 rw[if_neg k9];by_cases k10:k=10
 ·rw[if_pos k10];simp only[ByteArray.size_append,zl0,zl1,zl2,zl3,zl4,zl5,zl6,zl7,zl8,zl9,Qq9,Qq8,Qq7,Qq6,Qq5,Qq4,Qq3,Qq2,Qq1];omega
 rw[if_neg k10];by_cases k11:k=11
 ·rw[if_pos k11];simp only[ByteArray.size_append,zl0,zl1,zl2,zl3,zl4,zl5,zl6,zl7,zl8,zl9,Qq9,Qq8,Qq7,Qq6,Qq5,Qq4,Qq3,Qq2,Qq1];omega
 rw[if_neg k11];by_cases k12:k=12
 ·rw[if_pos k12];simp only[ByteArray.size_append,zl0,zl1,zl2,zl3,zl4,zl5,zl6,zl7,zl8,zl9,Qq9,Qq8,Qq7,Qq6,Qq5,Qq4,Qq3,Qq2,Qq1];omega
 rw[if_neg k12];by_cases k13:k=13
 ·rw[if_pos k13];simp only[ByteArray.size_append,zl0,zl1,zl2,zl3,zl4,zl5,zl6,zl7,zl8,zl9,Qq9,Qq8,Qq7,Qq6,Qq5,Qq4,Qq3,Qq2,Qq1];omega
 rw[if_neg k13];simp only[zl0,zl1,zl2,zl3,zl4,zl5,zl6,zl7,zl8,zl9,Qq9,Qq8,Qq7,Qq6,Qq5,Qq4,Qq3,Qq2,Qq1];omega
mutual
theorem Tm.sh_size:∀t:Tm,t.In→t.sh.size≤t.wt
 | .mk k n a b vs xs cs,h=>by
  obtain⟨h1,h2,h3⟩:=h;have g1:=Qk4 vs 0 ⟨#[]⟩;have g2:=Tm.Qz3 xs ⟨#[]⟩ h2;have g3:=Cs.Qz3 cs (⟨#[40,109,97,116,99,104]⟩++Tm.shL xs ⟨#[]⟩) h3;have g4:=shK_size (k:=k) (n:=n) (a:=a) (b:=b) (V:=Ej 0 vs ⟨#[]⟩) (A:=Tm.shL xs ⟨#[]⟩) (M:=Cs.shL cs (⟨#[40,109,97,116,99,104]⟩++Tm.shL xs ⟨#[]⟩)) h1;have e:(⟨#[]⟩:ByteArray).size=0:=rfl;have e6:(⟨#[40,109,97,116,99,104]⟩:ByteArray).size=6:=rfl;rw[ByteArray.size_append,e6]at g3;rw[Tm.sh,Tm.wt];by_cases hk:k=7
  ·subst hk;have e7:(shK 7 n a b (Ej 0 vs ⟨#[]⟩) (Tm.shL xs ⟨#[]⟩) (Cs.shL cs (⟨#[40,109,97,116,99,104]⟩++Tm.shL xs ⟨#[]⟩))).size=(Cs.shL cs (⟨#[40,109,97,116,99,104]⟩++Tm.shL xs ⟨#[]⟩)).size+1:=by
    unfold shK;rw[if_neg (by omega),if_neg (by omega),if_neg (by omega),if_neg (by omega),if_neg (by omega),if_neg (by omega),if_pos rfl,ByteArray.size_append];rfl
   omega
  ·rw[if_neg hk]at g4;omega
theorem Tm.Qz3:∀(l:List Tm) (o:ByteArray),Tm.InL l→(Tm.shL l o).size≤o.size+Tm.wtL l
 |[],o,_=>Nat.le_refl _
 |x::r,o,h=>by
  have g1:=Tm.sh_size x h.1;have g2:=Tm.Qz3 r ((o++⟨#[32]⟩)++x.sh) h.2;have e1:(⟨#[32]⟩:ByteArray).size=1:=rfl;rw[ByteArray.size_append,ByteArray.size_append,e1]at g2;rw[Tm.shL,Tm.wtL];omega
theorem Cs.Qz3:∀(l:List Cs) (o:ByteArray),Cs.InL l→(Cs.shL l o).size≤o.size+Cs.wtL l
 |[],o,_=>Nat.le_refl _
 |x::r,o,h=>by
  have g1:=Cs.shC_size x o h.1;have g2:=Cs.Qz3 r (x.shC o) h.2;rw[Cs.shL,Cs.wtL];omega
theorem Cs.shC_size:∀(c:Cs) (o:ByteArray),c.In→(c.shC o).size≤o.size+c.wt
 | .mk t ws y,o,h=>by
  have g1:=Tm.sh_size y h.2;have g2:=Rx h.1;have g3:=Qk4 ws 0 (((o++⟨#[32,40,35]⟩)++Gj t)++⟨#[32,40]⟩);rw[Cs.shC,Cs.wt];simp only[ByteArray.size_append,zl0,zl1,zl2,zl3,zl4,zl5,zl6,zl7,zl8,zl9,Qq9,Qq8,Qq7,Qq6,Qq5,Qq4,Qq3,Qq2,Qq1]at g3⊢;omega
end
def Fn.wtL:List Fn→Nat
 |[]=>0
 |f::r=>20+f.name.size+strW f.params+f.body.wt+Fn.wtL r
theorem Fn.Qj1:∀l:List Fn,l.length≤Fn.wtL l
 |[]=>Nat.le_refl _
 |f::r=>by have:=Fn.Qj1 r;simp only[Fn.wtL,List.length_cons];omega
theorem Fn.Qj0 {f:Fn}:∀{l:List Fn},f∈l→20+f.name.size+strW f.params+f.body.wt≤Fn.wtL l
 |x::l,h=>by
  simp only[Fn.wtL];rcases List.mem_cons.1 h with rfl|h
  ·omega
  ·have:=Fn.Qj0 h;omega
theorem Tm.Qj0 {t:Tm}:∀{l:List Tm},t∈l→1+t.wt≤Tm.wtL l
 |x::l,h=>by
  simp only[Tm.wtL];rcases List.mem_cons.1 h with rfl|h
  ·omega
  ·have:=Tm.Qj0 h;omega
theorem Cs.Qj0 {t:Cs}:∀{l:List Cs},t∈l→t.wt≤Cs.wtL l
 |x::l,h=>by
  simp only[Cs.wtL];rcases List.mem_cons.1 h with rfl|h
  ·omega
  ·have:=Cs.Qj0 h;omega
@[simp] theorem le_maxLen0:0≤maxLen:=by decide
@[simp] theorem le_maxLen4:4≤maxLen:=by decide
@[simp] theorem le_maxLen6:6≤maxLen:=by decide
@[simp] theorem le_maxLen7:7≤maxLen:=by decide
@[simp] theorem le_maxLen8:8≤maxLen:=by decide
@[simp] theorem le_maxLen9:9≤maxLen:=by decide
@[simp] theorem le_maxLen10:10≤maxLen:=by decide
@[simp] theorem le_maxLen11:11≤maxLen:=by decide
@[simp] theorem le_maxLen12:12≤maxLen:=by decide
def strOkB (s:ByteArray):Bool:=Nat.ble s.size 1000
mutual
def Tm.okB:Tm→Bool
 | .mk _ n a b vs xs cs=>(strOkB a && (strOkB b && vs.all strOkB)) && ((Nat.ble vs.length 1000 && (Nat.ble xs.length 1000 && Nat.ble cs.length 1000)) && ((decide (-1000000≤n) && decide (n≤1000000)) && (Tm.okBs xs && Cs.okBs cs)))
def Tm.okBs:List Tm→Bool
 |[]=>true
 |x::r=>x.okB && Tm.okBs r
def Cs.okBs:List Cs→Bool
 |[]=>true
 |c::r=>c.okB && Cs.okBs r
def Cs.okB:Cs→Bool
 | .mk t ws y=>(decide (-1000000≤t) && decide (t≤1000000)) && ((Nat.ble ws.length 1000 && ws.all strOkB) && y.okB)
end
theorem Ck {s:ByteArray} (h:strOkB s=true):s.size≤1000:=Nat.le_of_ble_eq_true h
mutual
theorem Tm.okB_ok:∀t:Tm,t.okB=true→t.Ok∧t.In
 | .mk k n a b vs xs cs,h=>by
  simp only[Tm.okB,Bool.and_eq_true,List.all_eq_true,decide_eq_true_eq]at h;obtain⟨⟨h1,h2,h3⟩,⟨h4,h5,h6⟩,⟨h7,h8⟩,h9,h10⟩:=h;have g1:=Ck h1;have g2:=Ck h2;have g4:=Nat.le_of_ble_eq_true h4;have g5:=Nat.le_of_ble_eq_true h5;have g6:=Nat.le_of_ble_eq_true h6;obtain⟨p1,p2⟩:=Tm.okBs_ok xs h9;obtain⟨p3,p4⟩:=Cs.okBs_ok cs h10;exact⟨⟨⟨by omega,by omega,fun s hs=>by have:=Ck (h3 s hs);omega⟩,⟨by omega,by omega,by omega⟩,p1,p3⟩,⟨by omega,by omega⟩,p2,p4⟩
theorem Tm.okBs_ok:∀l:List Tm,Tm.okBs l=true→Tm.Oks l∧Tm.InL l
 |[],_=>⟨trivial,trivial⟩
 |x::r,h=>by
  rw[Tm.okBs,Bool.and_eq_true]at h;obtain⟨h1,h2⟩:=Tm.okB_ok x h.1;obtain⟨h3,h4⟩:=Tm.okBs_ok r h.2;exact⟨⟨h1,h3⟩,h2,h4⟩
theorem Cs.okBs_ok:∀l:List Cs,Cs.okBs l=true→Cs.Oks l∧Cs.InL l
 |[],_=>⟨trivial,trivial⟩
 |x::r,h=>by
  rw[Cs.okBs,Bool.and_eq_true]at h;obtain⟨h1,h2⟩:=Cs.okB_ok x h.1;obtain⟨h3,h4⟩:=Cs.okBs_ok r h.2;exact⟨⟨h1,h3⟩,h2,h4⟩
theorem Cs.okB_ok:∀c:Cs,c.okB=true→c.Ok∧c.In
 | .mk t ws y,h=>by
  simp only[Cs.okB,Bool.and_eq_true,List.all_eq_true,decide_eq_true_eq]at h;obtain⟨⟨h1,h2⟩,⟨h3,h4⟩,h5⟩:=h;have g3:=Nat.le_of_ble_eq_true h3;obtain⟨p1,p2⟩:=Tm.okB_ok y h5;exact⟨⟨fun s hs=>by have:=Ck (h4 s hs);omega,by omega,p1⟩,⟨by omega,by omega⟩,p2⟩
end
def Fn.okB (f:Fn):Bool:=strOkB f.name && ((Nat.ble f.params.length 1000 && f.params.all strOkB) && f.body.okB)
def fnsOkB (l:List Fn):Bool:=Nat.ble l.length 1000 && l.all Fn.okB
theorem Fn.okB_ok {f:Fn} (h:f.okB=true):f.Ok∧f.body.In:=by
 simp only[Fn.okB,Bool.and_eq_true,List.all_eq_true]at h;obtain⟨h1,⟨h2,h3⟩,h4⟩:=h;have g1:=Ck h1;have g2:=Nat.le_of_ble_eq_true h2;obtain⟨p1,p2⟩:=Tm.okB_ok _ h4;exact⟨⟨by omega,by omega,fun s hs=>by have:=Ck (h3 s hs);omega,p1⟩,p2⟩
theorem fnsOk_of {l:List Fn} (h:fnsOkB l=true):M9 l:=by
 simp only[fnsOkB,Bool.and_eq_true,List.all_eq_true]at h;have g:=Nat.le_of_ble_eq_true h.1;exact⟨by omega,fun f hf=>(Fn.okB_ok (h.2 f hf)).1⟩
def IdP (ps:Ps):Prop:=∀p∈ps,p.1=p.2
theorem IdP.append {ps qs:Ps} (h:IdP ps) (h2:IdP qs):IdP (ps++qs):=fun p hp=>(List.mem_append.1 hp).elim (h p) (h2 p)
theorem IdP.zip (l:List ByteArray):IdP (l.zip l):=by
 induction l with
 |nil=>intro p hp;cases hp
 |cons x r ih=>
  intro p hp;rw[List.zip_cons_cons]at hp;rcases List.mem_cons.1 hp with rfl|hp
  ·rfl
  ·exact ih p hp
theorem rt_let {d:Nat} {k n:Int} {a b:ByteArray} {vs:List ByteArray} {xs:List Tm} {cs:List Cs} (h:(Tm.mk k n a b vs xs cs).Rt (d+1)) (hk:k=6):∃x y,xs=[x,y]∧cs=[]:=by
 obtain⟨_,hm,_⟩:=h;subst hk;unfold X6 at hm;simp at hm;obtain⟨h2,rfl⟩:=hm;rcases xs with _|⟨x,_|⟨y,_|⟨z,l⟩⟩⟩
 ·cases h2
 ·cases h2
 ·exact⟨x,y,rfl,rfl⟩
 ·simp at h2
theorem rns_no {k:Int} (hk:k≠6) (a:ByteArray) (ps:Ps):∀(l:List Tm) (i:Nat) (nm:ByteArray) (c:Int),(Tm.rns k a ps i l nm c).2.1=nm
 |[],_,_,_=>rfl
 |x::r,i,nm,c=>by
  rw[Tm.rns,if_neg fun h=>hk h.1];exact rns_no hk a ps r _ _ _
mutual
def Tm.bd:Tm→List ByteArray
 | .mk k _ a _ _ xs cs=>(if k=6 then[a]else[])++(Tm.bdL xs++Cs.bdL cs)
def Tm.bdL:List Tm→List ByteArray
 |[]=>[]
 |x::r=>x.bd++Tm.bdL r
def Cs.bdL:List Cs→List ByteArray
 |[]=>[]
 |c::r=>c.bd++Cs.bdL r
def Cs.bd:Cs→List ByteArray
 | .mk _ ws y=>ws++y.bd
end
def Lj (c:Int) (n:Nat):List ByteArray:=(List.range n).map fun(i:Nat)=>vNm (c+1+(i:Int))
theorem Tx (c:Int) (m n:Nat):Lj c (m+n)=Lj c m++Lj (c+m) n:=by
 unfold Lj;rw[List.range_add,List.map_append,List.map_map];congr 1;refine List.map_congr_left fun i _=>?_
 show vNm _=vNm _;congr 1
 push_cast
 omega
theorem seqV_one (c:Int):Lj c 1=[vNm (c+1)]:=by simp[Lj]
theorem wr_of {c:Int} (h:0≤c) (h2:c<9223372036854775807):wr c=c:=wr_id ⟨by omega,by omega⟩
theorem Px:∀(l:List ByteArray) (c:Int),0≤c→c+l.length<9223372036854775807→J2 l c=Lj c l.length∧U7 l c=c+l.length
 |[],c,_,_=>⟨rfl,by simp[U7]⟩
 |x::r,c,h,h2=>by
  rw[List.length_cons]at h2;have hw:wr (c+1)=c+1:=wr_of (by omega) (by omega);obtain⟨h3,h4⟩:=Px r (c+1) (by omega) (by omega);refine⟨?_,?_⟩
  ·rw[J2,hw,h3,List.length_cons,Nat.add_comm r.length 1,Tx,seqV_one];rfl
  ·rw[U7,hw,h4,List.length_cons];omega
theorem bd_rn:∀(d:Nat) (t:Tm) (ps:Ps) (c:Int),t.Rt d→0≤c→c+t.bd.length<9223372036854775807→(t.rn ps c).1.bd.Perm (Lj c t.bd.length)∧(t.rn ps c).2=c+t.bd.length:=by
 intro d;induction d with
 |zero=>intro t _ _ h;exact h.elim
 |succ d ih=>
 intro t ps c hR h0 hb;obtain⟨k,n,a,b,vs,xs,cs⟩:=t;have hR':=hR;obtain⟨hk,hmany,_,hx,hc⟩:=hR';rw[Tm.rn];by_cases hk1:k=1
 ·subst hk1;unfold X6 at hmany;simp at hmany;obtain⟨rfl,rfl⟩:=hmany;rw[if_pos rfl];exact⟨by simp[Tm.bd,Tm.bdL,Cs.bdL,Lj],by simp[Tm.bd,Tm.bdL,Cs.bdL]⟩
 rw[if_neg hk1];by_cases hk6:k=6
 ·obtain⟨x,y,rfl,rfl⟩:=rt_let hR hk6;subst hk6;have hl:(Tm.mk 6 n a b vs [x,y] []).bd.length=x.bd.length+(1+y.bd.length):=by simp[Tm.bd,Tm.bdL,Cs.bdL];omega
  rw[hl]at hb⊢;obtain⟨h1,h2⟩:=ih x ps c (hx x (by simp)) h0 (by push_cast at hb⊢;omega);have hw:wr (c+x.bd.length+1)=c+x.bd.length+1:=wr_of (by omega) (by push_cast at hb;omega);obtain⟨h3,h4⟩:=ih y (ps++[(a,vNm (c+x.bd.length+1))]) (c+x.bd.length+1) (hx y (by simp)) (by omega) (by push_cast at hb⊢;omega);refine⟨?_,?_⟩
  ·simp[Tm.rns,Cs.rnL,Tm.bd,Tm.bdL,Cs.bdL,h2,hw];rw[Tx,Tx,seqV_one,show c+(x.bd.length:Int)+((1:Nat):Int)=c+x.bd.length+1 from by omega];refine List.Perm.trans ?_ ((List.perm_middle (a:=vNm (c+x.bd.length+1)) (l₁:=Lj c x.bd.length) (l₂:=Lj (c+x.bd.length+1) y.bd.length)).symm);exact List.Perm.cons _ (h1.append h3)
  ·simp[Tm.rns,Cs.rnL,h2,hw,h4];omega
 ·have hL:∀(ys:List Tm) (i:Nat) (nm:ByteArray) (c:Int),(∀y∈ys,y∈xs)→0≤c→c+(Tm.bdL ys).length<9223372036854775807→(Tm.bdL (Tm.rns k a ps i ys nm c).1).Perm (Lj c (Tm.bdL ys).length)∧(Tm.rns k a ps i ys nm c).2.2=c+(Tm.bdL ys).length:=by
   intro ys;induction ys with
   |nil=>intro i nm c _ _ _;exact⟨by simp[Tm.rns,Tm.bdL,Lj],by simp[Tm.rns,Tm.bdL]⟩
   |cons y r ih2=>
    intro i nm c hm h0 hb;rw[Tm.bdL,List.length_append]at hb⊢;obtain⟨h1,h2⟩:=ih y ps c (hx y (hm y (List.mem_cons_self ..))) h0 (by push_cast at hb;omega);obtain⟨h3,h4⟩:=ih2 (i+1) nm (c+y.bd.length) (fun z hz=>hm z (List.mem_cons_of_mem _ hz)) (by omega) (by push_cast at hb;omega);rw[Tm.rns,if_neg fun h=>hk6 h.1,h2];dsimp only;rw[Tm.bdL,Tx];exact⟨h1.append h3,by rw[h4];push_cast;omega⟩
  have hC:∀(ys:List Cs) (c:Int),(∀y∈ys,y∈cs)→0≤c→c+(Cs.bdL ys).length<9223372036854775807→(Cs.bdL (Cs.rnL ys ps c).1).Perm (Lj c (Cs.bdL ys).length)∧(Cs.rnL ys ps c).2=c+(Cs.bdL ys).length:=by
   intro ys;induction ys with
   |nil=>intro c _ _ _;exact⟨by simp[Cs.rnL,Cs.bdL,Lj],by simp[Cs.rnL,Cs.bdL]⟩
   |cons y r ih2=>
    intro c hm h0 hb;have hy:=hm y (List.mem_cons_self ..);obtain⟨t,ws,y⟩:=y;rw[Cs.bdL,Cs.bd,List.length_append,List.length_append]at hb⊢;obtain⟨e1,e2⟩:=Px ws c h0 (by push_cast at hb;omega);obtain⟨h1,h2⟩:=ih y (ps++ws.zip (J2 ws c)) (c+ws.length) (hc _ hy).2 (by omega) (by push_cast at hb;omega);obtain⟨h3,h4⟩:=ih2 (c+ws.length+y.bd.length) (fun z hz=>hm z (List.mem_cons_of_mem _ hz)) (by omega) (by push_cast at hb;omega);rw[Cs.rnL,Cs.rn,e2,h2];dsimp only;rw[Cs.bdL,Cs.bd,Tx,Tx,show c+((ws.length+y.bd.length:Nat):Int)=c+ws.length+y.bd.length from by push_cast;omega,e1];exact⟨((List.Perm.refl _).append (by rw[←e1];exact h1)).append h3,by rw[h4];push_cast;omega⟩
  have hl:(Tm.mk k n a b vs xs cs).bd.length=(Tm.bdL xs).length+(Cs.bdL cs).length:=by simp[Tm.bd,hk6]
  rw[hl]at hb⊢;obtain⟨h1,h2⟩:=hL xs 0 a c (fun _ h=>h) h0 (by push_cast at hb;omega);obtain⟨h3,h4⟩:=hC cs (c+(Tm.bdL xs).length) (fun _ h=>h) (by omega) (by push_cast at hb;omega);rw[h2];dsimp only;rw[Tm.bd,if_neg hk6,List.nil_append,Tx];exact⟨h1.append h3,by rw[h4];push_cast;omega⟩
def decVal (l:List UInt8):Nat:=l.foldl (fun a c=>a * 10+(c.toNat-48)) 0
theorem decVal_digits (u:Nat):decVal (Lib.decDigits u)=u:=by
 induction u using Nat.strongRecOn with
 |_ u ih=>
  by_cases h:u<10
  ·rw[Lib.decDigits,dif_pos h];have h1:(UInt8.ofNat (48+u)).toNat=48+u:=by rw[UInt8.toNat_ofNat'];omega
   simp only[decVal,List.foldl_cons,List.foldl_nil,h1];omega
  ·rw[Lib.decDigits,dif_neg h];have h1:(UInt8.ofNat (48+u % 10)).toNat=48+u % 10:=by rw[UInt8.toNat_ofNat'];omega
   have h2:=ih (u / 10) (by omega);unfold decVal at h2⊢;rw[List.foldl_append,h2,List.foldl_cons,List.foldl_nil,h1];omega
theorem itoaB_inj {a b:Int} (ha:0≤a) (hb:0≤b) (h:Gj a=Gj b):a=b:=by
 unfold Gj Lib.itoa at h;rw[if_neg (by omega),if_neg (by omega)]at h;injection h with h;have h1:Lib.decDigits a.toNat=Lib.decDigits b.toNat:=by
  have:=congrArg Array.toList h;simpa using this
 have h2:=congrArg decVal h1;rw[decVal_digits,decVal_digits]at h2;omega
theorem append_left_inj {p a b:ByteArray} (h:p++a=p++b):a=b:=by
 have h1:=congrArg (fun x:ByteArray=>x.data.toList) h;simp only[ByteArray.data_append,Array.toList_append]at h1;have h2:=List.append_cancel_left h1;obtain⟨a⟩:=a;obtain⟨b⟩:=b;congr 1;exact Array.toList_inj.1 h2
theorem vNm_inj {a b:Int} (ha:0≤a) (hb:0≤b) (h:vNm a=vNm b):a=b:=itoaB_inj ha hb (append_left_inj h)
theorem seqV_nodup {c:Int} (hc:0≤c) (n:Nat):(Lj c n).Nodup:=by
 unfold Lj;rw[List.nodup_iff_pairwise_ne,List.pairwise_map];refine List.Pairwise.imp ?_ List.nodup_range;intro a b hab e;have:=vNm_inj (by omega) (by omega) e;omega
def Fn.bd (f:Fn):List ByteArray:=f.params++f.body.bd
theorem Fn.rn_bd (f:Fn) (hr:f.body.Rt 25) (hb:(f.bd.length:Int)<9223372036854775807):f.rn.bd.Nodup:=by
 unfold Fn.bd at hb;rw[List.length_append]at hb
 push_cast at hb
 obtain⟨h1,h2⟩:=Px f.params 0 (by omega) (by omega);obtain⟨h3,_⟩:=bd_rn 25 f.body (f.params.zip (J2 f.params 0)) (U7 f.params 0) hr (by omega) (by omega);unfold Fn.bd Fn.rn;dsimp only;have h4:(J2 f.params 0++(f.body.rn (f.params.zip (J2 f.params 0)) (U7 f.params 0)).1.bd).Perm (Lj 0 (f.params.length+f.body.bd.length)):=by
  rw[Tx];exact(List.Perm.of_eq h1).append (h2▸h3)
 exact h4.nodup_iff.2 (seqV_nodup (by omega) _)
end Go.Proofs.YtjpldhjgehoffaaGreatDoor
